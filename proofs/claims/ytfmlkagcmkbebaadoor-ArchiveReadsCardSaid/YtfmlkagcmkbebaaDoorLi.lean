/- The reference's Cut. -/
import Derived.Test.YtfmlkagcmkbebaaDoorLh
import Derived.Deep.RegionLaw
import Derived.Deep.DeepCutAuto
namespace Go.Proofs.YtfmlkagcmkbebaaDoor
open Go.RowKit

/-- How many pieces. -/
def cutN (n s : Nat) : Nat := max 1 ((n + s - 1) / s)
def part (b : List UInt8) (s k : Nat) : List UInt8 := (b.drop (k * s)).take (min b.length ((k + 1) * s) - k * s)
def piece (b : List UInt8) (s k : Nat) : List UInt8 := frame (80 :: le32 (crc b) ++ uvar k ++ uvar (cutN b.length s) ++ part b s k)
def pieces (b : List UInt8) (s : Nat) : List (List UInt8) := (List.range (cutN b.length s)).map (piece b s)
def cutBad (n : Nat) (size : Int) : Prop := size < 1 ∨ 65536 < size ∨ 1024 < cutN n size.toNat
instance (n : Nat) (size : Int) : Decidable (cutBad n size) := by unfold cutBad; infer_instance

theorem cutN_eq (n s : Nat) (hs : 0 < s) : (n / s * s < n ∨ n / s = 0 → cutN n s = n / s + 1) ∧ (¬ (n / s * s < n) → n / s ≠ 0 → cutN n s = n / s) := by
  have h1 := Nat.div_add_mod n s
  have h2 := Nat.mod_lt n hs
  have h4 : (n + s - 1) / s = if n % s = 0 then n / s else n / s + 1 := by
    split
    · rename_i h
      rw [h, Nat.add_zero] at h1
      have : n + s - 1 = (s - 1) + s * (n / s) := by rw [h1]; omega
      rw [this, Nat.add_mul_div_left _ _ hs, Nat.div_eq_of_lt (by omega)]; omega
    · rename_i h
      have : n + s - 1 = (n % s - 1) + s * (n / s + 1) := by rw [Nat.mul_add]; omega
      rw [this, Nat.add_mul_div_left _ _ hs, Nat.div_eq_of_lt (by omega)]; omega
  have h5 : n / s * s = s * (n / s) := Nat.mul_comm _ _
  unfold cutN
  rw [h4, h5]
  generalize n / s = q at *
  generalize n % s = r at *
  generalize s * q = p at *
  constructor
  · rintro (h | h)
    · rw [if_neg (by omega)]; omega
    · subst h; split <;> omega
  · intro h h'
    rw [if_pos (by omega)]; omega

theorem cutN_pos (n s : Nat) : 1 ≤ cutN n s := by unfold cutN; omega
theorem cutN_mul {n s : Nat} (hs : 0 < s) {k : Nat} (hk : k < cutN n s) : k * s ≤ n ∧ (k + 1 < cutN n s → (k + 1) * s ≤ n) := by
  have h : ∀ j, j < cutN n s → j * s ≤ n := by
    intro j hj
    unfold cutN at hj
    by_cases h0 : j = 0
    · subst h0; omega
    · have : j < (n + s - 1) / s := by omega
      have h1 := (Nat.le_div_iff_mul_le hs).1 (show j + 1 ≤ (n + s - 1) / s from this)
      rw [Nat.add_mul] at h1; omega
  exact ⟨h k hk, h (k + 1)⟩
theorem cutN_le {n s : Nat} (hs : 0 < s) : cutN n s ≤ n + 1 := by
  unfold cutN
  have : (n + s - 1) / s ≤ n + 1 := by
    have := Nat.div_le_self n s
    have h := (cutN_eq n s hs)
    unfold cutN at h
    by_cases h1 : n / s * s < n ∨ n / s = 0
    · have := h.1 h1; omega
    · have := h.2 (fun x => h1 (.inl x)) (fun x => h1 (.inr x)); omega
  omega
theorem part_len (b : List UInt8) (s k : Nat) : (part b s k).length ≤ s := by
  unfold part; rw [List.length_take]; have : (k + 1) * s = k * s + s := by rw [Nat.add_mul, Nat.one_mul]
  omega

theorem part_hi {b : List UInt8} {s k : Nat} (h : k * s ≤ b.length) : ∃ hi, k * s ≤ hi ∧ hi ≤ b.length ∧ (b.length < k * s + s → hi = b.length) ∧ (¬ b.length < k * s + s → hi = k * s + s) ∧ part b s k = (b.drop (k * s)).take (hi - k * s) :=
  ⟨min b.length (k * s + s), by omega, by omega, by omega, by omega, by unfold part; rw [Nat.add_mul, Nat.one_mul]⟩
theorem wrap_nat {x : Nat} (h : x < 9223372036854775808) : wrap64 (x : Int) = (x : Int) := by unfold wrap64; omega
theorem wrap_mul {k s n : Nat} (h : k * s ≤ n) (hn : n < 9223372036854775808) : wrap64 ((k : Int) * (s : Int)) = ((k * s : Nat) : Int) := by rw [← Int.natCast_mul]; exact wrap_nat (by omega)
theorem wrap_mul1 {k s n : Nat} (h : k * s ≤ n) (hn : n ≤ 262144) (hs : s ≤ 65536) : wrap64 (((k : Int) + 1) * (s : Int)) = ((k * s + s : Nat) : Int) := by
  rw [show ((k : Int) + 1) * (s : Int) = ((k * s + s : Nat) : Int) by rw [Int.add_mul, Int.one_mul, Int.natCast_add, Int.natCast_mul]]; exact wrap_nat (by omega)

theorem Obs.mono {w : World} {B B' : Nat} {v : Value} {xss : List (List UInt8)} (h : Obs w B v xss) (hb : B' ≤ B) : Obs w B' v xss := by
  obtain ⟨vs, h1, h2, h3⟩ := h
  exact ⟨vs, own_mono h1 hb, h2, fun i u xs a b => own_mono (h3 i u xs a b) hb⟩
/-- What the reference's Cut answers. -/
def RCut (w : World) (b : List UInt8) (size : Int) (e : Ending) (w' : World) : Prop :=
  Below w.heap.size w w' ∧ (cutBad b.length size → e = .returned (.tuple #[.slice none 0 0, .int .i64 1])) ∧
    (¬ cutBad b.length size → ∃ v, e = .returned (.tuple #[v, .int .i64 0]) ∧ Obs w' w.heap.size v (pieces b size.toNat))

theorem RCut.bad {w w' : World} {b : List UInt8} {size : Int} (h : Below w.heap.size w w') (hb : cutBad b.length size) : RCut w b size (.returned (.tuple #[.slice none 0 0, .int .i64 1])) w' := ⟨h, fun _ => rfl, fun x => absurd hb x⟩

set_option maxRecDepth 100000 in
set_option maxHeartbeats 2000000 in
theorem rCut_any (v : Value) (b : List UInt8) (size : Int) (hx : b.length ≤ 262144) (w : World) (hp : Bs w v b) : Calls Tryd.prog 10 #[v, .int .i64 size] w (RCut w b size) := by
  obtain ⟨A, c, rfl, hn, hc, hr⟩ := hp.form
  have HP := Lib.hid hp
  clear hp hr hc
  go_enter Tryd.func10, Tryd.ntmps10
  by_cases hs1 : size < 1
  · go_wp2
    go_ret2
    exact RCut.bad (Below.refl _ _) (.inl hs1)
  by_cases hs2 : 65536 < size
  · go_wp2
    go_ret2
    exact RCut.bad (Below.refl _ _) (.inr (.inl hs2))
  obtain ⟨s, rfl⟩ : ∃ s : Nat, size = (s : Int) := ⟨size.toNat, by omega⟩
  have hs0 : 0 < s := by omega
  have hs3 : s ≤ 65536 := by omega
  clear hs1 hs2
  obtain ⟨hq1, hq2⟩ := cutN_eq b.length s hs0
  have hq3 : b.length / s ≤ b.length := Nat.div_le_self _ _
  have hq4 : b.length / s * s ≤ b.length := Nat.div_mul_le_self _ _
  have hdv : wrap64 ((b.length : Int) / (s : Int)) = ((b.length / s : Nat) : Int) := by
    rw [← Int.natCast_ediv]; generalize b.length / s = q at *; unfold wrap64; omega
  generalize b.length / s = q at hq1 hq2 hq3 hq4 hdv
  have hml : wrap64 ((q : Int) * (s : Int)) = ((q * s : Nat) : Int) := by
    rw [← Int.natCast_mul]; generalize q * s = q at *; unfold wrap64; omega
  generalize q * s = p at hq1 hq2 hq4 hml
  generalize hN : cutN b.length s = N at hq1 hq2
  have HN := Lib.hid hN
  clear hN
  go_upto_region 6 with fail
  go_cut [36] (fun t wx => w = wx ∧ t = .bool (decide (p < b.length ∨ q = 0)))
  case first =>
    by_cases h1 : p < b.length
    · go_wp2
      go_meet
      exact ⟨rfl, by simp [h1]⟩
    · by_cases h2 : q = 0
      · have h3 : ((q : Int) == 0) = true := by rw [h2]; rfl
        have h4 := Lib.hid h2
        clear h2
        go_wp2
        go_meet
        exact ⟨rfl, by simp [h4.out]⟩
      · have h3 : ((q : Int) == 0) = false := by rw [beq_eq_false_iff_ne]; omega
        go_wp2
        go_meet
        exact ⟨rfl, by simp [h1, h2]⟩
  obtain ⟨rfl, rfl⟩ := hcut
  go_upto_if 36 with fail
  go_cut [6] (fun n wx => w = wx ∧ n = .int .i64 (N : Int))
  case first =>
    by_cases h1 : p < b.length ∨ q = 0
    · obtain rfl := hq1 h1
      rw [decide_eq_true h1]
      go_wp2
      go_meet
      exact ⟨rfl, by go_num⟩
    · obtain rfl := hq2 (fun x => h1 (.inl x)) (fun x => h1 (.inr x))
      rw [decide_eq_false h1]
      go_wp2
      go_meet
      exact ⟨rfl, rfl⟩
  case rest =>
    obtain ⟨rfl, rfl⟩ := hcut
    clear hdv hml hq1 hq2 hq4 hq3
    by_cases hbad : 1024 < N
    · go_wp2
      go_ret2
      exact RCut.bad (Below.refl _ _) (.inr (.inr (by rw [Int.toNat_natCast, HN.out]; exact hbad)))
    go_wp2_with fail
    refine (rSum_any _ b w HP.out).mono ?_
    rintro e w0 ⟨rfl, rfl⟩
    go_wp2_with fail
    refine (rlow_any _ w).mono ?_
    rintro e wS ⟨vs, rfl, HOs, HB0⟩
    have hsz0 := HB0.size
    have hs4 : (le32 (crc b)).length = 4 := rfl
    generalize hsm : le32 (crc b) = sm at HOs hs4
    have HSM := Lib.hid hsm
    clear hsm
    go_wp2_with fail
    go_loopw [8, 9] (fun o i wr => ∃ k : Nat, k ≤ N ∧ i = .int .i64 k ∧ Obs wr wS.heap.size o ((List.range k).map (piece b s)) ∧ Below wS.heap.size wS wr) (fun _ i _ => N - (intOf i).toNat)
    case atStart => exact ⟨0, Nat.zero_le _, rfl, Obs.nil _ _, Below.refl _ _⟩
    case round =>
      obtain ⟨k, hk, rfl, HO1, HB1⟩ := hrel
      have HBw := HB0.trans (HB1.mono hsz0)
      have hsz1 := HB1.size
      by_cases hlt : k < N
      · obtain ⟨Ao, co, rfl⟩ := HO1.slice
        have hol : ((List.range k).map (piece b s)).length = k := by simp
        rw [hol] at HO1
        have hon := Lib.hid (show (List.range (k + 1)).map (piece b s) = (List.range k).map (piece b s) ++ [piece b s k] by rw [List.range_succ, List.map_append]; rfl)
        generalize (List.range k).map (piece b s) = out at HO1 hol hon
        have hK := (cutN_mul hs0 (k := k) (by rw [HN.out]; exact hlt)).1
        have hpl := part_len b s k
        obtain ⟨hi, hh1, hh2, hh3, hh4, hpd⟩ := part_hi (b := b) hK
        have HB := HP.out.below HBw
        obtain ⟨Ap, cp, hsl, hpb⟩ := slice_lh HB (k * s) hi hh1 hh2
        rw [← hpd] at hpb
        have HPD := Lib.hid hpd
        clear hpd
        have hm1 : ∀ x : Int, x = (k : Int) → wrap64 (x * (s : Int)) = ((k * s : Nat) : Int) := by rintro x rfl; exact wrap_mul hK (Nat.lt_of_le_of_lt hx (by decide))
        have hm2 : ∀ x : Int, x = (k : Int) → wrap64 ((x + 1) * (s : Int)) = ((k * s + s : Nat) : Int) := by rintro x rfl; exact wrap_mul1 hK hx hs3
        generalize hpt : part b s k = pt at hpb hpl
        have HPT := Lib.hid hpt
        clear hpt
        generalize hks : k * s = ks at hm1 hm2 hsl hK hh1 hh3 hh4 hpb
        clear hks
        have HV1 := (HOs.bs.below HB1).below ((Below.refl _ wr).alloc (Nat.le_refl _) (.cells #[.int .u8 80] 5))
        have HL1 := Ob.litn wr #[.int .u8 80] [80] 1 wr.heap.size wr.heap.size rfl rfl (by omega) rfl (Nat.le_refl _)
        have HBL := (Below.refl wr.heap.size wr).alloc (Nat.le_refl _) (.cells #[.int .u8 80] 5)
        have hun1 := uvar_len10 (n := k) (by omega)
        have hun2 := uvar_len10 (n := N) (by omega)
        have hcase : (b.length < ks + s ∧ hi = b.length) ∨ (¬ b.length < ks + s ∧ hi = ks + s) := (Decidable.em (b.length < ks + s)).imp (fun h => ⟨h, hh3 h⟩) (fun h => ⟨h, hh4 h⟩)
        clear hh3 hh4
        rcases hcase with ⟨hend, rfl⟩ | ⟨hend, rfl⟩
        rotate_left
        simp only [Int.natCast_add, Nat.add_sub_cancel_left] at hsl hpb
        all_goals
          go_wp2_with (at_builtin; refine appB wr.heap.size rfl (.tmp 60) _ rfl _ [80] _ sm rfl rfl HL1 HV1 (by simp only [List.length_cons, List.length_nil]; omega) HBL (by simp) ?_; intro v1 w1 HO2 HB2 _ _; have hsz2 := HB2.size)
          refine (rUint_any k (by omega) w1).mono ?_
          rintro e w2 ⟨x2, rfl, HX2, HC2⟩
          have hsz3 := HC2.size
          have HO3 := HO2.below HC2
          have HB3 := HB2.trans (HC2.mono hsz2)
          clear HO2 HB2
          go_wp2_with (at_builtin; refine appB wr.heap.size rfl (.tmp 63) _ rfl _ ([80] ++ sm) _ (uvar k) rfl rfl HO3 HX2.bs (by simp only [List.length_append, List.length_cons, List.length_nil]; omega) HB3 (by omega) ?_; intro v3 w3 HO4 HB4 _ _; have hsz4 := HB4.size)
          refine (rUint_any N (by omega) w3).mono ?_
          rintro e w4 ⟨x4, rfl, HX4, HC4⟩
          have hsz5 := HC4.size
          have HO5 := HO4.below HC4
          have HB5 := HB4.trans (HC4.mono hsz4)
          clear HO4 HB4
          have HP5 := hpb.below (HB5)
          go_wp2_with (first | (at_builtin; refine appB wr.heap.size rfl (.tmp 68) _ rfl _ ([80] ++ sm ++ uvar k) _ (uvar N) rfl rfl HO5 HX4.bs (by simp only [List.length_append, List.length_cons, List.length_nil]; omega) HB5 (by omega) ?_; intro v5 w5 HO6 HB6 _ _; have hsz6 := HB6.size) | (at_builtin; refine appB wr.heap.size rfl (.tmp 73) _ rfl _ ([80] ++ sm ++ uvar k ++ uvar N) _ pt rfl rfl HO6 (hpb.below HB6) (by simp only [List.length_append, List.length_cons, List.length_nil]; omega) HB6 (by omega) ?_; intro v6 w6 HO7 HB7 _ _; have hsz7 := HB7.size))
          clear HO6 HB6
          rw [← HSM.out] at HO7
          have HBD := Lib.hid (show [80] ++ le32 (crc b) ++ uvar k ++ uvar N ++ pt = 80 :: le32 (crc b) ++ uvar k ++ uvar N ++ pt from rfl)
          have hbl : ([80] ++ le32 (crc b) ++ uvar k ++ uvar N ++ pt).length ≤ 70000 := by rw [HSM.out]; simp only [List.length_append, List.length_cons, List.length_nil]; omega
          have hb0 : 0 < ([80] ++ le32 (crc b) ++ uvar k ++ uvar N ++ pt).length := by simp only [List.length_append, List.length_cons, List.length_nil]; omega
          generalize [80] ++ le32 (crc b) ++ uvar k ++ uvar N ++ pt = bd at HO7 HBD hbl hb0
          refine (rFrame_any v6 bd hb0 (by omega) w6 HO7.bs).mono ?_
          rintro e w7 ⟨x7, rfl, HX7, HC7⟩
          have HB7' := HB7.trans (HC7.mono hsz7)
          have hsz8 := HB7'.size
          obtain ⟨A7, c7, rfl⟩ := HX7.slice
          go_wp2_with (at_builtin; refine appO wS.heap.size rfl (.tmp 86) _ rfl _ _ out (frame bd) rfl rfl (HO1.below HB7') (own_mono HX7 (by omega)) (by omega) (HB1.trans (HB7'.mono hsz1)) (by omega) ?_; intro v8 w8 HO8 HB8 HG8 HA8)
          go_roundw
          case rel =>
            refine ⟨k + 1, by omega, by go_num, ?_, HB8⟩
            have hfr : frame bd = piece b s k := by unfold piece; rw [HN.out, HPT.out, ← HBD.out]
            rw [hon.out, ← hfr]; exact HO8
          case measure => simp [intOf]; omega
      · obtain rfl : k = N := by omega
        go_wp2
        go_ret2
        refine ⟨HBw, fun x => absurd x ?_, fun _ => ⟨_, rfl, ?_⟩⟩
        · unfold cutBad; rw [Int.toNat_natCast, HN.out]; omega
        · unfold pieces; rw [Int.toNat_natCast, HN.out]; exact HO1.mono hsz0
end Go.Proofs.YtfmlkagcmkbebaaDoor
