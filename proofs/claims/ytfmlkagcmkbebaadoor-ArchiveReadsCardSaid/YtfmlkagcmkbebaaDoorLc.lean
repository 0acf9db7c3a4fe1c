/- Walks: frames, of the program and of the reference; four bytes of a sum. -/
import Derived.Test.YtfmlkagcmkbebaaDoorLb
namespace Go.Proofs.YtfmlkagcmkbebaaDoor
open Go.RowKit

theorem rlow_any (s : UInt32) (w : World) : Calls Tryd.prog 31 #[.int .u32 (s.toNat : Int)] w (Gives w (le32 s)) := by
  have hb : s.toNat < 4294967296 := s.toNat_lt
  obtain ⟨n, hn⟩ : ∃ n : Nat, n = s.toNat := ⟨_, rfl⟩
  have hlit : (#[.int .u8 ((n : Int) % 256), .int .u8 ((n : Int) / 256 % 256), .int .u8 ((n : Int) / 65536 % 256), .int .u8 ((n : Int) / 16777216)] : Array Value).toList = bys (le32 s) := by
    rw [hn]
    simp [bys, le32, byt]
    omega
  have H := Lib.hid hlit
  clear hlit
  rw [← hn] at hb ⊢
  have HN := Lib.hid hn
  clear hn
  go_enter Tryd.func31, Tryd.ntmps31
  go_wp2
  go_ret
  exact Gives.mk_lit (by simp [le32]) (by simp [le32]) H.out

/-- As 'Gives', with the number 0 beside it. -/
def Gives0 (w : World) (xs : List UInt8) (e : Ending) (w' : World) : Prop := ∃ v, e = .returned (.tuple #[v, .int .i64 0]) ∧ Ob w' w.heap.size v xs ∧ Below w.heap.size w w'

set_option maxRecDepth 100000 in
/-- annalsref1.Bytes -/
theorem rBytes_any (v : Value) (xs : List UInt8) (hx : xs.length ≤ 1099511627776) (w : World) (hp : Bs w v xs) : Calls Tryd.prog 66 #[v] w (Gives w (uvar xs.length ++ xs)) := by
  obtain ⟨A, c, rfl, hn, hc, hr⟩ := hp.form
  have hm : xs.length ≤ 9223372036854775807 := by omega
  have HP := Lib.hid hp
  have hun := uvar_len10 (n := xs.length) (by omega)
  clear hp hr hc
  go_enter Tryd.func66, Tryd.ntmps66
  go_wp2_with fail
  refine (rUint_any _ (by omega) _).mono ?_
  rintro e w1 ⟨h, rfl, HO, HB⟩
  have hsz := HB.size
  go_wp2_with (at_builtin; refine appB w.heap.size rfl _ _ rfl _ (uvar xs.length) _ xs rfl rfl HO (HP.out.below HB) (by omega) HB hsz ?_; intro v1 w1 HO1 HB1 _ _)
  go_ret
  exact ⟨_, rfl, HO1, HB1⟩

theorem le32_4 (q : UInt32) : le32 q = [UInt8.ofNat q.toNat, UInt8.ofNat (q.toNat / 256), UInt8.ofNat (q.toNat / 256 / 256), UInt8.ofNat (q.toNat / 256 / 256 / 256)] := by
  simp only [le32, Nat.div_div_eq_div_mul]

theorem ofNat_mod (d : Nat) : UInt8.ofNat (d % 256) = UInt8.ofNat d := by apply UInt8.toNat_inj.1; simp
/-- The first k bytes of a number, the lowest first. -/
def les : Nat → Nat → List UInt8
  | 0, _ => []
  | k + 1, n => UInt8.ofNat n :: les k (n / 256)
theorem les_snoc (k n : Nat) : les (k + 1) n = les k n ++ [UInt8.ofNat (n / 256 ^ k)] := by
  induction k generalizing n with
  | zero => simp [les]
  | succ k ih => rw [les, ih (n / 256)]; simp [les, Nat.pow_succ, Nat.div_div_eq_div_mul, Nat.mul_comm]
theorem les_len (k n : Nat) : (les k n).length = k := by induction k generalizing n with
  | zero => rfl
  | succ k ih => simp [les, ih]
theorem les_4 (q : UInt32) : les 4 q.toNat = le32 q := by rw [le32_4]; rfl
theorem pow_step (n k : Nat) : n / 256 ^ k / 256 = n / 256 ^ (k + 1) := by rw [Nat.div_div_eq_div_mul, Nat.pow_succ]

set_option maxRecDepth 100000 in
set_option maxHeartbeats 400000 in
/-- annalsref1.Frame -/
theorem rFrame_any (v : Value) (xs : List UInt8) (h0 : 0 < xs.length) (h1 : xs.length ≤ 1048576) (w : World) (hp : Bs w v xs) : Calls Tryd.prog 34 #[v] w (Gives0 w (frame xs)) := by
  obtain ⟨A, c, rfl, hn, hc, hr⟩ := hp.form
  have HP := Lib.hid hp
  have hun := uvar_len10 (n := xs.length) (by omega)
  clear hp hr hc
  have t1 : ((xs.length : Int) == 0) = false := by rw [beq_eq_false_iff_ne]; omega
  go_enter Tryd.func34, Tryd.ntmps34
  go_wp2_with fail
  refine (rBytes_any _ xs (by omega) _ HP.out).mono ?_
  rintro e w1 ⟨h, rfl, HO, HB⟩
  have hsz := HB.size
  go_wp2_with fail
  refine (rSum_any _ _ _ HO.bs).mono ?_
  rintro e w2 ⟨rfl, rfl⟩
  generalize hys : uvar xs.length ++ xs = ys at HO
  have hyl : ys.length ≤ 1048586 := by rw [← hys, List.length_append]; omega
  have HYS := Lib.hid hys
  clear hys
  generalize hq : crc ys = q
  have HQ := Lib.hid hq
  clear hq
  have hqb := u32_lt q
  go_wp2
  go_loopw [4, 5, 6] (fun s c i wr => ∃ k : Nat, k ≤ 4 ∧ i = .int .i64 k ∧ c = .int .u32 ((q.toNat / 256 ^ k : Nat) : Int) ∧ Ob wr w.heap.size s (ys ++ les k q.toNat) ∧ Below w.heap.size w wr) (fun _ _ i _ => 4 - (intOf i).toNat)
  case atStart => exact ⟨0, Nat.zero_le _, rfl, by simp, by simpa [les] using HO, HB⟩
  case round =>
    obtain ⟨k, hk, rfl, rfl, HO1, HB1⟩ := hrel
    have hsz1 := HB1.size
    have hl := les_len k q.toNat
    by_cases hlt : k < 4
    · have hsn := Lib.hid (les_snoc k q.toNat)
      have hpw := Lib.hid (pow_step q.toNat k)
      have hq2 : q.toNat / 256 ^ k < 4294967296 := Nat.lt_of_le_of_lt (Nat.div_le_self _ _) hqb
      generalize q.toNat / 256 ^ k = d at hsn hpw hq2 ⊢
      go_wp2_with (at_builtin; refine appB w.heap.size rfl _ _ rfl _ (ys ++ les k q.toNat) _ [UInt8.ofNat (d % 256)] rfl rfl (HO1.below ((Below.refl _ _).alloc (Nat.le_refl _) _)) (Bs.lit _ _ [UInt8.ofNat (d % 256)] (lit1 (by omega) (by omega)) (by simp)) (by simp; omega) (HB1.alloc hsz1 _) (by simp; omega) ?_; intro v1 w1 HO2 HB2 _ _)
      go_roundw
      case rel => exact ⟨k + 1, by omega, by go_num, by rw [← hpw.out]; go_num, by rw [hsn.out, ← List.append_assoc, ← ofNat_mod d]; exact HO2, HB2⟩
      case measure => simp [intOf]; omega
    · obtain rfl : k = 4 := by omega
      go_wp2_with (at_builtin; refine appB w.heap.size rfl _ _ rfl _ (ys ++ les 4 q.toNat) _ [165] rfl rfl (HO1.below ((Below.refl _ _).alloc (Nat.le_refl _) _)) (Bs.lit _ _ [165] (by rfl) (by decide)) (by simp only [List.length_append, List.length_cons, List.length_nil]; omega) (HB1.alloc hsz1 _) (by simp; omega) ?_; intro v1 w1 HO2 HB2 _ _)
      go_ret2
      refine ⟨_, rfl, ?_, HB2⟩
      rw [les_4, ← HQ.out, ← HYS.out] at HO2
      exact HO2

theorem sum_take {xss : List (List UInt8)} {k : Nat} (h : k < xss.length) : (xss.take (k + 1)).flatten = (xss.take k).flatten ++ xss[k] := by
  rw [List.take_succ_eq_append_getElem h, List.flatten_append]; simp
theorem take_le (xss : List (List UInt8)) (k : Nat) : (xss.take k).flatten.length ≤ xss.flatten.length := by
  conv => rhs; rw [← List.take_append_drop k xss, List.flatten_append, List.length_append]
  omega

set_option maxRecDepth 100000 in
set_option maxHeartbeats 1000000 in
/-- wire.Frame -/
theorem Frame_any (v : Value) (xss : List (List UInt8)) (h0 : 0 < xss.flatten.length) (h1 : xss.flatten.length ≤ 1048576) (w : World) (ht : Tab w) (hp : Bss w v xss) :
    Calls Tryd.prog 46 #[v] w (Gives0 w (frame xss.flatten)) := by
  obtain ⟨A, c, rfl, hn, hc, hr⟩ := hp.form
  have hm : xss.length ≤ 9223372036854775807 := by unfold maxLen at hc; omega
  have HR := Lib.hid hr
  have HT := Lib.hid ht
  have HP := Lib.hid hp
  clear hr ht hc hp
  go_enter Tryd.func46, Tryd.ntmps46
  go_wp2
  go_loop [4, 14] (fun s i => ∃ k : Nat, k ≤ xss.length ∧ i = .int .i64 k ∧ s = .int .i64 ((xss.take k).flatten.length : Nat)) (fun _ i => xss.length - (intOf i).toNat)
  case atStart => exact ⟨0, Nat.zero_le _, rfl, rfl⟩
  case round =>
    obtain ⟨k, hk, rfl, rfl⟩ := hrel
    by_cases hlt : k < xss.length
    · obtain ⟨b, o, u, rfl, hcell, hu⟩ := HR.out k hlt
      obtain ⟨A2, c2, rfl, hn2, hc2, hr2⟩ := hu.form
      have hst := sum_take hlt
      have hle := take_le xss (k + 1)
      have hln := congrArg List.length hst
      rw [List.length_append] at hln
      rw [hln] at hle
      have HL := Lib.hid hln
      clear hln hst hr2 hu hc2
      generalize (xss.take k).flatten.length = p at HL hle ⊢
      generalize xss[k].length = q at HL hle hcell hn2
      go_wp2
      go_round
      case rel => exact ⟨k + 1, by omega, by go_num, by rw [HL.out]; go_num⟩
      case measure => simp [intOf]; omega
    · obtain rfl : xss.length = k := by omega
      rw [List.take_length]
      have t1 : ((xss.flatten.length : Int) == 0) = false := by rw [beq_eq_false_iff_ne]; omega
      have hun := uvar_len10 (n := xss.flatten.length) (by omega)
      generalize hbody : xss.flatten = body at h0 h1 t1 hun
      have HBODY := Lib.hid hbody
      clear hbody
      go_wp2_with fail
      refine (Uint_any _ (by omega) _).mono ?_
      rintro e w1 ⟨h, rfl, HO, HB⟩
      have hsz := HB.size
      obtain ⟨Ah, ch, rfl, hnh, hch, _⟩ := HO.bs.form
      have hul : (uvar body.length).length ≤ 10 := hun
      go_wp2_with (first | (at_make; refine makeB0 w1.heap.size rfl _ _ rfl _ _ _ ((uvar body.length).length + body.length + 5) rfl rfl (by omega) (by omega) (Below.refl w1.heap.size w1) (Nat.le_refl _) ?_; intro w2 HO2 HB2 _) | (at_builtin; refine appB w1.heap.size rfl _ _ rfl _ [] _ (uvar body.length) rfl rfl HO2 (HO.bs.below HB2) (by simp only [List.length_nil]; omega) HB2 HB2.size ?_; intro v3 w3 HO3 HB3 _ _))
      clear HO2 HB2
      rw [List.nil_append] at HO3
      go_loopw [8, 41] (fun s i wr => ∃ k : Nat, k ≤ xss.length ∧ i = .int .i64 k ∧ Ob wr w1.heap.size s (uvar body.length ++ (xss.take k).flatten) ∧ Below w1.heap.size w1 wr) (fun _ i _ => xss.length - (intOf i).toNat)
      case atStart => exact ⟨0, Nat.zero_le _, rfl, by simpa using HO3, HB3⟩
      case round =>
        obtain ⟨k, hk, rfl, HO4, HB4⟩ := hrel
        have hsz4 := HB4.size
        have HBw := HB.trans (HB4.mono hsz)
        by_cases hlt : k < xss.length
        · obtain ⟨b, o, u, rfl, hcell, hu⟩ := HR.out k hlt
          obtain ⟨A2, c2, rfl, hn2, hc2, hr2⟩ := hu.form
          have HST := Lib.hid (sum_take hlt)
          have hle := take_le xss (k + 1)
          rw [HST.out, List.length_append, HBODY.out] at hle
          have hcell4 := (HBw.cell (p := ⟨b, o + k, none⟩) (World.block_lt_of_cell? w _ hcell)).trans hcell
          have hu4 := hu.below HBw
          clear hcell hu hr2 hc2
          generalize hys : xss[k] = ys at HST hle hcell4 hu4 hn2
          clear hys
          go_wp2_with (at_builtin; refine appB w1.heap.size rfl _ _ rfl _ (uvar body.length ++ (xss.take k).flatten) _ ys rfl rfl HO4 hu4 (by simp only [List.length_append]; omega) HB4 hsz4 ?_; intro v5 w5 HO5 HB5 _ _)
          go_roundw
          case rel => exact ⟨k + 1, by omega, by go_num, by rw [HST.out, ← List.append_assoc]; exact HO5, HB5⟩
          case measure => simp [intOf]; omega
        · obtain rfl : xss.length = k := by omega
          rw [List.take_length, HBODY.out] at HO4
          have hT4 : Tab wr := HT.out.below HBw
          have hpl : (uvar body.length ++ body).length ≤ 1048586 := by rw [List.length_append]; omega
          have hf : frame body = uvar body.length ++ body ++ (le32 (crc (uvar body.length ++ body)) ++ [165]) := by unfold frame; rw [List.append_assoc]
          have HX := Lib.hid hf
          clear hf
          generalize uvar body.length ++ body = pre at HO4 hpl HX
          obtain ⟨A8, c8, rfl⟩ := HO4.slice
          go_wp2_with fail
          refine (Sum_any _ [pre] _ (hT4.below ((Below.refl _ _).alloc (Nat.le_refl _) _)) (Bss.lit1 _ _ _ HO4.bs)).mono ?_
          rintro e w5 ⟨rfl, rfl⟩
          rw [List.flatten_cons, List.flatten_nil, List.append_nil]
          have HO6 := HO4.below ((Below.refl _ wr).alloc (Nat.le_refl _) (.cells #[.slice A8 pre.length c8] 22))
          have HB6 := HB4.alloc hsz4 (.cells #[.slice A8 pre.length c8] 22)
          have hql := u32_lt (crc pre)
          have hlit : (#[.int .u8 (((crc pre).toNat : Int) % 256), .int .u8 (((crc pre).toNat : Int) / 256 % 256), .int .u8 (((crc pre).toNat : Int) / 65536 % 256), .int .u8 (((crc pre).toNat : Int) / 16777216), .int .u8 165] : Array Value).toList = bys (le32 (crc pre) ++ [165]) := by
            simp [bys, le32, byt]; omega
          have HL := Lib.hid hlit
          clear hlit
          generalize crc pre = q at hql HL HX ⊢
          go_wp2_with (at_builtin; refine appB w1.heap.size rfl _ _ rfl _ pre _ (le32 q ++ [165]) rfl rfl (HO6.below ((Below.refl _ _).alloc (Nat.le_refl _) _)) (Bs.litn _ _ (le32 q ++ [165]) 5 _ HL.out (by rfl) (by omega) (by simp)) (by simp only [List.length_append, le32, List.length_cons, List.length_nil]; omega) (HB6.alloc (by simp; omega) _) (by simp; omega) ?_; intro v7 w7 HO7 HB7 _ _)
          go_ret2
          refine ⟨v7, rfl, ?_, HB.trans (HB7.mono hsz)⟩
          rw [HBODY.out, HX.out]
          exact own_mono HO7 hsz
end Go.Proofs.YtfmlkagcmkbebaaDoor
