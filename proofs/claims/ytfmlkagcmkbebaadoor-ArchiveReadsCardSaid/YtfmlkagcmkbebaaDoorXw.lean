/- Of these: Xb Xc Xd. -/
import Derived.Test.YtfmlkagcmkbebaaDoorXa
import Derived.Test.YtfmlkagcmkbebaaDoorLh
import Derived.Laws.CopyOwn
import Derived.Deep.QuietTactic
import Derived.BigQuiet
import Derived.Laws.BitsAllLaws

/- wire.bounds. -/
namespace Go.Proofs.YtfmlkagcmkbebaaDoor
open Go.RowKit

theorem rdF_end {b : List UInt8} {p : Nat} : ∀ {f k n : Nat}, (rdF b p f k n).2.2 = 0 → p < (rdF b p f k n).2.1 ∧ (rdF b p f k n).2.1 ≤ b.length
  | 0, k, n, h => by simp [rdF] at h
  | f + 1, k, n, h => by
    rcases Nat.lt_or_ge (p + k) b.length with hlt | hge
    · rw [rdF_some (List.getElem?_eq_getElem hlt)] at h ⊢
      split at h
      · simp at h
      · rename_i h1
        rw [if_neg h1]
        split at h
        · rename_i h2
          rw [if_pos h2]; exact rdF_end h
        · rename_i h2
          rw [if_neg h2]
          split at h
          · simp at h
          · rename_i h3
            rw [if_neg h3]; simp only; omega
    · rw [rdF_none (List.getElem?_eq_none hge)] at h; simp at h
theorem rdU_end {b : List UInt8} {p : Nat} (h : (rdU b p).2.2 = 0) : p < (rdU b p).2.1 ∧ (rdU b p).2.1 ≤ b.length := by
  unfold rdU at h ⊢
  split at h
  · simp at h
  · rename_i h1
    rw [if_neg h1]; exact rdF_end h
/-- Where a frame's body begins and ends, the code. -/
def bdU (b : List UInt8) (p : Nat) : Nat × Nat × Int :=
  if (rdU b p).2.2 ≠ 0 then (0, 0, (rdU b p).2.2) else if (rdU b p).1 = 0 then (0, 0, 14) else if 1048576 < (rdU b p).1 then (0, 0, 13)
  else if b.length < (rdU b p).2.1 + (rdU b p).1 + 5 then (0, 0, 10) else if b[(rdU b p).2.1 + (rdU b p).1 + 4]? ≠ some 165 then (0, 0, 15) else ((rdU b p).2.1, (rdU b p).2.1 + (rdU b p).1, 0)

set_option maxRecDepth 100000 in
set_option maxHeartbeats 4000000 in
theorem bounds_wire (v : Value) (b : List UInt8) (p : Nat) (hb : b.length ≤ 1099511627776) (hp : p ≤ 1099511627776) (w : World) (hv : Bs w v b) :
    Calls Tryd.prog 83 #[v, .int .i64 (p : Int)] w fun e w' => e = .returned (.tuple #[.int .i64 ((bdU b p).1 : Int), .int .i64 ((bdU b p).2.1 : Int), .int .i64 (bdU b p).2.2]) ∧ w = w' := by
  have HRU := Lib.hid (ReadUint_any v b p hb hp w hv)
  have hend := rdU_end (b := b) (p := p)
  obtain ⟨B, hB⟩ : ∃ B, bdU b p = B := ⟨_, rfl⟩
  rw [hB]
  unfold bdU at hB
  obtain ⟨A, c, rfl, hn, hc, hr⟩ := hv.form
  have HR := Lib.hid hr
  clear hr hc hv
  generalize rdU b p = r at HRU hend hB
  obtain ⟨n, fr, e⟩ := r
  simp only at HRU hend hB
  by_cases he : e ≠ 0
  · rw [if_pos he] at hB
    have HV := Lib.hid hB.symm
    have t1 : (e != 0) = true := by rw [bne_iff_ne]; exact he
    clear hB he hend
    go_enter Tryd.func83, Tryd.ntmps83
    go_wp2_with fail
    refine HRU.out.mono ?_
    rintro ee wz ⟨rfl, rfl⟩
    go_wp2_with fail
    refine bodyPost_ret (results_tmp3 rfl _ _ _) rfl ⟨?_, by first | rfl | trivial⟩
    rw [HV.out]; rfl
  · rw [if_neg he] at hB
    have he0 : e = 0 := Classical.byContradiction he
    subst he0
    obtain ⟨hp1, hfr⟩ := hend rfl
    clear he hend
    by_cases h0 : n = 0
    · rw [if_pos h0] at hB
      have HV := Lib.hid hB.symm
      subst h0
      clear hB
      go_enter Tryd.func83, Tryd.ntmps83
      go_wp2_with fail
      refine HRU.out.mono ?_
      rintro ee wz ⟨rfl, rfl⟩
      go_wp2_with fail
      refine bodyPost_ret (results_tmp3 rfl _ _ _) rfl ⟨?_, by first | rfl | trivial⟩
      rw [HV.out]; rfl
    · rw [if_neg h0] at hB
      have t0 : ((n : Int) == 0) = false := by rw [beq_eq_false_iff_ne]; omega
      by_cases h1 : 1048576 < n
      · rw [if_pos h1] at hB
        have HV := Lib.hid hB.symm
        have t1 : (1048576 : Int) < (n : Int) := by omega
        clear hB h0
        go_enter Tryd.func83, Tryd.ntmps83
        go_wp2_with fail
        refine HRU.out.mono ?_
        rintro ee wz ⟨rfl, rfl⟩
        go_wp2_with fail
        refine bodyPost_ret (results_tmp3 rfl _ _ _) rfl ⟨?_, by first | rfl | trivial⟩
        rw [HV.out]; rfl
      · rw [if_neg h1] at hB
        have t1 : ¬ (1048576 : Int) < (n : Int) := by omega
        have hw : IntKind.i64.wrap (n : Int) = (n : Int) := by rw [IntKind.wrap_i64]; omega
        by_cases h2 : b.length < fr + n + 5
        · rw [if_pos h2] at hB
          have HV := Lib.hid hB.symm
          have t2 : (b.length : Int) - (fr : Int) < (n : Int) + 5 := by omega
          clear hB h0 h1
          go_enter Tryd.func83, Tryd.ntmps83
          go_wp2_with fail
          refine HRU.out.mono ?_
          rintro ee wz ⟨rfl, rfl⟩
          go_wp2_with fail
          refine bodyPost_ret (results_tmp3 rfl _ _ _) rfl ⟨?_, by first | rfl | trivial⟩
          rw [HV.out]; rfl
        · rw [if_neg h2] at hB
          have t2 : ¬ (b.length : Int) - (fr : Int) < (n : Int) + 5 := by omega
          obtain ⟨g, o, rfl, hcell⟩ := HR.out (fr + n + 4) (by omega)
          rw [List.getElem?_eq_getElem (show fr + n + 4 < b.length by omega)] at hB
          generalize b[fr + n + 4]'(by omega) = z at hcell hB
          unfold byt at hcell
          have hi : (fr : Int) + (n : Int) + 4 < (b.length : Int) := by omega
          by_cases h3 : z = 165
          · subst h3
            rw [if_neg (by simp)] at hB
            have HV := Lib.hid hB.symm
            clear hB h0 h1 h2
            go_enter Tryd.func83, Tryd.ntmps83
            go_wp2_with fail
            refine HRU.out.mono ?_
            rintro ee wz ⟨rfl, rfl⟩
            go_wp2_with fail
            refine bodyPost_ret (results_tmp3 rfl _ _ _) rfl ⟨?_, by first | rfl | trivial⟩
            rw [HV.out]; simp
          · rw [if_pos (by simpa using h3)] at hB
            have HV := Lib.hid hB.symm
            have hz : ((z.toNat : Int) != 165) = true := by
              rw [bne_iff_ne]; intro e; exact h3 (UInt8.toNat_inj.1 (by show z.toNat = 165; omega))
            clear hB h0 h1 h2 h3
            go_enter Tryd.func83, Tryd.ntmps83
            go_wp2_with fail
            refine HRU.out.mono ?_
            rintro ee wz ⟨rfl, rfl⟩
            go_wp2_with fail
            refine bodyPost_ret (results_tmp3 rfl _ _ _) rfl ⟨?_, by first | rfl | trivial⟩
            rw [HV.out]; rfl
end Go.Proofs.YtfmlkagcmkbebaaDoor

/- wire.piece. -/
namespace Go.Proofs.YtfmlkagcmkbebaaDoor
open Go.RowKit

theorem own_full {w : World} {B g n : Nat} {xs : List UInt8} (h : Ob w B (.slice (some ⟨g, 0, none⟩) n n) xs) : w.heap[g]? = some (.cells (bys xs).toArray 5 (0, 0)) := by
  have hn : n = xs.length := by obtain ⟨A, c, e⟩ := h.slice; injection e
  rcases h.2 with ⟨e, _⟩ | ⟨g', cap, cur, e, _, hg, _, _, hs, ht⟩
  · cases e
  · injection e with e1 e2 e3
    injection e1 with e1; injection e1 with e1 _ _
    subst e1
    rw [hg]
    have : cur.toList = bys xs := by rw [← ht, List.take_of_length_le]; simp; omega
    rw [← this]
theorem own_of {w : World} {B g n : Nat} {xs : List UInt8} (h : w.heap[g]? = some (.cells (bys xs).toArray 5 (0, 0))) (hn : n = xs.length) (hB : B ≤ g) (hm : n ≤ 1099511627776) : Ob w B (.slice (some ⟨g, 0, none⟩) n n) xs := by
  subst hn
  refine ⟨by simp [bys], .inr ⟨g, _, _, rfl, hB, h, Nat.le_refl _, by unfold maxLen; omega, by simp [bys], ?_⟩⟩
  rw [List.take_of_length_le]; simp [bys]

theorem copy_src {w : World} {A : Option Addr} {n c : Nat} {xs : List UInt8} (h : Bs w (.slice A n c) xs) (S : Nat) (h0 : 0 < (bys xs).length) : (some (⟨S, 0, none⟩ : Addr)) = some ⟨S, 0, none⟩ ∧ ∃ ad, A = some ad ∧ ∀ j v, (bys xs)[j]? = some v → w.cell? (ad.add j) = some v := by
  rw [bys_length] at h0
  obtain ⟨A', c', e, _, _, hr⟩ := h.form
  injection e with e1 e2 e3
  subst e1
  obtain ⟨b, o, rfl, _⟩ := hr 0 h0
  refine ⟨rfl, _, rfl, fun j v hj => ?_⟩
  have hj' : j < xs.length := by have := (List.getElem?_eq_some_iff.1 hj).1; rwa [bys_length] at this
  obtain ⟨b', o', e, h⟩ := hr j hj'
  injection e with e; injection e with e4 e5 _
  subst e4; subst e5
  rw [add_plain, h, ← hj]; simp [bys, hj']

set_option maxRecDepth 100000 in
set_option maxHeartbeats 2000000 in
theorem piece_wire (v : Value) (xs : List UInt8) (lo hi : Nat) (h1 : lo ≤ hi) (h2 : hi ≤ xs.length) (hx : xs.length ≤ 1099511627776) (w : World) (hp : Bs w v xs) :
    Calls Tryd.prog 84 #[v, .int .i64 (lo : Int), .int .i64 (hi : Int)] w (Gives w ((xs.take hi).drop lo)) := by
  obtain ⟨A, c, rfl, _⟩ := hp.form
  obtain ⟨Ap, cp, hsl, hpb⟩ := slice_lh hp lo hi h1 h2
  obtain ⟨pt, hpt⟩ : ∃ pt, (xs.take hi).drop lo = pt := ⟨_, rfl⟩
  have hpl : pt.length = hi - lo := by rw [← hpt]; simp; omega
  rw [← List.drop_take, hpt] at hpb
  rw [hpt]
  have hqi : (hi : Int) - (lo : Int) = ((hi - lo : Nat) : Int) := by omega
  have HPB := Lib.hid hpb
  obtain ⟨n, hn⟩ : ∃ n, hi - lo = n := ⟨_, rfl⟩
  rw [hn] at hpl hqi hsl
  have HPL := Lib.hid hpl
  clear hp hpb hpt hn hpl
  go_enter Tryd.func84, Tryd.ntmps84
  go_wp2_with (first
    | (at_make; refine makeBn w.heap.size rfl _ _ rfl _ _ _ _ n rfl rfl rfl rfl (by omega) (Below.refl _ w) (Nat.le_refl _) ?_; intro w1 HO1 hB1 hb1; have HBLK := own_full HO1)
    | (refine wpList_copy_splice rfl (.tmp 12) (.tmp 16) 22 22 rfl 5 Tryd.underlying22 (by kernel_rfl) (some ⟨w.heap.size, 0, none⟩) Ap n n n cp rfl rfl w.heap.size 0 (bys (List.replicate n 0)) 5 HBLK (bys pt) (by rw [bys_length, HPL.out]; simp) (copy_src (HPB.out.below hb1) w.heap.size) (by simp [bys_length, HPL.out]) (bys_one pt) w.heap.size w hB1 (Nat.le_refl _) ?_; intro w2 hg2 hB2; have HG2 := Lib.hid hg2.out))
  go_ret
  refine ⟨_, rfl, own_of ?_ HPL.out.symm (Nat.le_refl _) (by omega), hB2⟩
  have h := HG2.out
  rw [show splice (bys (List.replicate n 0)) 0 (bys pt) = bys pt by simp [splice, bys, HPL.out]] at h
  exact h
end Go.Proofs.YtfmlkagcmkbebaaDoor

/- wire.ReadFrame. -/
namespace Go.Proofs.YtfmlkagcmkbebaaDoor
open Go.RowKit

theorem gives_mono {w w1 w' : World} {xs : List UInt8} {e : Ending} (hb : Below w.heap.size w w1) (h : Gives w1 xs e w') : Gives w xs e w' := by
  obtain ⟨v, rfl, h1, h2⟩ := h
  exact ⟨v, rfl, own_mono h1 hb.size, hb.trans (h2.mono hb.size)⟩
theorem or_add32 (n m k : Nat) (h : n < 2 ^ k) (h2 : n + m * 2 ^ k < 4294967296) : bits .or .u32 (n : Int) ((m * 2 ^ k : Nat) : Int) = ((n + m * 2 ^ k : Nat) : Int) := by
  have e : (n ||| (m * 2 ^ k)) = n + m * 2 ^ k := by
    rw [Nat.or_comm, Nat.mul_comm m, ← Nat.two_pow_add_eq_or_of_lt h m]; omega
  rw [u32_or_nat _ _ (by omega) (by omega), e]
theorem or4 (x0 x1 x2 x3 : Nat) (h0 : x0 < 2 ^ 8) (h1 : x1 < 2 ^ 8) (h2 : x2 < 2 ^ 8) (h3 : x3 < 2 ^ 8) :
    bits .or .u32 (bits .or .u32 (bits .or .u32 (x0 : Int) ((x1 : Int) * 256)) ((x2 : Int) * 65536)) ((x3 : Int) * 16777216) = ((x0 + x1 * 256 + x2 * 65536 + x3 * 16777216 : Nat) : Int) := by
  have a1 := or_add32 x0 x1 8 (by omega) (by omega)
  have a2 := or_add32 (x0 + x1 * 2 ^ 8) x2 16 (by omega) (by omega)
  have a3 := or_add32 (x0 + x1 * 2 ^ 8 + x2 * 2 ^ 16) x3 24 (by omega) (by omega)
  have c1 : ((x1 : Int) * 256) = ((x1 * 2 ^ 8 : Nat) : Int) := by omega
  have c2 : ((x2 : Int) * 65536) = ((x2 * 2 ^ 16 : Nat) : Int) := by omega
  have c3 : ((x3 : Int) * 16777216) = ((x3 * 2 ^ 24 : Nat) : Int) := by omega
  rw [c1, c2, c3, a1, a2, a3]
theorem bdU_end {b : List UInt8} {p : Nat} (h : (bdU b p).2.2 = 0) : p < (bdU b p).1 ∧ (bdU b p).1 < (bdU b p).2.1 ∧ (bdU b p).2.1 ≤ (bdU b p).1 + 1048576 ∧ (bdU b p).2.1 + 5 ≤ b.length := by
  unfold bdU at h ⊢
  split at h
  · rename_i h1; exact absurd h h1
  · rename_i h1
    rw [if_neg h1]
    have he := rdU_end (Classical.byContradiction h1)
    split at h
    · simp at h
    · rename_i h2
      rw [if_neg h2]
      split at h
      · simp at h
      · rename_i h3
        rw [if_neg h3]
        split at h
        · simp at h
        · rename_i h4
          rw [if_neg h4]
          split at h
          · simp at h
          · rename_i h5
            rw [if_neg h5]; simp only; omega
/-- The four bytes at q, the lowest first. -/
def le4 (b : List UInt8) (q : Nat) : Nat := (b.getD q 0).toNat + (b.getD (q + 1) 0).toNat * 256 + (b.getD (q + 2) 0).toNat * 65536 + (b.getD (q + 3) 0).toNat * 16777216
/-- A frame's body, where it ends, the code. -/
def rdFr (b : List UInt8) (p : Nat) : List UInt8 × Nat × Int :=
  if (bdU b p).2.2 ≠ 0 then ([], 0, (bdU b p).2.2) else if le4 b (bdU b p).2.1 ≠ (crc ((b.take (bdU b p).2.1).drop p)).toNat then ([], 0, 16) else ((b.take (bdU b p).2.1).drop (bdU b p).1, (bdU b p).2.1 + 5, 0)

set_option maxRecDepth 100000 in
set_option maxHeartbeats 4000000 in
theorem ReadFrame_any (v : Value) (b : List UInt8) (p : Nat) (hb : b.length ≤ 1099511627776) (hp : p ≤ 1099511627776) (w : World) (hT : Tab w) (hv : Bs w v b) :
    Calls Tryd.prog 55 #[v, .int .i64 (p : Int)] w fun e w' => ∃ v', e = .returned (.tuple #[v', .int .i64 ((rdFr b p).2.1 : Int), .int .i64 (rdFr b p).2.2]) ∧ Ob w' w.heap.size v' (rdFr b p).1 ∧ Below w.heap.size w w' := by
  have HBU := Lib.hid (bounds_wire v b p hb hp w hv)
  have hend := bdU_end (b := b) (p := p)
  obtain ⟨B, hB⟩ : ∃ B, rdFr b p = B := ⟨_, rfl⟩
  rw [hB]
  unfold rdFr at hB
  obtain ⟨A, c, rfl, hn, hc, hr⟩ := hv.form
  have HR := Lib.hid hr
  have HP := Lib.hid hv
  have HT := Lib.hid hT
  clear hr hc hv hT
  generalize bdU b p = r at HBU hend hB
  obtain ⟨fr, to, e⟩ := r
  simp only at HBU hend hB
  by_cases he : e ≠ 0
  · rw [if_pos he] at hB
    have HV := Lib.hid hB.symm
    have t1 : (e != 0) = true := by rw [bne_iff_ne]; exact he
    clear hB he hend
    go_enter Tryd.func55, Tryd.ntmps55
    go_wp2_with fail
    refine HBU.out.mono ?_
    rintro ee wz ⟨rfl, rfl⟩
    go_wp2_with fail
    refine bodyPost_ret (results_tmp3 rfl _ _ _) rfl ⟨.slice none 0 0, ?_, ?_, Below.refl _ _⟩
    · rw [HV.out]; rfl
    · rw [HV.out]; exact Ob.nil _ _
  · rw [if_neg he] at hB
    have he0 : e = 0 := Classical.byContradiction he
    subst he0
    obtain ⟨hp1, hft, hto, hlen⟩ := hend rfl
    clear he hend
    obtain ⟨g, o, hA, hc0⟩ := HR.out to (by omega)
    have hcs : ∀ j, j < 4 → w.cell? ⟨g, o + (to + j), none⟩ = some (.int .u8 ((b.getD (to + j) 0).toNat : Int)) := fun j hj => by
      obtain ⟨g', o', hA', hc⟩ := HR.out (to + j) (by omega)
      rw [hA] at hA'; injection hA' with hA'; injection hA' with e1 e2 _
      subst e1; subst e2
      rw [hc, List.getD_eq_getElem?_getD, List.getElem?_eq_getElem (by omega)]; rfl
    have k0 := hcs 0 (by omega)
    have k1 := hcs 1 (by omega)
    have k2 := hcs 2 (by omega)
    have k3 := hcs 3 (by omega)
    rw [Nat.add_zero] at k0
    subst hA
    have hle : le4 b to = (b.getD to 0).toNat + (b.getD (to + 1) 0).toNat * 256 + (b.getD (to + 2) 0).toNat * 65536 + (b.getD (to + 3) 0).toNat * 16777216 := rfl
    have z0 := (b.getD to 0).toNat_lt
    have z1 := (b.getD (to + 1) 0).toNat_lt
    have z2 := (b.getD (to + 2) 0).toNat_lt
    have z3 := (b.getD (to + 3) 0).toNat_lt
    generalize (b.getD to 0).toNat = x0 at k0 hle z0
    generalize (b.getD (to + 1) 0).toNat = x1 at k1 hle z1
    generalize (b.getD (to + 2) 0).toNat = x2 at k2 hle z2
    generalize (b.getD (to + 3) 0).toNat = x3 at k3 hle z3
    have hti : (to : Int) + 5 ≤ (b.length : Int) := by omega
    have i0 : (to : Int) < (b.length : Int) := by omega
    have i1 : (to : Int) + 1 < (b.length : Int) := by omega
    have i2 : (to : Int) + 2 < (b.length : Int) := by omega
    have i3 : (to : Int) + 3 < (b.length : Int) := by omega
    have hor := or4 x0 x1 x2 x3 z0 z1 z2 z3
    rw [← hle] at hor
    obtain ⟨L, hL⟩ : ∃ L, le4 b to = L := ⟨_, rfl⟩
    rw [hL] at hor hB
    obtain ⟨Ap, cp, hsl, hpb⟩ := slice_lh HP.out p to (by omega) (by omega)
    rw [← List.drop_take] at hpb
    obtain ⟨X, hX⟩ : ∃ X, (b.take to).drop p = X := ⟨_, rfl⟩
    have hXl : X.length = to - p := by rw [← hX]; simp; omega
    rw [hX] at hB hpb
    rw [← hXl] at hsl hpb
    have HPB := Lib.hid hpb
    have HXL := Lib.hid hXl
    clear hcs hc0 hle hL hX hpb hXl
    go_enter Tryd.func55, Tryd.ntmps55
    go_wp2_with fail
    refine HBU.out.mono ?_
    rintro ee wz ⟨rfl, rfl⟩
    go_wp2_with fail
    go_quiet (fail)
    go_wp2_with fail
    have hbd : Below w.heap.size w (w.drewN nq) := below_drewN _ _
    have hal : Below w.heap.size w ((w.drewN nq).alloc (.cells #[.slice Ap X.length cp] 22)) := hbd.alloc (Nat.le_refl _) _
    have hBX : Bss ((w.drewN nq).alloc (.cells #[.slice Ap X.length cp] 22)) (.slice (some ⟨w.heap.size, 0, none⟩) 1 1) [X] := Bss.lit1 (w.drewN nq) (.slice Ap X.length cp) X (HPB.out.below hbd)
    have HSU := Lib.hid (Sum_any _ [X] _ (HT.out.below hal) hBX)
    have HPC := Lib.hid (piece_wire _ b fr to (by omega) (by omega) hb _ (HP.out.below hal))
    have HAL := Lib.hid hal
    clear hbd hal hBX
    refine HSU.out.mono ?_
    rintro e wz ⟨rfl, rfl⟩
    rw [show [X].flatten = X by simp]
    by_cases heq : L = (crc X).toNat
    · rw [if_neg (by simpa using heq)] at hB
      have HV := Lib.hid hB.symm
      subst heq
      clear hB hor
      go_wp2_with fail
      refine HPC.out.mono ?_
      rintro e w5 hg
      obtain ⟨x, rfl, hq⟩ := gives_mono HAL.out hg
      go_wp2_with fail
      refine bodyPost_ret (results_tmp3 rfl _ _ _) rfl ⟨x, ?_, by rw [HV.out]; exact hq.1, hq.2⟩
      rw [HV.out]; simp
    · rw [if_pos (by simpa using heq)] at hB
      have HV := Lib.hid hB.symm
      have t1 : ((L : Int) != ((crc X).toNat : Int)) = true := by rw [bne_iff_ne]; omega
      generalize (crc X).toNat = cx at t1
      clear hB hor
      go_wp2_with fail
      refine bodyPost_ret (results_tmp3 rfl _ _ _) rfl ⟨.slice none 0 0, ?_, by rw [HV.out]; exact Ob.nil _ _, HAL.out⟩
      rw [HV.out]; rfl
end Go.Proofs.YtfmlkagcmkbebaaDoor
