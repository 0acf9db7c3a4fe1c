/- wire.ReadUint. -/
import Derived.Test.YtfmlkagcmkbebaaDoorLd
import Derived.Laws.BitsAllLaws
namespace Go.Proofs.YtfmlkagcmkbebaaDoor
open Go.RowKit

/-- From the i-th byte behind p on, f bytes at most. -/
def rdF (b : List UInt8) (p : Nat) : Nat → Nat → Nat → Nat × Nat × Int
  | 0, _, _ => (0, 0, 12)
  | f + 1, i, v =>
    match b[p + i]? with
    | none => (0, 0, 10)
    | some c => if i = 9 ∧ 1 < c.toNat then (0, 0, 12) else if 128 ≤ c.toNat then rdF b p f (i + 1) (v + c.toNat % 128 * 2 ^ (7 * i)) else if c.toNat = 0 ∧ 0 < i then (0, 0, 11) else (v + c.toNat % 128 * 2 ^ (7 * i), p + i + 1, 0)
/-- The number that stands at p, where it ends, the code. -/
def rdU (b : List UInt8) (p : Nat) : Nat × Nat × Int := if b.length < p then (0, 0, 1) else rdF b p 10 0 0

theorem and127 (z : UInt8) : bits .and .u8 (z.toNat : Int) 127 = ((z.toNat % 128 : Nat) : Int) := by
  have h : ∀ x : Fin 256, bits .and .u8 ((x.val : Nat) : Int) 127 = ((x.val % 128 : Nat) : Int) := by decide +kernel
  exact h ⟨z.toNat, z.toNat_lt⟩
theorem or_add (n m k : Nat) (h : n < 2 ^ k) (h2 : n + m * 2 ^ k < 18446744073709551616) : bits .or .u64 (n : Int) ((m * 2 ^ k : Nat) : Int) = ((n + m * 2 ^ k : Nat) : Int) := by
  have e : (n ||| (m * 2 ^ k)) = n + m * 2 ^ k := by
    rw [Nat.or_comm, Nat.mul_comm m, ← Nat.two_pow_add_eq_or_of_lt h m]; omega
  rw [u64_or_nat _ _ (by omega) (by omega), e]
theorem rdF_some {b : List UInt8} {p f k n : Nat} {z : UInt8} (h : b[p + k]? = some z) : rdF b p (f + 1) k n = if k = 9 ∧ 1 < z.toNat then (0, 0, 12) else if 128 ≤ z.toNat then rdF b p f (k + 1) (n + z.toNat % 128 * 2 ^ (7 * k)) else if z.toNat = 0 ∧ 0 < k then (0, 0, 11) else (n + z.toNat % 128 * 2 ^ (7 * k), p + k + 1, 0) := by
  rw [rdF, h]
theorem rdF_none {b : List UInt8} {p f k n : Nat} (h : b[p + k]? = none) : rdF b p (f + 1) k n = (0, 0, 10) := by
  rw [rdF, h]
set_option maxRecDepth 100000 in
set_option maxHeartbeats 8000000 in
theorem ReadUint_any (v : Value) (b : List UInt8) (p : Nat) (hb : b.length ≤ 1099511627776) (hp : p ≤ 1099511627776) (w : World) (hv : Bs w v b) :
    Calls Tryd.prog 85 #[v, .int .i64 (p : Int)] w fun e w' => e = .returned (.tuple #[.int .u64 ((rdU b p).1 : Int), .int .i64 ((rdU b p).2.1 : Int), .int .i64 (rdU b p).2.2]) ∧ w = w' := by
  obtain ⟨A, c, rfl, hn, hc, hr⟩ := hv.form
  have HR := Lib.hid hr
  clear hr hc hv
  by_cases hlp : b.length < p
  · have HU := Lib.hid (show rdU b p = (0, 0, 1) by unfold rdU; rw [if_pos hlp])
    have h1 : (b.length : Int) < (p : Int) := by omega
    go_enter Tryd.func85, Tryd.ntmps85
    go_wp2_with fail
    refine bodyPost_ret (v := .tuple #[.int .u64 0, .int .i64 0, .int .i64 1]) (by simp [results, Tryd.results85, go_sem]) rfl ⟨by rw [HU.out]; rfl, rfl⟩
  · have HU := Lib.hid (show rdU b p = rdF b p 10 0 0 by unfold rdU; rw [if_neg hlp])
    have h1 : ¬ (b.length : Int) < (p : Int) := by omega
    go_enter Tryd.func85, Tryd.ntmps85
    go_wp2_with fail
    clear h1
    go_loopw [7, 8, 9] (fun vv i _ wr => ∃ (k f n : Nat), k + f = 10 ∧ 1 ≤ f ∧ n < 2 ^ (7 * k) ∧ vv = .int .u64 (n : Int) ∧ i = .int .i64 (k : Int) ∧ rdU b p = rdF b p f k n ∧ w = wr) (fun _ i _ _ => 10 - (intOf i).toNat)
    case atStart => exact ⟨0, 10, 0, rfl, by omega, by decide, rfl, rfl, HU.out, rfl⟩
    case round =>
      obtain ⟨k, f, n, hkf, hf1, hnk, rfl, rfl, he, rfl⟩ := hrel
      have HE := Lib.hid he
      clear he
      have hk10 : k ≤ 10 := by omega
      obtain ⟨f', rfl⟩ : ∃ f', f = f' + 1 := ⟨f - 1, by omega⟩
      have hk9 : k ≤ 9 := by omega
      by_cases hlt : p + k < b.length
      · obtain ⟨g, o, rfl, hcell⟩ := HR.out (p + k) hlt
        have hsm := rdF_some (f := f') (n := n) (List.getElem?_eq_getElem hlt)
        generalize b[p + k] = z at hcell hsm
        rw [← HE.out] at hsm
        unfold byt at hcell
        have hi1 : (p : Int) + (k : Int) < (b.length : Int) := by omega
        have hz256 := z.toNat_lt
        have hand := and127 z
        have hoa := or_add n (z.toNat % 128) (7 * k) hnk
        have hm128 : z.toNat % 128 < 128 := Nat.mod_lt _ (by decide)
        by_cases h9 : k = 9 ∧ 1 < z.toNat
        · have HV := Lib.hid (show rdU b p = (0, 0, 12) by rw [hsm, if_pos h9])
          obtain ⟨rfl, hz1⟩ := h9
          have hz1i : (1 : Int) < (z.toNat : Int) := by omega
          clear hsm hoa hand hm128
          go_wp2_with fail
          refine bodyPost_ret (v := .tuple #[.int .u64 0, .int .i64 0, .int .i64 12]) (by simp [results, Tryd.results85, go_sem]) rfl ⟨by rw [HV.out]; rfl, rfl⟩
        · rw [if_neg h9] at hsm
          have hq : n + z.toNat % 128 * 2 ^ (7 * k) < 18446744073709551616 := by
            have hm1 : k = 9 → z.toNat % 128 ≤ 1 := fun h => by have := fun h2 => h9 ⟨h, h2⟩; omega
            generalize z.toNat % 128 = m at hm128 hm1
            clear hsm hoa hand h9 hi1 hcell hkf hlt
            rcases (by omega : k = 0 ∨ k = 1 ∨ k = 2 ∨ k = 3 ∨ k = 4 ∨ k = 5 ∨ k = 6 ∨ k = 7 ∨ k = 8 ∨ k = 9) with rfl | rfl | rfl | rfl | rfl | rfl | rfl | rfl | rfl | rfl <;> simp only [Nat.reduceMul, Nat.reducePow] at hnk ⊢ <;> simp at hm1 <;> omega
          have hq2 : n + z.toNat % 128 * 2 ^ (7 * k) < 2 ^ (7 * (k + 1)) := by
            generalize z.toNat % 128 = m at hm128
            clear hsm hoa hand h9 hi1 hcell hkf hlt hq
            rcases (by omega : k = 0 ∨ k = 1 ∨ k = 2 ∨ k = 3 ∨ k = 4 ∨ k = 5 ∨ k = 6 ∨ k = 7 ∨ k = 8 ∨ k = 9) with rfl | rfl | rfl | rfl | rfl | rfl | rfl | rfl | rfl | rfl <;> simp only [Nat.reduceMul, Nat.reducePow, Nat.reduceAdd] at hnk ⊢ <;> omega
          have hor := hoa hq
          have hmul : IntKind.u64.wrap (((z.toNat % 128 : Nat) : Int) * ((2 ^ (7 * k) : Nat) : Int)) = ((z.toNat % 128 * 2 ^ (7 * k) : Nat) : Int) := by
            rw [← Int.natCast_mul, IntKind.wrap_u64]; omega
          have hwm : IntKind.u64.wrap ((z.toNat % 128 : Nat) : Int) = ((z.toNat % 128 : Nat) : Int) := by rw [IntKind.wrap_u64]; omega
          have hzm : z.toNat < 128 → z.toNat % 128 = z.toNat := fun h => Nat.mod_eq_of_lt h
          obtain ⟨x, hx⟩ : ∃ x, z.toNat % 128 * 2 ^ (7 * k) = x := ⟨_, rfl⟩
          rw [hx] at hsm hq hq2 hor hmul
          generalize hmm : z.toNat % 128 = m at hand hmul hwm
          obtain ⟨q, hqq⟩ : ∃ q, n + x = q := ⟨_, rfl⟩
          rw [hqq] at hsm hq hq2 hor
          have HX0 := Lib.hid (show k = 0 → m = x from fun h => by subst h; rw [← hx, hmm]; simp)
          clear hoa hm128 hx hzm hqq hmm
          by_cases hc : 128 ≤ z.toNat
          · rw [if_pos hc] at hsm
            have HV := Lib.hid hsm
            have HQ := Lib.hid hq2
            have hci : (128 : Int) ≤ (z.toNat : Int) := by omega
            have hk8 : k ≤ 8 := by omega
            clear hsm h9 hq2 hq hnk HE hk9 hk10 hf1
            rcases (by omega : k = 0 ∨ k = 1 ∨ k = 2 ∨ k = 3 ∨ k = 4 ∨ k = 5 ∨ k = 6 ∨ k = 7 ∨ k = 8) with rfl | rfl | rfl | rfl | rfl | rfl | rfl | rfl | rfl <;>
            (simp only [Nat.reduceMul, Nat.reducePow, Int.natCast_one, Int.cast_ofNat_Int, Nat.mul_zero, Nat.pow_zero, Int.mul_one] at hmul
             try simp only [Nat.add_zero, Int.ofNat_zero, Int.natCast_zero, Int.add_zero] at hcell hi1
             try (have hx0 := HX0.out rfl; subst hx0)
             go_wp2_with fail
             go_roundw
             case rel => exact ⟨_, f', q, by omega, by omega, HQ.out, rfl, by go_num, HV.out, by first | rfl | trivial⟩
             case measure => simp [intOf])
          · rw [if_neg hc] at hsm
            have hci : (z.toNat : Int) < 128 := by omega
            by_cases h0 : z.toNat = 0 ∧ 0 < k
            · have HV := Lib.hid (show rdU b p = (0, 0, 11) by rw [hsm, if_pos h0])
              obtain ⟨hz0, hkp⟩ := h0
              rw [hz0] at hcell hand
              clear hsm h9 hq2 hq hnk HE hk10 hf1 hc hci
              rcases (by omega : k = 1 ∨ k = 2 ∨ k = 3 ∨ k = 4 ∨ k = 5 ∨ k = 6 ∨ k = 7 ∨ k = 8 ∨ k = 9) with rfl | rfl | rfl | rfl | rfl | rfl | rfl | rfl | rfl <;>
              (simp only [Nat.reduceMul, Nat.reducePow, Int.natCast_one, Int.cast_ofNat_Int, Nat.mul_zero, Nat.pow_zero, Int.mul_one] at hmul
               go_wp2_with fail
               refine bodyPost_ret (v := .tuple #[.int .u64 0, .int .i64 0, .int .i64 11]) (by simp [results, Tryd.results85, go_sem]) rfl ⟨by rw [HV.out]; rfl, rfl⟩)
            · have HV := Lib.hid (show rdU b p = (q, p + k + 1, 0) by rw [hsm, if_neg h0])
              have hz0 : 0 < k → z.toNat ≠ 0 := fun h e => h0 ⟨e, h⟩
              have h91 : k = 9 → (z.toNat : Int) ≤ 1 := fun h => by have := fun h2 => h9 ⟨h, h2⟩; omega
              clear hsm h9 hq2 hq hnk HE hk10 hf1 hc h0
              rcases (by omega : k = 0 ∨ k = 1 ∨ k = 2 ∨ k = 3 ∨ k = 4 ∨ k = 5 ∨ k = 6 ∨ k = 7 ∨ k = 8 ∨ k = 9) with rfl | rfl | rfl | rfl | rfl | rfl | rfl | rfl | rfl | rfl <;>
              (simp only [Nat.reduceMul, Nat.reducePow, Int.natCast_one, Int.cast_ofNat_Int, Nat.mul_zero, Nat.pow_zero, Int.mul_one] at hmul
               try simp only [Nat.add_zero, Int.ofNat_zero, Int.natCast_zero, Int.add_zero] at hcell hi1
               try (have hx0 := HX0.out rfl; subst hx0)
               simp at h91 hz0
               go_wp2_with fail
               all_goals
                 refine bodyPost_ret (results_tmp3 rfl _ _ _) rfl ⟨?_, by first | rfl | trivial⟩
                 rw [HV.out]
                 simp [*])
      · have HV := Lib.hid (show rdU b p = (0, 0, 10) by rw [HE.out, rdF_none (List.getElem?_eq_none (by omega))])
        have hi1 : ¬ (p : Int) + (k : Int) < (b.length : Int) := by omega
        clear hnk
        go_wp2_with fail
        refine bodyPost_ret (results_tmp3 rfl _ _ _) rfl ⟨?_, by first | rfl | trivial⟩
        rw [HV.out]
        simp
end Go.Proofs.YtfmlkagcmkbebaaDoor
