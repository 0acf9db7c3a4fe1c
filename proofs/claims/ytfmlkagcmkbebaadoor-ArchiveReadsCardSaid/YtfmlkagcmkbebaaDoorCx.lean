/- Of these: Ca Cb Cc Cd Ce Cf Cg Ch Ci Cj Ck Cl. -/
import Derived.Test.YtfmlkagcmkbebaaDoorXf
import Derived.Test.YtfmlkagcmkbebaaDoorVc
import Derived.Test.YtfmlkagcmkbebaaDoorWx
import Derived.Test.YtfmlkagcmkbebaaDoorXg
import Derived.Deep.RegionHeld3
import Derived.StillTailTactics

/- Plain laws: a number that is read is what was written, and back; frames too. -/
namespace Go.Proofs.YtfmlkagcmkbebaaDoor
open Go.RowKit

theorem pow_le_64 {k : Nat} (hk : k ≤ 9) : 2 ^ (64 - 7 * k) = 128 * 2 ^ (57 - 7 * k) ∨ k = 9 := by
  rcases (by omega : k = 0 ∨ k = 1 ∨ k = 2 ∨ k = 3 ∨ k = 4 ∨ k = 5 ∨ k = 6 ∨ k = 7 ∨ k = 8 ∨ k = 9) with rfl | rfl | rfl | rfl | rfl | rfl | rfl | rfl | rfl | rfl <;> simp
theorem u8_nat_id (c : UInt8) : UInt8.ofNat c.toNat = c := by simp
theorem drop_some {b : List UInt8} {k : Nat} {c : UInt8} (h : b[k]? = some c) : b.drop k = c :: b.drop (k + 1) := by
  obtain ⟨hlt, rfl⟩ := List.getElem?_eq_some_iff.1 h
  exact List.drop_eq_getElem_cons hlt
/-- What is read is what uvar writes. -/
theorem rdF_uvar {b : List UInt8} {p : Nat} : ∀ {f k n x q : Nat}, f + k = 10 → rdF b p f k n = (x, q, 0) →
    ∃ m, x = n + m * 2 ^ (7 * k) ∧ q = p + k + (uvar m).length ∧ b.drop (p + k) = uvar m ++ b.drop q ∧ (0 < k → 0 < m) ∧ m < 2 ^ (64 - 7 * k)
  | 0, k, n, x, q, hk, h => by simp [rdF] at h
  | f + 1, k, n, x, q, hk, h => by
    rcases hb : b[p + k]? with _ | c
    · rw [rdF_none hb] at h; simp at h
    · rw [rdF_some hb] at h
      have hk9 : k ≤ 9 := by omega
      have hp := pow_le_64 hk9
      have hc := c.toNat_lt
      have hd := drop_some hb
      have h2p : 1 ≤ 2 ^ (57 - 7 * k) := Nat.one_le_two_pow
      split at h
      · simp at h
      · rename_i h9
        split at h
        · rename_i h128
          obtain ⟨m, hx, hq, hbq, hm0, hml⟩ := rdF_uvar (by omega) h
          have hm1 := hm0 (by omega)
          have hk8 : k ≠ 9 := fun e => by subst e; omega
          have hge : 128 ≤ c.toNat % 128 + 128 * m := by omega
          have e1 : (c.toNat % 128 + 128 * m) % 128 = c.toNat % 128 := by omega
          have e2 : (c.toNat % 128 + 128 * m) / 128 = m := by omega
          have e3 : UInt8.ofNat (128 + c.toNat % 128) = c := by rw [show 128 + c.toNat % 128 = c.toNat by omega, u8_nat_id]
          have hu : uvar (c.toNat % 128 + 128 * m) = c :: uvar m := by rw [uvar_ge hge, e1, e2, e3]
          refine ⟨c.toNat % 128 + 128 * m, ?_, ?_, ?_, fun _ => by omega, ?_⟩
          · rw [hx, show 7 * (k + 1) = 7 * k + 7 by omega, Nat.pow_add, Nat.add_mul, Nat.add_assoc]
            congr 2
            rw [Nat.mul_comm 128 m, Nat.mul_assoc, Nat.mul_comm (2 ^ (7 * k))]
          · rw [hu, List.length_cons]; omega
          · rw [hu, hd, List.cons_append, ← hbq]; rfl
          · rcases hp with hp | hp
            · rw [hp]
              rw [show 64 - 7 * (k + 1) = 57 - 7 * k by omega] at hml
              omega
            · exact absurd hp hk8
        · rename_i h128
          split at h
          · simp at h
          · rename_i h0
            simp only [Prod.mk.injEq] at h
            obtain ⟨rfl, rfl, _⟩ := h
            have hu : uvar c.toNat = [c] := by rw [uvar_lt (by omega), u8_nat_id]
            refine ⟨c.toNat, ?_, ?_, ?_, fun hk0 => ?_, ?_⟩
            · rw [Nat.mod_eq_of_lt (by omega)]
            · rw [hu]; simp
            · rw [hu, hd]; rfl
            · exact Nat.pos_of_ne_zero fun e => h0 ⟨e, hk0⟩
            · rcases hp with hp | hp
              · rw [hp]; omega
              · subst hp; simp only [Nat.reduceMul, Nat.reduceSub, Nat.reducePow]; omega
/-- What uvar writes is read. -/
theorem rdF_back {b rest : List UInt8} {p : Nat} : ∀ {f k n m : Nat}, f + k = 10 → k ≤ 9 → b.drop (p + k) = uvar m ++ rest → (0 < k → 0 < m) → m < 2 ^ (64 - 7 * k) →
    rdF b p f k n = (n + m * 2 ^ (7 * k), p + k + (uvar m).length, 0)
  | 0, k, n, m, hk, h9, _, _, _ => by omega
  | f + 1, k, n, m, hk, h9, hb, h0, hm => by
    have hp := pow_le_64 h9
    rcases Nat.lt_or_ge m 128 with hlt | hge
    · have hu := uvar_lt hlt
      have hz : (UInt8.ofNat m).toNat = m := by simp; omega
      rw [hu] at hb ⊢
      have hg : b[p + k]? = some (UInt8.ofNat m) := by
        have := congrArg (·[0]?) hb
        simpa using this
      rw [rdF_some hg, hz, if_neg, if_neg (by omega), if_neg, Nat.mod_eq_of_lt hlt]
      · rfl
      · rintro ⟨e, hk0⟩; have := h0 hk0; omega
      · rintro ⟨e, h1⟩
        subst e
        simp only [Nat.reduceMul, Nat.reduceSub, Nat.reducePow] at hm; omega
    · have hu := uvar_ge hge
      have hz : (UInt8.ofNat (128 + m % 128)).toNat = 128 + m % 128 := by simp; omega
      have hk8 : k ≠ 9 := fun e => by subst e; simp only [Nat.reduceMul, Nat.reduceSub, Nat.reducePow] at hm; omega
      rw [hu] at hb
      have hg : b[p + k]? = some (UInt8.ofNat (128 + m % 128)) := by
        have := congrArg (·[0]?) hb
        simpa using this
      have hb2 : b.drop (p + (k + 1)) = uvar (m / 128) ++ rest := by
        have := congrArg (List.drop 1) hb
        rw [List.drop_drop] at this
        simpa [Nat.add_assoc] using this
      rw [rdF_some hg, hz, if_neg (by omega), if_pos (by omega), rdF_back (by omega) (by omega) hb2 (fun _ => by omega)]
      · rw [hu, List.length_cons]
        have e1 : (128 + m % 128) % 128 = m % 128 := by omega
        rw [e1, show 7 * (k + 1) = 7 * k + 7 by omega, Nat.pow_add]
        have e2 : m % 128 * 2 ^ (7 * k) + m / 128 * (2 ^ (7 * k) * 2 ^ 7) = m * 2 ^ (7 * k) := by
          rw [Nat.mul_comm (2 ^ (7 * k)), ← Nat.mul_assoc, ← Nat.add_mul]; congr 1; omega
        rw [Nat.add_assoc n, e2]
        refine Prod.ext rfl (Prod.ext ?_ rfl)
        show p + (k + 1) + _ = p + k + (_ + 1); omega
      · rcases hp with hp | hp
        · rw [hp] at hm
          rw [show 64 - 7 * (k + 1) = 57 - 7 * k by omega]; omega
        · exact absurd hp hk8
theorem rdU_uvar {b : List UInt8} {p x q : Nat} (h : rdU b p = (x, q, 0)) : p ≤ b.length ∧ q = p + (uvar x).length ∧ b.drop p = uvar x ++ b.drop q ∧ x < 18446744073709551616 := by
  unfold rdU at h
  split at h
  · simp at h
  · rename_i hp
    obtain ⟨m, hx, hq, hb, _, hm⟩ := rdF_uvar (k := 0) rfl h
    simp only [Nat.mul_zero, Nat.pow_zero, Nat.mul_one, Nat.zero_add] at hx
    subst hx
    exact ⟨by omega, hq, hb, hm⟩
theorem rdU_back {b rest : List UInt8} {p x : Nat} (hp : p ≤ b.length) (hb : b.drop p = uvar x ++ rest) (hx : x < 18446744073709551616) : rdU b p = (x, p + (uvar x).length, 0) := by
  unfold rdU
  rw [if_neg (by omega), rdF_back (k := 0) (m := x) rfl (by omega) hb (by omega) (by simpa using hx)]
  simp

/-! Frames -/
theorem le32_len (s : UInt32) : (le32 s).length = 4 := rfl
theorem frame_len5 (x : List UInt8) : (frame x).length = (uvar x.length).length + x.length + 5 := by
  unfold frame; simp only [List.length_append, le32_len, List.length_cons, List.length_nil]
theorem le4_le32 {b rest : List UInt8} {q : Nat} {s : UInt32} (h : b.drop q = le32 s ++ rest) : le4 b q = s.toNat := by
  have g : ∀ j, b.getD (q + j) 0 = (le32 s ++ rest).getD j 0 := fun j => by
    rw [← h, List.getD_eq_getElem?_getD, List.getD_eq_getElem?_getD, List.getElem?_drop]
  have hs := s.toNat_lt
  unfold le4
  have g0 := g 0
  rw [Nat.add_zero] at g0
  rw [g0, g 1, g 2, g 3]
  simp only [le32, List.cons_append, List.getD_cons_zero, List.getD_cons_succ, UInt8.toNat_ofNat']
  omega
theorem le32_of_le4 {b : List UInt8} {q : Nat} {s : UInt32} (hq : q + 4 ≤ b.length) (h : le4 b q = s.toNat) : b.drop q = le32 s ++ b.drop (q + 4) := by
  rw [List.drop_eq_getElem_cons (by omega), List.drop_eq_getElem_cons (by omega : q + 1 < b.length), List.drop_eq_getElem_cons (by omega : q + 2 < b.length), List.drop_eq_getElem_cons (by omega : q + 3 < b.length)]
  unfold le4 at h
  rw [List.getD_eq_getElem?_getD, List.getD_eq_getElem?_getD, List.getD_eq_getElem?_getD, List.getD_eq_getElem?_getD, List.getElem?_eq_getElem (by omega), List.getElem?_eq_getElem (by omega : q + 1 < b.length), List.getElem?_eq_getElem (by omega : q + 2 < b.length), List.getElem?_eq_getElem (by omega : q + 3 < b.length)] at h
  simp only [Option.getD_some] at h
  generalize b[q] = x0 at h ⊢
  generalize b[q + 1] = x1 at h ⊢
  generalize b[q + 2] = x2 at h ⊢
  generalize b[q + 3] = x3 at h ⊢
  have z0 := x0.toNat_lt
  have z1 := x1.toNat_lt
  have z2 := x2.toNat_lt
  have z3 := x3.toNat_lt
  have e0 : UInt8.ofNat s.toNat = x0 := by apply UInt8.toNat_inj.1; simp; omega
  have e1 : UInt8.ofNat (s.toNat / 256) = x1 := by apply UInt8.toNat_inj.1; simp; omega
  have e2 : UInt8.ofNat (s.toNat / 65536) = x2 := by apply UInt8.toNat_inj.1; simp; omega
  have e3 : UInt8.ofNat (s.toNat / 16777216) = x3 := by apply UInt8.toNat_inj.1; simp; omega
  unfold le32
  rw [e0, e1, e2, e3]
  rfl
/-- A frame that is read stands there as frame writes it. -/
theorem rdFr_frame {b x : List UInt8} {p q : Nat} (h : rdFr b p = (x, q, 0)) : p ≤ b.length ∧ q = p + (frame x).length ∧ b.drop p = frame x ++ b.drop q ∧ 0 < x.length ∧ x.length ≤ 1048576 := by
  have hend := rdFr_end (b := b) (p := p) (by rw [h])
  rw [h] at hend
  obtain ⟨h0, h1, hpq, hq⟩ := hend
  unfold rdFr at h
  split at h
  · rename_i h2; simp only [Prod.mk.injEq] at h; exact absurd h.2.2 h2
  · rename_i h2
    have h2 : (bdU b p).2.2 = 0 := Classical.byContradiction h2
    have hbe := bdU_end h2
    split at h
    · simp at h
    · rename_i h3
      have h3 : le4 b (bdU b p).2.1 = (crc ((b.take (bdU b p).2.1).drop p)).toNat := Classical.byContradiction h3
      simp only [Prod.mk.injEq] at h
      obtain ⟨hx, hqq, _⟩ := h
      unfold bdU at h2 h3 hx hqq hbe
      split at h2
      · rename_i h4; exact absurd h2 h4
      · rename_i h4
        rw [if_neg h4] at h3 hx hqq hbe
        have h4 : (rdU b p).2.2 = 0 := Classical.byContradiction h4
        obtain ⟨n, fr, hr⟩ : ∃ n fr, rdU b p = (n, fr, 0) := ⟨_, _, by rw [← h4]⟩
        obtain ⟨u1, u2, u3, _⟩ := rdU_uvar hr
        rw [hr] at h2 h3 hx hqq hbe
        simp only at h2 h3 hx hqq hbe
        split at h2
        · simp at h2
        · rename_i h5
          rw [if_neg h5] at h3 hx hqq hbe
          split at h2
          · simp at h2
          · rename_i h6
            rw [if_neg h6] at h3 hx hqq hbe
            split at h2
            · simp at h2
            · rename_i h7
              rw [if_neg h7] at h3 hx hqq hbe
              split at h2
              · simp at h2
              · rename_i h8
                rw [if_neg h8] at h3 hx hqq hbe
                simp only at h3 hx hqq hbe
                have h8 : b[fr + n + 4]? = some 165 := Classical.byContradiction h8
                have hxl : x.length = n := by rw [← hx]; simp; omega
                have ht : (b.take (fr + n)).drop p = uvar n ++ x := by
                  rw [List.drop_take, u3, List.take_append, List.take_of_length_le (by omega), ← hx, List.drop_take]
                  congr 2
                  omega
                have hd1 : b.drop fr = x ++ b.drop (fr + n) := by
                  have e := List.take_append_drop n (b.drop fr)
                  rw [List.drop_drop] at e
                  have : (b.drop fr).take n = x := by rw [← hx, List.drop_take]; congr 1; omega
                  rw [← this]; exact e.symm
                have hd2 := le32_of_le4 (b := b) (q := fr + n) (by omega) h3
                have hd3 := drop_some h8
                refine ⟨u1, ?_, ?_, h0, h1⟩
                · rw [frame_len5, hxl]; omega
                · rw [u3, hd1, hd2, hd3, ht, ← hqq]
                  unfold frame
                  rw [hxl]
                  simp [List.append_assoc]
/-- A frame that stands there is read. -/
theorem rdFr_back {b x rest : List UInt8} {p : Nat} (hp : p ≤ b.length) (hb : b.drop p = frame x ++ rest) (h0 : 0 < x.length) (h1 : x.length ≤ 1048576) : rdFr b p = (x, p + (frame x).length, 0) := by
  have hlen := congrArg List.length hb
  rw [List.length_append, List.length_drop, frame_len5] at hlen
  have hb1 : b.drop p = uvar x.length ++ (x ++ le32 (crc (uvar x.length ++ x)) ++ [165] ++ rest) := by
    rw [hb]; unfold frame; simp [List.append_assoc]
  have hr := rdU_back hp hb1 (by omega)
  obtain ⟨L, hL⟩ : ∃ L, (uvar x.length).length = L := ⟨_, rfl⟩
  have hd1 : b.drop (p + L) = x ++ (le32 (crc (uvar x.length ++ x)) ++ [165] ++ rest) := by
    rw [← List.drop_drop, hb1, List.drop_left' hL]; simp [List.append_assoc]
  have hd2 : b.drop (p + L + x.length) = le32 (crc (uvar x.length ++ x)) ++ ([165] ++ rest) := by
    rw [← List.drop_drop, hd1, List.drop_left' rfl]; simp [List.append_assoc]
  have hd3 : b.drop (p + L + x.length + 4) = [165] ++ rest := by
    rw [← List.drop_drop, hd2, List.drop_left' (le32_len _)]
  have hm : b[p + L + x.length + 4]? = some 165 := by
    have := congrArg (·[0]?) hd3
    simpa using this
  have hbd : bdU b p = (p + L, p + L + x.length, 0) := by
    unfold bdU
    rw [hr, hL, if_neg (by simp), if_neg (by simp only; omega), if_neg (by simp only; omega), if_neg (by simp only; omega), if_neg]
    simp only [hm, ne_eq, not_true_eq_false, not_false_eq_true]
  have ht : (b.take (p + L + x.length)).drop p = uvar x.length ++ x := by
    rw [List.drop_take, hb1, List.take_append, hL, List.take_of_length_le (by omega), show p + L + x.length - p - L = x.length by omega, List.append_assoc, List.append_assoc, List.take_left' rfl]
  have hx : (b.take (p + L + x.length)).drop (p + L) = x := by
    rw [List.drop_take, hd1, show p + L + x.length - (p + L) = x.length by omega, List.take_left' rfl]
  unfold rdFr
  rw [hbd, if_neg (by simp), if_neg]
  · simp only [hx, frame_len5, hL]
    refine Prod.ext rfl (Prod.ext ?_ rfl)
    simp only; omega
  · simp only [ht, le4_le32 hd2, ne_eq, not_true_eq_false, not_false_eq_true]
theorem frame_inj {x y : List UInt8} {r s : List UInt8} (h : frame x ++ r = frame y ++ s) (hx : 0 < x.length) (hx1 : x.length ≤ 1048576) (hy : 0 < y.length) (hy1 : y.length ≤ 1048576) : x = y ∧ r = s := by
  have h1 := rdFr_back (b := frame x ++ r) (p := 0) (x := x) (rest := r) (by omega) (by simp) hx hx1
  have h2 := rdFr_back (b := frame x ++ r) (p := 0) (x := y) (rest := s) (by omega) (by simpa using h) hy hy1
  rw [h1] at h2
  simp only [Prod.mk.injEq] at h2
  obtain ⟨rfl, _⟩ := h2
  exact ⟨rfl, List.append_cancel_left h⟩
end Go.Proofs.YtfmlkagcmkbebaaDoor

/- Plain laws: a record's bytes read back. -/
namespace Go.Proofs.YtfmlkagcmkbebaaDoor
open Go.RowKit

def rc0 : Rc := ⟨0, 0, 0, 0, 0, 0, 0, 0, 0, 0, ⟨#[]⟩, []⟩
def rcV (v : Int) : Rc := ⟨v, 0, 0, 0, 0, 0, 0, 0, 0, 0, ⟨#[]⟩, []⟩
/-- The record with another number under the tag t. -/
def Rc.put (r : Rc) (t : Nat) (n : Int) : Rc :=
  match t with
  | 1 => { r with kd := n }
  | 2 => { r with sg := n }
  | 3 => { r with st := n }
  | 4 => { r with tr := n }
  | 5 => { r with tm := n }
  | 6 => { r with la := n }
  | 7 => { r with co := n }
  | 8 => { r with cn := n }
  | 9 => { r with pv := n }
  | _ => r
def unzig (u : Nat) : Int := if u % 2 = 1 then -((u / 2 : Nat) : Int) - 1 else ((u / 2 : Nat) : Int)
/-- The signed number at p. -/
def rdInt (b : List UInt8) (p : Nat) : Int × Nat × Int := if (rdU b p).2.2 ≠ 0 then (0, 0, (rdU b p).2.2) else (unzig (rdU b p).1, (rdU b p).2.1, 0)
/-- The byte string at p, of at most mx bytes. -/
def rdBy (b : List UInt8) (p mx : Nat) : List UInt8 × Nat × Int :=
  if (rdU b p).2.2 ≠ 0 then ([], 0, (rdU b p).2.2) else if mx < (rdU b p).1 then ([], 0, 13) else if b.length - (rdU b p).2.1 < (rdU b p).1 then ([], 0, 10)
  else ((b.take ((rdU b p).2.1 + (rdU b p).1)).drop (rdU b p).2.1, (rdU b p).2.1 + (rdU b p).1, 0)
/-- The record with the tag t's value that stands at p, where it ends, the code. -/
def rdVal (r : Rc) (t : Nat) (b : List UInt8) (p : Nat) : Rc × Nat × Int :=
  if t = 7 then ({ r with co := (rdInt b p).1 }, (rdInt b p).2)
  else if t = 10 then ({ r with nm := ⟨(rdBy b p 192).1.toArray⟩ }, (rdBy b p 192).2)
  else if t = 11 then ({ r with da := (rdBy b p 16384).1 }, (rdBy b p 16384).2)
  else if (rdU b p).2.2 ≠ 0 then (r, 0, (rdU b p).2.2) else if 9223372036854775807 < (rdU b p).1 then (r, 0, 34) else (r.put t (rdU b p).1, (rdU b p).2.1, 0)
/-- The tags from t on, f of them, looked for from k on. -/
def fldF (b : List UInt8) : Nat → Nat → Rc → Nat → Rc × Int
  | 0, _, r, k => if k = b.length then (r, 0) else if (rdU b k).2.2 ≠ 0 then (r, (rdU b k).2.2) else (r, 37)
  | f + 1, t, r, k =>
    if k < b.length then
      if (rdU b k).2.2 ≠ 0 then (r, (rdU b k).2.2)
      else if (rdU b k).1 ≠ t then fldF b f (t + 1) r k
      else if (rdVal r t b (rdU b k).2.1).2.2 ≠ 0 then ((rdVal r t b (rdU b k).2.1).1, (rdVal r t b (rdU b k).2.1).2.2)
      else if zeroB (rdVal r t b (rdU b k).2.1).1 t then ((rdVal r t b (rdU b k).2.1).1, 38)
      else fldF b f (t + 1) (rdVal r t b (rdU b k).2.1).1 (rdVal r t b (rdU b k).2.1).2.1
    else (r, 0)
/-- The record of version v that the bytes are, the code. -/
def decC (v : Int) (b : List UInt8) : Rc × Int :=
  if v < 1 ∨ 3 < v then (rc0, 3)
  else if (fldF b 11 1 (rcV v) 0).2 ≠ 0 then (rc0, (fldF b 11 1 (rcV v) 0).2)
  else if checkC (fldF b 11 1 (rcV v) 0).1 ≠ 0 then (rc0, checkC (fldF b 11 1 (rcV v) 0).1)
  else ((fldF b 11 1 (rcV v) 0).1, 0)

/-! Fields -/
def fldEq (r s : Rc) (j : Nat) : Prop := if j = 10 then r.nm = s.nm else if j = 11 then r.da = s.da else r.num j = s.num j
theorem fldEq.mk {r s : Rc} {j : Nat} (h10 : j = 10 → r.nm = s.nm) (h11 : j = 11 → r.da = s.da) (h : j ≠ 10 → j ≠ 11 → r.num j = s.num j) : fldEq r s j := by
  unfold fldEq
  by_cases e : j = 10
  · rw [if_pos e]; exact h10 e
  · rw [if_neg e]
    by_cases e2 : j = 11
    · rw [if_pos e2]; exact h11 e2
    · rw [if_neg e2]; exact h e e2
theorem fldEq.nm {r s : Rc} (h : fldEq r s 10) : r.nm = s.nm := h
theorem fldEq.da {r s : Rc} (h : fldEq r s 11) : r.da = s.da := h
theorem fldEq.num {r s : Rc} {j : Nat} (h : fldEq r s j) (e : j ≠ 10) (e2 : j ≠ 11) : r.num j = s.num j := by
  unfold fldEq at h; rw [if_neg e, if_neg e2] at h; exact h
theorem fldEq.refl (r : Rc) (j : Nat) : fldEq r r j := .mk (fun _ => rfl) (fun _ => rfl) (fun _ _ => rfl)
theorem fldEq.symm {r s : Rc} {j : Nat} (h : fldEq r s j) : fldEq s r j := .mk (fun e => by subst e; exact h.nm.symm) (fun e => by subst e; exact h.da.symm) (fun e e2 => (h.num e e2).symm)
theorem fldEq.trans {r s u : Rc} {j : Nat} (h : fldEq r s j) (k : fldEq s u j) : fldEq r u j := .mk (fun e => by subst e; exact h.nm.trans k.nm) (fun e => by subst e; exact h.da.trans k.da) (fun e e2 => (h.num e e2).trans (k.num e e2))
theorem fldEq.zero {r s : Rc} {j : Nat} (h : fldEq r s j) : zeroB r j = zeroB s j := by
  unfold zeroB
  by_cases e : j = 10
  · subst e; rw [if_pos rfl, if_pos rfl, h.nm]
  · by_cases e2 : j = 11
    · subst e2; rw [if_neg e, if_neg e, if_pos rfl, if_pos rfl, h.da]
    · rw [if_neg e, if_neg e, if_neg e2, if_neg e2, h.num e e2]
theorem rc0_num (j : Nat) : rc0.num j = 0 := by unfold Rc.num rc0; split <;> rfl
theorem rcV_fld (v : Int) {j : Nat} (h : 1 ≤ j) : fldEq (rcV v) rc0 j := .mk (fun _ => rfl) (fun _ => rfl) (fun _ _ => by unfold Rc.num rcV rc0; split <;> first | rfl | omega)
theorem fldEq.val {r s : Rc} {j : Nat} (h : fldEq r s j) : valB r j = valB s j := by
  unfold fldEq at h; unfold valB
  split at h
  · rename_i h10; subst h10; simp [h]
  · rename_i h10
    split at h
    · rename_i h11; subst h11; simp [h]
    · rename_i h11
      rw [if_neg h10, if_neg h11, if_neg h10, if_neg h11, h]
      split
      · rename_i h7; subst h7; have : r.co = s.co := h; rw [this]
      · rfl
theorem ba_nil {s : ByteArray} (h : s.toList.isEmpty = true) : s = ⟨#[]⟩ := by
  rw [Lib.toList_data] at h
  obtain ⟨⟨l⟩⟩ := s
  simp at h; subst h; rfl
theorem zero_fld {r : Rc} {j : Nat} (h : zeroB r j = true) : fldEq r rc0 j := by
  unfold zeroB at h; unfold fldEq
  split at h
  · rename_i h10; rw [if_pos h10]; exact ba_nil h
  · rename_i h10
    rw [if_neg h10]
    split at h
    · rename_i h11
      rw [if_pos h11]
      rw [beq_iff_eq] at h
      exact List.eq_nil_of_length_eq_zero (by omega)
    · rename_i h11
      rw [if_neg h11]
      rw [beq_iff_eq] at h
      rw [h]
      unfold Rc.num rc0
      split <;> rfl
theorem rc0_zero {j : Nat} : zeroB rc0 j = true := by
  unfold zeroB
  split
  · have e : rc0.nm.toList = rc0.nm.data.toList := Lib.toList_data _
    rw [e]; rfl
  · split
    · rfl
    · unfold Rc.num rc0; split <;> rfl
theorem rc_ext {r s : Rc} (hv : r.v = s.v) (h : ∀ j, 1 ≤ j → j ≤ 11 → fldEq r s j) : r = s := by
  have h1 : r.kd = s.kd := h 1 (by omega) (by omega)
  have h2 : r.sg = s.sg := h 2 (by omega) (by omega)
  have h3 : r.st = s.st := h 3 (by omega) (by omega)
  have h4 : r.tr = s.tr := h 4 (by omega) (by omega)
  have h5 : r.tm = s.tm := h 5 (by omega) (by omega)
  have h6 : r.la = s.la := h 6 (by omega) (by omega)
  have h7 : r.co = s.co := h 7 (by omega) (by omega)
  have h8 : r.cn = s.cn := h 8 (by omega) (by omega)
  have h9 : r.pv = s.pv := h 9 (by omega) (by omega)
  have h10 : r.nm = s.nm := h 10 (by omega) (by omega)
  have h11 : r.da = s.da := h 11 (by omega) (by omega)
  cases r; cases s; simp_all
theorem put_other {r : Rc} {t j : Nat} {n : Int} (h : j ≠ t) : fldEq r (r.put t n) j := by
  unfold fldEq
  unfold Rc.put
  split
  · split <;> rfl
  · split
    · split <;> rfl
    · split <;> (unfold Rc.num; split <;> first | rfl | (exfalso; exact h rfl))
theorem put_v {r : Rc} {t : Nat} {n : Int} : (r.put t n).v = r.v := by unfold Rc.put; split <;> rfl
theorem put_num {r : Rc} {t : Nat} {n : Int} (h1 : 1 ≤ t) (h9 : t ≤ 9) : (r.put t n).num t = n := by
  rcases (by omega : t = 1 ∨ t = 2 ∨ t = 3 ∨ t = 4 ∨ t = 5 ∨ t = 6 ∨ t = 7 ∨ t = 8 ∨ t = 9) with rfl | rfl | rfl | rfl | rfl | rfl | rfl | rfl | rfl <;> rfl
theorem zig_unzig (u : Nat) : zig (unzig u) = u := by unfold zig unzig; split <;> split <;> omega
theorem unzig_zig (n : Int) : unzig (zig n) = n := by unfold zig unzig; split <;> split <;> omega

/-! What is read is what was written -/
theorem rdBy_uvar {b x : List UInt8} {p mx q : Nat} (h : rdBy b p mx = (x, q, 0)) : p ≤ b.length ∧ q = p + ((uvar x.length).length + x.length) ∧ q ≤ b.length ∧ b.drop p = uvar x.length ++ x ++ b.drop q ∧ x.length ≤ mx := by
  unfold rdBy at h
  split at h
  · rename_i h1; simp only [Prod.mk.injEq] at h; exact absurd h.2.2 h1
  · rename_i h1
    have h1 : (rdU b p).2.2 = 0 := Classical.byContradiction h1
    obtain ⟨n, fr, hr⟩ : ∃ n fr, rdU b p = (n, fr, 0) := ⟨_, _, by rw [← h1]⟩
    obtain ⟨u1, u2, u3, _⟩ := rdU_uvar hr
    have hend := rdU_end h1
    rw [hr] at h hend
    simp only at h hend
    split at h
    · simp at h
    · rename_i h2
      split at h
      · simp at h
      · rename_i h3
        simp only [Prod.mk.injEq] at h
        obtain ⟨hx, hq, _⟩ := h
        have hl : x.length = n := by rw [← hx]; simp; omega
        refine ⟨u1, by rw [hl]; omega, by omega, ?_, by omega⟩
        rw [u3, hl, List.append_assoc, ← hq]
        congr 1
        have e := List.take_append_drop n (b.drop fr)
        rw [List.drop_drop] at e
        have : (b.drop fr).take n = x := by rw [← hx, List.drop_take]; congr 1; omega
        rw [← this]; exact e.symm
theorem rdBy_back {b x rest : List UInt8} {p mx : Nat} (hp : p ≤ b.length) (hb : b.drop p = uvar x.length ++ x ++ rest) (hx : x.length ≤ mx) (hm : mx < 18446744073709551616) : rdBy b p mx = (x, p + ((uvar x.length).length + x.length), 0) := by
  have hlen := congrArg List.length hb
  rw [List.length_drop, List.length_append, List.length_append] at hlen
  rw [List.append_assoc] at hb
  have hr := rdU_back hp hb (by omega)
  have hd : b.drop (p + (uvar x.length).length) = x ++ rest := by rw [← List.drop_drop, hb, List.drop_left' rfl]
  unfold rdBy
  rw [hr, if_neg (by simp), if_neg (by simp only; omega), if_neg (by simp only; omega)]
  refine Prod.ext ?_ (Prod.ext (by simp only; omega) rfl)
  show (b.take (p + (uvar x.length).length + x.length)).drop (p + (uvar x.length).length) = x
  rw [List.drop_take, hd, show p + (uvar x.length).length + x.length - (p + (uvar x.length).length) = x.length by omega, List.take_left' rfl]
theorem rdVal_is {r s : Rc} {t p q : Nat} {b : List UInt8} (h1 : 1 ≤ t) (h11 : t ≤ 11) (h : rdVal r t b p = (s, q, 0)) :
    s.v = r.v ∧ (∀ j, 1 ≤ j → j ≤ 11 → j ≠ t → fldEq r s j) ∧ p ≤ b.length ∧ q ≤ b.length ∧ q = p + (valB s t).length ∧ b.drop p = valB s t ++ b.drop q ∧ (t ≤ 9 → -9223372036854775808 ≤ s.num t ∧ s.num t ≤ 9223372036854775807) := by
  unfold rdVal at h
  split at h
  · rename_i h7
    subst h7
    unfold rdInt at h
    split at h
    · rename_i h2; simp only [Prod.mk.injEq] at h; exact absurd h.2.2 h2
    · rename_i h2
      have h2 : (rdU b p).2.2 = 0 := Classical.byContradiction h2
      obtain ⟨n, fr, hr⟩ : ∃ n fr, rdU b p = (n, fr, 0) := ⟨_, _, by rw [← h2]⟩
      obtain ⟨u1, u2, u3, u4⟩ := rdU_uvar hr
      have hend := rdU_end h2
      rw [hr] at h hend
      simp only [Prod.mk.injEq] at h hend
      obtain ⟨rfl, rfl, _⟩ := h
      have hv : valB { r with co := unzig n } 7 = uvar n := by
        show uvar (zig (unzig n)) = _; rw [zig_unzig]
      refine ⟨rfl, fun j h3 h4 h5 => ?_, u1, hend.2, by rw [hv]; exact u2, by rw [hv]; exact u3, fun _ => ?_⟩
      · exact put_other (t := 7) (n := unzig n) h5
      · show -9223372036854775808 ≤ unzig n ∧ unzig n ≤ _
        unfold unzig; split <;> omega
  · rename_i h7
    split at h
    · rename_i h10
      subst h10
      simp only [Prod.mk.injEq] at h
      obtain ⟨rfl, h⟩ := h
      obtain ⟨u1, u2, u3, u4, u5⟩ := rdBy_uvar (x := (rdBy b p 192).1) (q := q) (by rw [← h])
      have hv : valB { r with nm := ⟨(rdBy b p 192).1.toArray⟩ } 10 = uvar (rdBy b p 192).1.length ++ (rdBy b p 192).1 := rfl
      refine ⟨rfl, fun j h3 h4 h5 => ?_, u1, u3, by rw [hv, List.length_append]; exact u2, by rw [hv]; exact u4, fun h => by omega⟩
      exact .mk (fun e => absurd e h5) (fun _ => rfl) (fun _ _ => rfl)
    · rename_i h10
      split at h
      · rename_i h11'
        subst h11'
        simp only [Prod.mk.injEq] at h
        obtain ⟨rfl, h⟩ := h
        obtain ⟨u1, u2, u3, u4, u5⟩ := rdBy_uvar (x := (rdBy b p 16384).1) (q := q) (by rw [← h])
        have hv : valB { r with da := (rdBy b p 16384).1 } 11 = uvar (rdBy b p 16384).1.length ++ (rdBy b p 16384).1 := rfl
        refine ⟨rfl, fun j h3 h4 h5 => ?_, u1, u3, by rw [hv, List.length_append]; exact u2, by rw [hv]; exact u4, fun h => by omega⟩
        exact .mk (fun _ => rfl) (fun e => absurd e h5) (fun _ _ => rfl)
      · rename_i h11'
        split at h
        · rename_i h2; simp only [Prod.mk.injEq] at h; exact absurd h.2.2 h2
        · rename_i h2
          have h2 : (rdU b p).2.2 = 0 := Classical.byContradiction h2
          obtain ⟨n, fr, hr⟩ : ∃ n fr, rdU b p = (n, fr, 0) := ⟨_, _, by rw [← h2]⟩
          obtain ⟨u1, u2, u3, u4⟩ := rdU_uvar hr
          have hend := rdU_end h2
          rw [hr] at h hend
          simp only at h hend
          split at h
          · simp at h
          · rename_i h3
            simp only [Prod.mk.injEq] at h
            obtain ⟨rfl, rfl, _⟩ := h
            have hn := put_num (r := r) (n := (n : Int)) h1 (by omega : t ≤ 9)
            have hv : valB (r.put t n) t = uvar n := by
              unfold valB; rw [if_neg h7, if_neg h10, if_neg h11', hn, Int.toNat_natCast]
            refine ⟨put_v, fun j h3 h4 h5 => put_other h5, u1, hend.2, by rw [hv]; exact u2, by rw [hv]; exact u3, fun _ => ?_⟩
            rw [hn]; omega
theorem uvar_tag {t : Nat} (h : t ≤ 11) : uvar t = [UInt8.ofNat t] := uvar_lt (by omega)
theorem fldF_end {b : List UInt8} {f t : Nat} {r : Rc} : fldF b f t r b.length = (r, 0) := by
  cases f with
  | zero => rw [fldF, if_pos rfl]
  | succ f => rw [fldF, if_neg (by omega)]
/-- All zero from t on: nothing is written. -/
theorem encF_zero {r : Rc} : ∀ (f t : Nat), (∀ j, t ≤ j → j < t + f → zeroB r j = true) → encF r f t = []
  | 0, _, _ => rfl
  | f + 1, t, h => by
    rw [encF, if_pos (h t (Nat.le_refl _) (by omega)), encF_zero f (t + 1) (fun j h1 h2 => h j (by omega) (by omega))]
/-- What is read is written as just these bytes. -/
theorem fldF_is {b : List UInt8} : ∀ {f t k : Nat} {r s : Rc}, t + f = 12 → 1 ≤ t → k ≤ b.length → (∀ j, t ≤ j → j ≤ 11 → zeroB r j = true) → fldF b f t r k = (s, 0) →
    s.v = r.v ∧ (∀ j, 1 ≤ j → j < t → fldEq r s j) ∧ b.drop k = encF s f t ∧ (∀ j, t ≤ j → j ≤ 9 → -9223372036854775808 ≤ s.num j ∧ s.num j ≤ 9223372036854775807)
  | 0, t, k, r, s, htf, h1, hk, hz, h => by
    rw [fldF] at h
    split at h
    · rename_i he
      simp only [Prod.mk.injEq] at h
      obtain ⟨rfl, _⟩ := h
      exact ⟨rfl, fun j _ _ => fldEq.refl _ _, by rw [he, List.drop_length]; rfl, fun j h2 h3 => by omega⟩
    · split at h
      · rename_i h2; simp only [Prod.mk.injEq] at h; exact absurd h.2 h2
      · simp at h
  | f + 1, t, k, r, s, htf, h1, hk, hz, h => by
    rw [fldF] at h
    split at h
    · rename_i hlt
      split at h
      · rename_i h2; simp only [Prod.mk.injEq] at h; exact absurd h.2 h2
      · rename_i h2
        have h2 : (rdU b k).2.2 = 0 := Classical.byContradiction h2
        obtain ⟨n, p, hr⟩ : ∃ n p, rdU b k = (n, p, 0) := ⟨_, _, by rw [← h2]⟩
        obtain ⟨u1, u2, u3, u4⟩ := rdU_uvar hr
        rw [hr] at h
        simp only at h
        split at h
        · rename_i hne
          obtain ⟨e1, e2, e3, e4⟩ := fldF_is (by omega) (by omega) hk (fun j h3 h4 => hz j (by omega) h4) h
          have ez := (e2 t h1 (by omega)).zero
          rw [hz t (Nat.le_refl _) (by omega)] at ez
          refine ⟨e1, fun j h3 h4 => e2 j h3 (by omega), by rw [encF, if_pos ez.symm]; exact e3, fun j h3 h4 => ?_⟩
          rcases Nat.lt_or_eq_of_le h3 with h5 | h5
          · exact e4 j (by omega) h4
          · subst h5
            have hf := ((e2 t h1 (by omega)).symm.trans (zero_fld (hz t (Nat.le_refl _) (by omega)))).num (by omega) (by omega)
            rw [hf, rc0_num]; omega
        · rename_i hne
          have hnt : n = t := Classical.byContradiction hne
          subst hnt
          split at h
          · rename_i h3; simp only [Prod.mk.injEq] at h; exact absurd h.2 h3
          · rename_i h3
            have h3 : (rdVal r n b p).2.2 = 0 := Classical.byContradiction h3
            obtain ⟨r1, q, hv⟩ : ∃ r1 q, rdVal r n b p = (r1, q, 0) := ⟨_, _, by rw [← h3]⟩
            obtain ⟨w1, w2, w3, w4, w5, w6, w7⟩ := rdVal_is h1 (by omega) hv
            rw [hv] at h
            simp only at h
            split at h
            · simp at h
            · rename_i hnz
              obtain ⟨e1, e2, e3, e4⟩ := fldF_is (r := r1) (by omega) (by omega) w4 (fun j h4 h5 => by rw [← (w2 j (by omega) h5 (by omega)).zero]; exact hz j (by omega) h5) h
              have et := e2 n h1 (by omega)
              refine ⟨e1.trans w1, fun j h4 h5 => (w2 j h4 (by omega) (by omega)).trans (e2 j h4 (by omega)), ?_, fun j h4 h5 => ?_⟩
              · rw [encF, if_neg (by rw [← et.zero]; exact hnz), u3, w6, et.val, e3, uvar_tag (by omega)]
                simp [List.append_assoc]
              · rcases Nat.lt_or_eq_of_le h4 with h6 | h6
                · exact e4 j (by omega) h5
                · subst h6
                  rw [← et.num (by omega) (by omega)]; exact w7 h5
    · rename_i hlt
      simp only [Prod.mk.injEq] at h
      obtain ⟨rfl, _⟩ := h
      have hke : k = b.length := by omega
      refine ⟨rfl, fun j _ _ => fldEq.refl _ _, ?_, fun j h3 h4 => ?_⟩
      · rw [hke, List.drop_length, encF_zero _ _ (fun j h3 h4 => hz j h3 (by omega))]
      · rw [(zero_fld (hz j h3 (by omega))).num (by omega) (by omega), rc0_num]; omega
theorem decC_is {v : Int} {b : List UInt8} {r : Rc} (h : decC v b = (r, 0)) : r.v = v ∧ r.Good ∧ r.Nums ∧ b = encB r ∧ 1 ≤ v ∧ v ≤ 3 := by
  unfold decC at h
  split at h
  · simp at h
  · rename_i hv
    split at h
    · rename_i h2; simp only [Prod.mk.injEq] at h; exact absurd h.2 h2
    · rename_i h2
      have h2 : (fldF b 11 1 (rcV v) 0).2 = 0 := Classical.byContradiction h2
      split at h
      · rename_i h3; simp only [Prod.mk.injEq] at h; exact absurd h.2 h3
      · rename_i h3
        simp only [Prod.mk.injEq] at h
        have hf : fldF b 11 1 (rcV v) 0 = (r, 0) := Prod.ext h.1 h2
        have hz0 : ∀ j, 1 ≤ j → j ≤ 11 → zeroB (rcV v) j = true := fun j h4 h5 => by
          rw [(rcV_fld v h4).zero]; exact rc0_zero
        obtain ⟨e1, e2, e3, e4⟩ := fldF_is (by omega) (by omega) (by omega) hz0 hf
        rw [h.1] at h3
        have hg : r.Good := ⟨Classical.byContradiction h3⟩
        refine ⟨e1, hg, fun t ht => ?_, e3, by omega, by omega⟩
        rcases Nat.eq_zero_or_pos t with h0 | h0
        · subst h0
          have hv' := hg.all.1
          show -9223372036854775808 ≤ r.v ∧ r.v ≤ _
          omega
        · exact e4 t h0 ht

/-! What was written is read -/
theorem rdVal_back {r r0 : Rc} {t p : Nat} {b rest : List UInt8} (h1 : 1 ≤ t) (h11 : t ≤ 11) (hg : r.Good) (hn : r.Nums) (hp : p ≤ b.length) (hb : b.drop p = valB r t ++ rest) :
    ∃ s, rdVal r0 t b p = (s, p + (valB r t).length, 0) ∧ s.v = r0.v ∧ fldEq s r t ∧ ∀ j, 1 ≤ j → j ≤ 11 → j ≠ t → fldEq r0 s j := by
  unfold rdVal
  unfold valB at hb ⊢
  split
  · rename_i h7
    subst h7
    rw [if_pos rfl] at hb
    have hn7 : -9223372036854775808 ≤ r.co ∧ r.co ≤ 9223372036854775807 := hn 7 (by omega)
    have hr := rdU_back hp hb (by unfold zig; split <;> omega)
    refine ⟨{ r0 with co := r.co }, ?_, rfl, rfl, fun j h3 h4 h5 => put_other (t := 7) (n := r.co) h5⟩
    unfold rdInt
    rw [hr, if_neg (by simp), unzig_zig]
  · rename_i h7
    rw [if_neg h7] at hb
    split
    · rename_i h10
      subst h10
      rw [if_pos rfl] at hb
      have hs : r.nm.size = r.nm.data.toList.length := by rw [Array.length_toList]; rfl
      have hr := rdBy_back (mx := 192) hp hb (by have := hg.nm; omega) (by omega)
      refine ⟨{ r0 with nm := r.nm }, ?_, rfl, rfl, fun j h3 h4 h5 => ?_⟩
      · rw [hr, List.length_append]
      · exact .mk (fun e => absurd e h5) (fun _ => rfl) (fun _ _ => rfl)
    · rename_i h10
      rw [if_neg h10] at hb
      split
      · rename_i h11'
        subst h11'
        rw [if_pos rfl] at hb
        have hr := rdBy_back (mx := 16384) hp hb (by have := hg.da; omega) (by omega)
        refine ⟨{ r0 with da := r.da }, ?_, rfl, rfl, fun j h3 h4 h5 => ?_⟩
        · rw [hr, List.length_append]
        · exact .mk (fun _ => rfl) (fun e => absurd e h5) (fun _ _ => rfl)
      · rename_i h11'
        rw [if_neg h11'] at hb
        have h9 : t ≤ 9 := by omega
        have hp0 := hg.num h1 h9 h7
        have hn9 := hn t h9
        have hr := rdU_back hp hb (by omega)
        refine ⟨r0.put t (r.num t), ?_, put_v, ?_, fun j h3 h4 h5 => put_other h5⟩
        · rw [hr, if_neg (by simp), if_neg (by simp only; omega)]
          simp only [Int.toNat_of_nonneg hp0]
        · unfold fldEq; rw [if_neg h10, if_neg h11', put_num h1 h9]
theorem encF_head {r : Rc} : ∀ (f t : Nat), encF r f t = [] ∨ ∃ n rest, t ≤ n ∧ n < t + f ∧ encF r f t = [UInt8.ofNat n] ++ rest
  | 0, _ => .inl rfl
  | f + 1, t => by
    rw [encF]
    split
    · rcases encF_head (r := r) f (t + 1) with h | ⟨n, rest, h1, h2, h3⟩
      · exact .inl h
      · exact .inr ⟨n, rest, by omega, by omega, h3⟩
    · exact .inr ⟨t, _, Nat.le_refl _, by omega, by rw [List.append_assoc]⟩
theorem fldF_back {b : List UInt8} {r : Rc} (hg : r.Good) (hn : r.Nums) : ∀ {f t k : Nat} {r0 : Rc}, t + f = 12 → 1 ≤ t → k ≤ b.length → b.drop k = encF r f t → r0.v = r.v → (∀ j, 1 ≤ j → j < t → fldEq r0 r j) → (∀ j, t ≤ j → j ≤ 11 → fldEq r0 rc0 j) →
    fldF b f t r0 k = (r, 0)
  | 0, t, k, r0, htf, h1, hk, hb, hv, he, hz => by
    have hlen := congrArg List.length hb
    rw [List.length_drop] at hlen
    have hke : k = b.length := by have : (encF r 0 t).length = 0 := rfl; omega
    rw [hke, fldF_end, rc_ext hv (fun j h2 h3 => he j h2 (by omega))]
  | f + 1, t, k, r0, htf, h1, hk, hb, hv, he, hz => by
    by_cases hlt : k < b.length
    · rw [encF] at hb
      by_cases h0 : zeroB r t = true
      · rw [if_pos h0] at hb
        have hih := fldF_back hg hn (f := f) (t := t + 1) (k := k) (r0 := r0) (by omega) (by omega) hk hb hv (fun j h2 h3 => by
          rcases Nat.lt_or_eq_of_le (by omega : j ≤ t) with h4 | h4
          · exact he j h2 h4
          · subst h4; exact (hz j (Nat.le_refl _) (by omega)).trans (zero_fld h0).symm) (fun j h2 h3 => hz j (by omega) h3)
        rcases encF_head (r := r) f (t + 1) with h2 | ⟨n, rest, h2, h3, h4⟩
        · rw [h2] at hb
          have := congrArg List.length hb
          simp at this; omega
        · have hr := rdU_back (x := n) (rest := rest) hk (by rw [hb, h4, uvar_tag (by omega)]) (by omega)
          rw [fldF, if_pos hlt, hr, if_neg (by simp), if_pos (by simp only; omega)]
          exact hih
      · rw [if_neg h0] at hb
        have hr := rdU_back (x := t) (rest := valB r t ++ encF r f (t + 1)) hk (by rw [hb, uvar_tag (by omega), List.append_assoc]) (by omega)
        rw [uvar_tag (by omega), List.length_singleton] at hr
        have hb1 : b.drop (k + 1) = valB r t ++ encF r f (t + 1) := by
          rw [← List.drop_drop, hb, List.append_assoc]; rfl
        obtain ⟨s, hs, hsv, hst, hso⟩ := rdVal_back (r0 := r0) h1 (by omega) hg hn (by omega) hb1
        have hb2 : b.drop (k + 1 + (valB r t).length) = encF r f (t + 1) := by rw [← List.drop_drop, hb1, List.drop_left' rfl]
        have hlen := congrArg List.length hb1
        rw [List.length_drop, List.length_append] at hlen
        have hih := fldF_back hg hn (f := f) (t := t + 1) (k := k + 1 + (valB r t).length) (r0 := s) (by omega) (by omega) (by omega) hb2 (hsv.trans hv) (fun j h2 h3 => by
          rcases Nat.lt_or_eq_of_le (by omega : j ≤ t) with h4 | h4
          · exact (hso j h2 (by omega) (by omega)).symm.trans (he j h2 h4)
          · subst h4; exact hst) (fun j h2 h3 => (hso j (by omega) h3 (by omega)).symm.trans (hz j (by omega) h3))
        rw [fldF, if_pos hlt, hr, if_neg (by simp), if_neg (by simp), hs, if_neg (by simp), if_neg (by simp only [hst.zero]; exact h0)]
        exact hih
    · have hke : k = b.length := by omega
      have hemp : encF r (f + 1) t = [] := by rw [← hb, hke, List.drop_length]
      have hall : ∀ (f t : Nat), encF r f t = [] → ∀ j, t ≤ j → j < t + f → zeroB r j = true := by
        intro f
        induction f with
        | zero => intro t _ j h2 h3; omega
        | succ f ih =>
          intro t h j h2 h3
          rw [encF] at h
          split at h
          · rename_i h4
            rcases Nat.lt_or_eq_of_le h2 with h5 | h5
            · exact ih (t + 1) h j (by omega) (by omega)
            · subst h5; exact h4
          · simp at h
      rw [hke, fldF_end, rc_ext hv (fun j h2 h3 => by
        rcases Nat.lt_or_ge j t with h4 | h4
        · exact he j h2 h4
        · exact (hz j h4 h3).trans (zero_fld (hall _ _ hemp j h4 (by omega))).symm)]
theorem decC_back {r : Rc} (hg : r.Good) (hn : r.Nums) : decC r.v (encB r) = (r, 0) := by
  have hv := hg.all.1
  have h := fldF_back (b := encB r) (r0 := (rcV r.v)) hg hn (f := 11) (t := 1) (k := 0) (by omega) (by omega) (by omega) rfl rfl (fun j h2 h3 => by omega) (fun j h2 h3 => rcV_fld _ h2)
  unfold decC
  rw [if_neg (by omega), h, if_neg (by simp), if_neg (by simp only [hg.ck]; simp)]

/-! One step of the reader that goes by what stands there -/
theorem fldF_skip {b : List UInt8} {r : Rc} {k n p : Nat} (hk : k < b.length) (hr : rdU b k = (n, p, 0)) : ∀ {f t : Nat}, t + f = 12 → 1 ≤ t → t ≤ n → n ≤ 11 → fldF b f t r k = fldF b (12 - n) n r k
  | 0, t, h, h1, h2, h3 => by omega
  | f + 1, t, h, h1, h2, h3 => by
    rcases Nat.lt_or_eq_of_le h2 with h4 | h4
    · rw [fldF, if_pos hk, hr, if_neg (by simp), if_pos (by simp only; omega)]
      exact fldF_skip hk hr (by omega) (by omega) h4 h3
    · subst h4; rw [show 12 - t = f + 1 by omega]
theorem fldF_bad {b : List UInt8} {r : Rc} {k n p : Nat} (hk : k < b.length) (hr : rdU b k = (n, p, 0)) : ∀ {f t : Nat}, t + f = 12 → 1 ≤ t → (n < t ∨ 11 < n) → fldF b f t r k = (r, 37)
  | 0, t, h, h1, h2 => by rw [fldF, if_neg (by omega), hr, if_neg (by simp)]
  | f + 1, t, h, h1, h2 => by
    rw [fldF, if_pos hk, hr, if_neg (by simp), if_pos (by simp only; omega)]
    exact fldF_bad hk hr (by omega) (by omega) (by omega)
theorem fldF_err {b : List UInt8} {r : Rc} {k : Nat} {e : Int} (hk : k < b.length) (hr : (rdU b k).2.2 = e) (he : e ≠ 0) : ∀ {f t : Nat}, fldF b f t r k = (r, e)
  | 0, t => by rw [fldF, if_neg (by omega), hr, if_pos he]
  | f + 1, t => by rw [fldF, if_pos hk, hr, if_pos he]
end Go.Proofs.YtfmlkagcmkbebaaDoor

/- annalsref1.ReadUint, ReadInt, wire.ReadInt: walked. -/
namespace Go.Proofs.YtfmlkagcmkbebaaDoor
open Go.RowKit

/-- The number that these bytes mean. -/
def uval : List UInt8 → Nat
  | [] => 0
  | c :: l => c.toNat % 128 + 128 * uval l
theorem uval_uvar (x : Nat) : uval (uvar x) = x := by
  induction x using Nat.strongRecOn with
  | ind x ih =>
    rcases Nat.lt_or_ge x 128 with h | h
    · rw [uvar_lt h]; simp [uval]; omega
    · rw [uvar_ge h, uval, ih (x / 128) (by omega)]
      have : (UInt8.ofNat (128 + x % 128)).toNat = 128 + x % 128 := by simp; omega
      rw [this]; omega
theorem uval_drop {l : List UInt8} {j : Nat} (h : j < l.length) : uval (l.drop j) = l[j].toNat % 128 + 128 * uval (l.drop (j + 1)) := by
  rw [List.drop_eq_getElem_cons h]; rfl
theorem uval_drop_le (l : List UInt8) : ∀ j, uval (l.drop j) ≤ uval l
  | 0 => by simp
  | j + 1 => by
    have := uval_drop_le l j
    rcases Nat.lt_or_ge j l.length with h | h
    · have := uval_drop h; omega
    · rw [List.drop_of_length_le (by omega)]; simp [uval]

set_option maxRecDepth 100000 in
set_option maxHeartbeats 4000000 in
theorem rReadUint_any (v : Value) (b : List UInt8) (p : Nat) (hb : b.length ≤ 1099511627776) (hp : p ≤ 1099511627776) (w : World) (hv : Bs w v b) :
    Calls Tryd.prog 74 #[v, .int .i64 (p : Int)] w fun e w' => e = .returned (.tuple #[.int .u64 ((rdU b p).1 : Int), .int .i64 ((rdU b p).2.1 : Int), .int .i64 (rdU b p).2.2]) ∧ w = w' := by
  obtain ⟨A, c, rfl, hn, hc, hr⟩ := hv.form
  have HR := Lib.hid hr
  clear hr hc hv
  by_cases hlp : b.length < p
  · have HU := Lib.hid (show rdU b p = (0, 0, 1) by unfold rdU; rw [if_pos hlp])
    have h1 : (b.length : Int) < (p : Int) := by omega
    go_enter Tryd.func74, Tryd.ntmps74
    go_wp2_with fail
    refine bodyPost_ret (results_tmp3 rfl _ _ _) rfl ⟨by rw [HU.out]; rfl, rfl⟩
  · have HU := Lib.hid (show rdU b p = rdF b p 10 0 0 by unfold rdU; rw [if_neg hlp])
    have h1 : ¬ (b.length : Int) < (p : Int) := by omega
    go_enter Tryd.func74, Tryd.ntmps74
    go_wp2_with fail
    clear h1
    go_loopw [7] (fun i wr => ∃ (k f n : Nat), k + f = 10 ∧ k ≤ 9 ∧ p + k ≤ b.length ∧ i = .int .i64 (k : Int) ∧ rdU b p = rdF b p f k n ∧ w = wr) (fun i _ => 10 - (intOf i).toNat)
    case atStart => exact ⟨0, 10, 0, rfl, by omega, by omega, rfl, HU.out, rfl⟩
    case round =>
      obtain ⟨k, f, n, hkf, hk9, hkl, rfl, he, rfl⟩ := hrel
      have HE := Lib.hid he
      clear he
      by_cases hlt : p + k < b.length
      · obtain ⟨g, o, rfl, hcell⟩ := HR.out (p + k) hlt
        obtain ⟨f', rfl⟩ : ∃ f', f = f' + 1 := ⟨f - 1, by omega⟩
        have hsm := rdF_some (f := f') (n := n) (List.getElem?_eq_getElem hlt)
        have HZ := Lib.hid (List.getElem?_eq_getElem hlt)
        generalize b[p + k] = z at hcell hsm HZ
        rw [← HE.out] at hsm
        unfold byt at hcell
        have hz256 := z.toNat_lt
        have hi1 : (k : Int) < (b.length : Int) - (p : Int) := by omega
        have hi2 : (p : Int) + (k : Int) < (b.length : Int) := by omega
        by_cases hgo : k < 9 ∧ 128 ≤ z.toNat
        · obtain ⟨g1, g2⟩ := hgo
          rw [if_neg (by omega), if_pos g2] at hsm
          have HSM := Lib.hid hsm
          clear hsm
          have hi3 : (128 : Int) ≤ (z.toNat : Int) := by omega
          go_wp2_with fail
          go_roundw
          case rel => exact ⟨k + 1, f', _, by omega, by omega, by omega, by go_num, HSM.out, by first | rfl | trivial⟩
          case measure => simp [intOf]; omega
        · have hne : ((k : Int) == (b.length : Int) - (p : Int)) = false := by rw [beq_eq_false_iff_ne]; omega
          by_cases h9 : k = 9 ∧ 1 < z.toNat
          · rw [if_pos h9] at hsm
            have HV := Lib.hid hsm
            obtain ⟨rfl, hz1⟩ := h9
            have hz1i : (1 : Int) < (z.toNat : Int) := by omega
            clear hsm HE hgo
            go_wp2_with fail
            all_goals refine bodyPost_ret (results_tmp3 rfl _ _ _) rfl ⟨by rw [HV.out]; rfl, by first | rfl | trivial⟩
          · have hz128 : z.toNat < 128 := by
              rcases Nat.lt_or_ge z.toNat 128 with h | h
              · exact h
              · exact absurd ⟨by omega, by omega⟩ h9
            rw [if_neg h9, if_neg (by omega)] at hsm
            have hzi : (z.toNat : Int) < 128 := by omega
            by_cases h0 : z.toNat = 0 ∧ 0 < k
            · rw [if_pos h0] at hsm
              have HV := Lib.hid hsm
              obtain ⟨hz0, hk0⟩ := h0
              rw [hz0] at hcell
              clear hsm HE hgo h9 hz0 hzi hz128 hz256
              have hk0i : (0 : Int) < (k : Int) := by omega
              by_cases hk : k = 9
              · subst hk
                go_wp2_with fail
                all_goals refine bodyPost_ret (results_tmp3 rfl _ _ _) rfl ⟨by rw [HV.out]; rfl, by first | rfl | trivial⟩
              · have hk1 : (k : Int) < 9 := by omega
                have hk2 : ((k : Int) == 9) = false := by rw [beq_eq_false_iff_ne]; omega
                go_wp2_with fail
                all_goals refine bodyPost_ret (results_tmp3 rfl _ _ _) rfl ⟨by rw [HV.out]; rfl, by first | rfl | trivial⟩
            · rw [if_neg h0] at hsm
              obtain ⟨x, hx⟩ : ∃ x, (rdU b p).1 = x := ⟨_, rfl⟩
              have hU : rdU b p = (x, p + k + 1, 0) := by rw [hsm] at hx ⊢; simp only at hx; rw [hx]
              obtain ⟨_, u2, u3, u4⟩ := rdU_uvar hU
              have hul : (uvar x).length = k + 1 := by omega
              have hcs : ∀ j, j < k + 1 → ∃ z : UInt8, w.cell? ⟨g, o + (p + j), none⟩ = some (.int .u8 (z.toNat : Int)) ∧ uval ((uvar x).drop j) = z.toNat % 128 + 128 * uval ((uvar x).drop (j + 1)) := by
                intro j hj
                obtain ⟨g', o', hA', hc⟩ := HR.out (p + j) (by omega)
                injection hA' with hA'; injection hA' with e1 e2 _
                subst e1; subst e2
                refine ⟨b[p + j]'(by omega), hc, ?_⟩
                rw [uval_drop (by omega)]
                have e : (uvar x)[j]'(by omega) = b[p + j]'(by omega) := by
                  have := congrArg (·[j]?) u3
                  simp only [List.getElem?_drop] at this
                  rw [List.getElem?_append_left (by omega), List.getElem?_eq_getElem (by omega), List.getElem?_eq_getElem (by omega)] at this
                  injection this with this; exact this.symm
                rw [e]
              have hle := uval_drop_le (uvar x)
              rw [uval_uvar] at hle
              have hv0 : uval ((uvar x).drop 0) = x := by rw [List.drop_zero, uval_uvar]
              have hvk : uval ((uvar x).drop (k + 1)) = 0 := by rw [List.drop_of_length_le (by omega)]; rfl
              have HV := Lib.hid hU
              obtain ⟨F, hF⟩ : ∃ F : Nat → Nat, F = fun j => uval ((uvar x).drop j) := ⟨_, rfl⟩
              have HC := Lib.hid (show ∀ j, j < k + 1 → ∃ z : UInt8, w.cell? ⟨g, o + (p + j), none⟩ = some (.int .u8 (z.toNat : Int)) ∧ F j = z.toNat % 128 + 128 * F (j + 1) by rw [hF]; exact hcs)
              have HL := Lib.hid (show ∀ j, F j < 18446744073709551616 by rw [hF]; exact fun j => by have := hle j; show uval _ < _; omega)
              have HF0 := Lib.hid (show F 0 = x by rw [hF]; exact hv0)
              have HFK := Lib.hid (show F (k + 1) = 0 by rw [hF]; exact hvk)
              clear hF hvk hv0 hle hcs u2 u3 u4 hul hU hx hsm HE hgo
              have hz0 : 0 < k → ((z.toNat : Int) == 0) = false := fun h => by rw [beq_eq_false_iff_ne]; omega
              have hz1 : k = 9 → (z.toNat : Int) ≤ 1 := fun h => by have := fun h2 => h9 ⟨h, h2⟩; omega
              clear h0 h9
              have hkl1 : k + 1 ≤ 10 := by omega
              have hcase : (k = 0 ∧ True) ∨ (k = 9 ∧ ((z.toNat : Int) == 0) = false ∧ (z.toNat : Int) ≤ 1) ∨ ((0 : Int) < (k : Int) ∧ (k : Int) < 9 ∧ ((k : Int) == 9) = false ∧ ((z.toNat : Int) == 0) = false) := by
                rcases (by omega : k = 0 ∨ k = 9 ∨ (0 < k ∧ k < 9)) with hk | hk | ⟨hk, hk'⟩
                · exact .inl ⟨hk, trivial⟩
                · exact .inr (.inl ⟨hk, hz0 (by omega), hz1 hk⟩)
                · exact .inr (.inr ⟨by omega, by omega, by rw [beq_eq_false_iff_ne]; omega, hz0 hk⟩)
              clear hz0 hz1
              obtain ⟨K, hK⟩ : ∃ K, k + 1 = K := ⟨_, rfl⟩
              rw [hK] at HC HFK hkl1
              have hpK : p + K ≤ b.length := by omega
              have HKK := Lib.hid hK
              clear hK
              rcases hcase with ⟨rfl, -⟩ | ⟨rfl, hz0, hz1⟩ | ⟨hk0, hk9i, hkn9, hz0⟩
              all_goals try (simp only [Nat.add_zero, Int.ofNat_zero, Int.natCast_zero, Int.add_zero] at hcell hi1 hi2 hne)
              all_goals go_wp2_with fail
              all_goals
                go_loopw [9, 10] (fun vv i wr => ∃ (j : Nat) (I : Int), j ≤ K ∧ I + 1 = (j : Int) ∧ i = .int .i64 I ∧ vv = .int .u64 (F j : Int) ∧ w = wr) (fun _ i _ => (intOf i + 1).toNat)
                case atStart => exact ⟨K, _, Nat.le_refl _, by have := HKK.out; omega, rfl, by rw [HFK.out]; rfl, rfl⟩
                case round =>
                  obtain ⟨j, I, hjK, hI, rfl, rfl, rfl⟩ := hrel
                  by_cases hj : j = 0
                  · subst hj
                    obtain rfl : I = -1 := by omega
                    go_wp2_with fail
                    refine bodyPost_ret (results_tmp3 rfl _ _ _) rfl ⟨?_, by first | rfl | trivial⟩
                    rw [HV.out, HF0.out]
                    simp
                  · obtain ⟨j', rfl⟩ : ∃ j', j = j' + 1 := ⟨j - 1, by omega⟩
                    obtain rfl : I = (j' : Int) := by omega
                    obtain ⟨z', hc', hf'⟩ := HC.out j' (by omega)
                    have hl1 := HL.out j'
                    have hl2 := HL.out (j' + 1)
                    have hzm : z'.toNat % 128 < 128 := Nat.mod_lt _ (by decide)
                    have hz256' := z'.toNat_lt
                    have m1 : IntKind.u64.wrap ((F (j' + 1) : Int) * 128) = (F (j' + 1) : Int) * 128 := by rw [IntKind.wrap_u64]; omega
                    have m2 : IntKind.u64.wrap ((F (j' + 1) : Int) * 128 + (z'.toNat : Int) % 128) = (F j' : Int) := by rw [IntKind.wrap_u64]; omega
                    have HF' := Lib.hid hf'
                    have hi3 : (p : Int) + (j' : Int) < (b.length : Int) := by omega
                    clear hf'
                    go_wp2_with fail
                    go_roundw
                    case rel => exact ⟨j', _, by omega, by omega, rfl, by first | rfl | rw [m2], by first | rfl | trivial⟩
                    case measure => simp [intOf]
      · have hke : p + k = b.length := by omega
        have HV := Lib.hid (show rdU b p = (0, 0, 10) by
          obtain ⟨f', rfl⟩ : ∃ f', f = f' + 1 := ⟨f - 1, by omega⟩
          rw [HE.out, rdF_none (List.getElem?_eq_none (by omega))])
        have hi1 : ¬ (k : Int) < (b.length : Int) - (p : Int) := by omega
        have hi2 : ((k : Int) == (b.length : Int) - (p : Int)) = true := by rw [beq_iff_eq]; omega
        clear hke HE
        go_wp2_with fail
        all_goals refine bodyPost_ret (results_tmp3 rfl _ _ _) rfl ⟨by rw [HV.out]; rfl, rfl⟩

theorem and1_u64 (n : Nat) (h : n < 18446744073709551616) : bits .and .u64 (n : Int) 1 = ((n % 2 : Nat) : Int) := by
  rw [show (1 : Int) = ((1 : Nat) : Int) from rfl, u64_and_nat _ _ h (by decide), Nat.and_one_is_mod]
end Go.Proofs.YtfmlkagcmkbebaaDoor

/- ReadInt, ReadBytes, both sides; annalsref1.same, ReadFrame. -/
namespace Go.Proofs.YtfmlkagcmkbebaaDoor
open Go.RowKit

theorem xor_i0 (h : Nat) (hh : h < 9223372036854775808) : bits .xor .i64 (h : Int) 0 = (h : Int) := by
  show IntKind.i64.wrap ((BitVec.ofInt 64 (h : Int) ^^^ BitVec.ofInt 64 0).toNat : Int) = _
  rw [BitVec.toNat_xor, ofInt_u64 h (by omega), show (BitVec.ofInt 64 0).toNat = 0 from rfl, Nat.xor_zero, IntKind.wrap_i64]
  omega
theorem xor_i1 (h : Nat) (hh : h < 9223372036854775808) : bits .xor .i64 (h : Int) (-1) = -(h : Int) - 1 := by
  show IntKind.i64.wrap ((BitVec.ofInt 64 (h : Int) ^^^ BitVec.ofInt 64 (-1)).toNat : Int) = _
  rw [BitVec.toNat_xor, ofInt_u64 h (by omega), show (BitVec.ofInt 64 (-1)).toNat = 18446744073709551615 from rfl, nat_not _ (by omega), IntKind.wrap_i64]
  omega
theorem rdU_lt {b : List UInt8} {p : Nat} (h : (rdU b p).2.2 = 0) : (rdU b p).1 < 18446744073709551616 :=
  (rdU_uvar (x := (rdU b p).1) (q := (rdU b p).2.1) (by rw [← h])).2.2.2

set_option maxRecDepth 100000 in
set_option maxHeartbeats 2000000 in
theorem ReadInt_any (v : Value) (b : List UInt8) (p : Nat) (hb : b.length ≤ 1099511627776) (hp : p ≤ 1099511627776) (w : World) (hv : Bs w v b) :
    Calls Tryd.prog 125 #[v, .int .i64 (p : Int)] w fun e w' => e = .returned (.tuple #[.int .i64 (rdInt b p).1, .int .i64 ((rdInt b p).2.1 : Int), .int .i64 (rdInt b p).2.2]) ∧ w = w' := by
  have HRU := Lib.hid (ReadUint_any v b p hb hp w hv)
  have hlt := rdU_lt (b := b) (p := p)
  obtain ⟨A, c, rfl, _⟩ := hv.form
  clear hv
  obtain ⟨B, hB⟩ : ∃ B, rdInt b p = B := ⟨_, rfl⟩
  rw [hB]
  unfold rdInt at hB
  generalize rdU b p = r at HRU hlt hB
  obtain ⟨u, q, e⟩ := r
  simp only at HRU hlt hB
  by_cases he : e ≠ 0
  · rw [if_pos he] at hB
    have HV := Lib.hid hB.symm
    have t1 : (e != 0) = true := by rw [bne_iff_ne]; exact he
    clear hB he hlt
    go_enter Tryd.func125, Tryd.ntmps125
    go_wp2_with fail
    refine HRU.out.mono ?_
    rintro ee wz ⟨rfl, rfl⟩
    go_wp2_with fail
    refine bodyPost_ret (results_tmp3 rfl _ _ _) rfl ⟨by rw [HV.out]; rfl, by first | rfl | trivial⟩
  · rw [if_neg he] at hB
    have he0 : e = 0 := Classical.byContradiction he
    subst he0
    have hu := hlt rfl
    have hand := and1_u64 u hu
    obtain ⟨h, hh⟩ : ∃ h, u / 2 = h := ⟨_, rfl⟩
    have hhi : (u : Int) / 2 = (h : Int) := by omega
    have hh63 : h < 9223372036854775808 := by omega
    have x0 := xor_i0 h hh63
    have x1 := xor_i1 h hh63
    unfold unzig at hB
    rw [hh] at hB
    by_cases h2 : u % 2 = 1
    · rw [if_pos h2] at hB
      rw [h2] at hand
      have HV := Lib.hid hB.symm
      clear hB he hlt hh h2 x0
      go_enter Tryd.func125, Tryd.ntmps125
      go_wp2_with fail
      refine HRU.out.mono ?_
      rintro ee wz ⟨rfl, rfl⟩
      go_wp2_with fail
      refine bodyPost_ret (results_tmp3 rfl _ _ _) rfl ⟨by rw [HV.out]; first | rfl | simp [x1], by first | rfl | trivial⟩
    · rw [if_neg h2] at hB
      rw [show u % 2 = 0 by omega] at hand
      have HV := Lib.hid hB.symm
      clear hB he hlt hh h2 x1
      go_enter Tryd.func125, Tryd.ntmps125
      go_wp2_with fail
      refine HRU.out.mono ?_
      rintro ee wz ⟨rfl, rfl⟩
      go_wp2_with fail
      refine bodyPost_ret (results_tmp3 rfl _ _ _) rfl ⟨by rw [HV.out]; first | rfl | simp [x0], by first | rfl | trivial⟩

set_option maxRecDepth 100000 in
set_option maxHeartbeats 2000000 in
theorem rReadInt_any (v : Value) (b : List UInt8) (p : Nat) (hb : b.length ≤ 1099511627776) (hp : p ≤ 1099511627776) (w : World) (hv : Bs w v b) :
    Calls Tryd.prog 134 #[v, .int .i64 (p : Int)] w fun e w' => e = .returned (.tuple #[.int .i64 (rdInt b p).1, .int .i64 ((rdInt b p).2.1 : Int), .int .i64 (rdInt b p).2.2]) ∧ w = w' := by
  have HRU := Lib.hid (rReadUint_any v b p hb hp w hv)
  have hlt := rdU_lt (b := b) (p := p)
  obtain ⟨A, c, rfl, _⟩ := hv.form
  clear hv
  obtain ⟨B, hB⟩ : ∃ B, rdInt b p = B := ⟨_, rfl⟩
  rw [hB]
  unfold rdInt at hB
  generalize rdU b p = r at HRU hlt hB
  obtain ⟨u, q, e⟩ := r
  simp only at HRU hlt hB
  by_cases he : e ≠ 0
  · rw [if_pos he] at hB
    have HV := Lib.hid hB.symm
    have t1 : (e != 0) = true := by rw [bne_iff_ne]; exact he
    clear hB he hlt
    go_enter Tryd.func134, Tryd.ntmps134
    go_wp2_with fail
    refine HRU.out.mono ?_
    rintro ee wz ⟨rfl, rfl⟩
    go_wp2_with fail
    refine bodyPost_ret (results_tmp3 rfl _ _ _) rfl ⟨by rw [HV.out]; rfl, by first | rfl | trivial⟩
  · rw [if_neg he] at hB
    have he0 : e = 0 := Classical.byContradiction he
    subst he0
    have hu := hlt rfl
    obtain ⟨h, hh⟩ : ∃ h, u / 2 = h := ⟨_, rfl⟩
    have hhi : (u : Int) / 2 = (h : Int) := by omega
    have hh63 : h < 9223372036854775808 := by omega
    unfold unzig at hB
    rw [hh] at hB
    by_cases h2 : u % 2 = 1
    · rw [if_pos h2] at hB
      have t2 : ((u : Int) % 2 == 1) = true := by rw [beq_iff_eq]; omega
      have HV := Lib.hid hB.symm
      clear hB he hlt hh h2
      go_enter Tryd.func134, Tryd.ntmps134
      go_wp2_with fail
      refine HRU.out.mono ?_
      rintro ee wz ⟨rfl, rfl⟩
      go_wp2_with fail
      refine bodyPost_ret (results_tmp3 rfl _ _ _) rfl ⟨by rw [HV.out]; rfl, by first | rfl | trivial⟩
    · rw [if_neg h2] at hB
      have t2 : ((u : Int) % 2 == 1) = false := by rw [beq_eq_false_iff_ne]; omega
      have HV := Lib.hid hB.symm
      clear hB he hlt hh h2
      go_enter Tryd.func134, Tryd.ntmps134
      go_wp2_with fail
      refine HRU.out.mono ?_
      rintro ee wz ⟨rfl, rfl⟩
      go_wp2_with fail
      refine bodyPost_ret (results_tmp3 rfl _ _ _) rfl ⟨by rw [HV.out]; rfl, by first | rfl | trivial⟩

/-- Bytes, a place and a code are answered. -/
def Gives3 (w : World) (r : List UInt8 × Nat × Int) (e : Ending) (w' : World) : Prop := ∃ v, e = .returned (.tuple #[v, .int .i64 (r.2.1 : Int), .int .i64 r.2.2]) ∧ Ob w' w.heap.size v r.1 ∧ Below w.heap.size w w'

set_option maxRecDepth 100000 in
set_option maxHeartbeats 2000000 in
theorem ReadBytes_any (v : Value) (b : List UInt8) (p mx : Nat) (hb : b.length ≤ 1099511627776) (hp : p ≤ b.length) (hm : mx ≤ 1099511627776) (w : World) (hv : Bs w v b) :
    Calls Tryd.prog 126 #[v, .int .i64 (p : Int), .int .i64 (mx : Int)] w (Gives3 w (rdBy b p mx)) := by
  have HRU := Lib.hid (ReadUint_any v b p hb (by omega) w hv)
  have hend := rdU_end (b := b) (p := p)
  have hlt := rdU_lt (b := b) (p := p)
  have HP := Lib.hid hv
  obtain ⟨A, c, rfl, _⟩ := hv.form
  clear hv
  obtain ⟨B, hB⟩ : ∃ B, rdBy b p mx = B := ⟨_, rfl⟩
  rw [hB]
  unfold rdBy at hB
  generalize rdU b p = r at HRU hlt hB hend
  obtain ⟨u, q, e⟩ := r
  simp only at HRU hlt hB hend
  have h1 : ¬ (b.length : Int) < (p : Int) := by omega
  by_cases he : e ≠ 0
  · rw [if_pos he] at hB
    have HV := Lib.hid hB.symm
    have t1 : (e != 0) = true := by rw [bne_iff_ne]; exact he
    clear hB he hlt hend
    go_enter Tryd.func126, Tryd.ntmps126
    go_wp2_with fail
    refine HRU.out.mono ?_
    rintro ee wz ⟨rfl, rfl⟩
    go_wp2_with fail
    refine bodyPost_ret (results_tmp3 rfl _ _ _) rfl ⟨_, by rw [HV.out]; rfl, by rw [HV.out]; exact Ob.nil _ _, Below.refl _ _⟩
  · rw [if_neg he] at hB
    have he0 : e = 0 := Classical.byContradiction he
    subst he0
    have hu := hlt rfl
    obtain ⟨hq1, hq2⟩ := hend rfl
    clear hlt hend he
    by_cases h2 : mx < u
    · rw [if_pos h2] at hB
      have HV := Lib.hid hB.symm
      have t2 : (mx : Int) < (u : Int) := by omega
      clear hB h2
      go_enter Tryd.func126, Tryd.ntmps126
      go_wp2_with fail
      refine HRU.out.mono ?_
      rintro ee wz ⟨rfl, rfl⟩
      go_wp2_with fail
      refine bodyPost_ret (results_tmp3 rfl _ _ _) rfl ⟨_, by rw [HV.out]; rfl, by rw [HV.out]; exact Ob.nil _ _, Below.refl _ _⟩
    · rw [if_neg h2] at hB
      have t2 : ¬ (mx : Int) < (u : Int) := by omega
      have hqi : (b.length : Int) - (q : Int) = ((b.length - q : Nat) : Int) := by omega
      have hw1 : IntKind.u64.wrap ((b.length - q : Nat) : Int) = ((b.length - q : Nat) : Int) := by rw [IntKind.wrap_u64]; omega
      by_cases h3 : b.length - q < u
      · rw [if_pos h3] at hB
        have HV := Lib.hid hB.symm
        have t3 : ((b.length - q : Nat) : Int) < (u : Int) := by omega
        clear hB h2 h3
        go_enter Tryd.func126, Tryd.ntmps126
        go_wp2_with fail
        refine HRU.out.mono ?_
        rintro ee wz ⟨rfl, rfl⟩
        go_wp2_with fail
        refine bodyPost_ret (results_tmp3 rfl _ _ _) rfl ⟨_, by rw [HV.out]; rfl, by rw [HV.out]; exact Ob.nil _ _, Below.refl _ _⟩
      · rw [if_neg h3] at hB
        have HV := Lib.hid hB.symm
        have t3 : ¬ ((b.length - q : Nat) : Int) < (u : Int) := by omega
        have hw : IntKind.i64.wrap (u : Int) = (u : Int) := by rw [IntKind.wrap_i64]; omega
        have HPC := (piece_wire _ b q (q + u) (by omega) (by omega) hb w HP.out)
        rw [Int.natCast_add] at HPC
        have HPC := Lib.hid HPC
        have hqu : (q : Int) + (u : Int) ≤ (b.length : Int) := by omega
        clear hB h2 h3
        go_enter Tryd.func126, Tryd.ntmps126
        go_wp2_with fail
        refine HRU.out.mono ?_
        rintro ee wz ⟨rfl, rfl⟩
        go_wp2_with fail
        refine HPC.out.mono ?_
        rintro e w5 ⟨x, rfl, hx, hb5⟩
        go_wp2_with fail
        refine bodyPost_ret (results_tmp3 rfl _ _ _) rfl ⟨x, by rw [HV.out]; first | rfl | simp, by rw [HV.out]; exact hx, hb5⟩

set_option maxRecDepth 100000 in
set_option maxHeartbeats 2000000 in
theorem rReadBytes_any (v : Value) (b : List UInt8) (p mx : Nat) (hb : b.length ≤ 1099511627776) (hp : p ≤ b.length) (hm : mx ≤ 1099511627776) (w : World) (hv : Bs w v b) :
    Calls Tryd.prog 136 #[v, .int .i64 (p : Int), .int .i64 (mx : Int)] w (Gives3 w (rdBy b p mx)) := by
  have HRU := Lib.hid (rReadUint_any v b p hb (by omega) w hv)
  have hend := rdU_end (b := b) (p := p)
  have hlt := rdU_lt (b := b) (p := p)
  have HP := Lib.hid hv
  obtain ⟨A, c, rfl, _⟩ := hv.form
  clear hv
  obtain ⟨B, hB⟩ : ∃ B, rdBy b p mx = B := ⟨_, rfl⟩
  rw [hB]
  unfold rdBy at hB
  generalize rdU b p = r at HRU hlt hB hend
  obtain ⟨u, q, e⟩ := r
  simp only at HRU hlt hB hend
  have h1 : ¬ (b.length : Int) < (p : Int) := by omega
  by_cases he : e ≠ 0
  · rw [if_pos he] at hB
    have HV := Lib.hid hB.symm
    have t1 : (e != 0) = true := by rw [bne_iff_ne]; exact he
    clear hB he hlt hend
    go_enter Tryd.func136, Tryd.ntmps136
    go_wp2_with fail
    refine HRU.out.mono ?_
    rintro ee wz ⟨rfl, rfl⟩
    go_wp2_with fail
    refine bodyPost_ret (results_tmp3 rfl _ _ _) rfl ⟨_, by rw [HV.out]; rfl, by rw [HV.out]; exact Ob.nil _ _, Below.refl _ _⟩
  · rw [if_neg he] at hB
    have he0 : e = 0 := Classical.byContradiction he
    subst he0
    have hu := hlt rfl
    obtain ⟨hq1, hq2⟩ := hend rfl
    clear hlt hend he
    by_cases h2 : mx < u
    · rw [if_pos h2] at hB
      have HV := Lib.hid hB.symm
      have t2 : (mx : Int) < (u : Int) := by omega
      clear hB h2
      go_enter Tryd.func136, Tryd.ntmps136
      go_wp2_with fail
      refine HRU.out.mono ?_
      rintro ee wz ⟨rfl, rfl⟩
      go_wp2_with fail
      refine bodyPost_ret (results_tmp3 rfl _ _ _) rfl ⟨_, by rw [HV.out]; rfl, by rw [HV.out]; exact Ob.nil _ _, Below.refl _ _⟩
    · rw [if_neg h2] at hB
      have t2 : ¬ (mx : Int) < (u : Int) := by omega
      have hqi : (b.length : Int) - (q : Int) = ((b.length - q : Nat) : Int) := by omega
      have hw1 : IntKind.u64.wrap ((b.length - q : Nat) : Int) = ((b.length - q : Nat) : Int) := by rw [IntKind.wrap_u64]; omega
      by_cases h3 : b.length - q < u
      · rw [if_pos h3] at hB
        have HV := Lib.hid hB.symm
        have t3 : ((b.length - q : Nat) : Int) < (u : Int) := by omega
        clear hB h2 h3
        go_enter Tryd.func136, Tryd.ntmps136
        go_wp2_with fail
        refine HRU.out.mono ?_
        rintro ee wz ⟨rfl, rfl⟩
        go_wp2_with fail
        refine bodyPost_ret (results_tmp3 rfl _ _ _) rfl ⟨_, by rw [HV.out]; rfl, by rw [HV.out]; exact Ob.nil _ _, Below.refl _ _⟩
      · rw [if_neg h3] at hB
        have HV := Lib.hid hB.symm
        have t3 : ¬ ((b.length - q : Nat) : Int) < (u : Int) := by omega
        have hw : IntKind.i64.wrap (u : Int) = (u : Int) := by rw [IntKind.wrap_i64]; omega
        have HPC := (rPart_any _ b q (q + u) (by omega) (by omega) hb w HP.out)
        rw [Int.natCast_add] at HPC
        have HPC := Lib.hid HPC
        have hqu : (q : Int) + (u : Int) ≤ (b.length : Int) := by omega
        clear hB h2 h3
        go_enter Tryd.func136, Tryd.ntmps136
        go_wp2_with fail
        refine HRU.out.mono ?_
        rintro ee wz ⟨rfl, rfl⟩
        go_wp2_with fail
        refine HPC.out.mono ?_
        rintro e w5 ⟨x, rfl, hx, hb5⟩
        go_wp2_with fail
        refine bodyPost_ret (results_tmp3 rfl _ _ _) rfl ⟨x, by rw [HV.out]; first | rfl | simp, by rw [HV.out]; exact hx, hb5⟩
end Go.Proofs.YtfmlkagcmkbebaaDoor

/- annalsref1.same, ReadFrame. -/
namespace Go.Proofs.YtfmlkagcmkbebaaDoor
open Go.RowKit

/-- A frame's reading, told by writing what was read again. -/
def rdFr2 (b : List UInt8) (p : Nat) (r : Nat × Nat × Int) : List UInt8 × Nat × Int :=
  if r.2.2 ≠ 0 then ([], 0, r.2.2) else if r.1 = 0 then ([], 0, 14) else if 1048576 < r.1 then ([], 0, 13) else if b.length < r.2.1 + r.1 + 5 then ([], 0, 10)
  else if b[r.2.1 + r.1 + 4]? ≠ some 165 then ([], 0, 15)
  else if (b.drop p).take (frame ((b.take (r.2.1 + r.1)).drop r.2.1)).length = frame ((b.take (r.2.1 + r.1)).drop r.2.1) then ((b.take (r.2.1 + r.1)).drop r.2.1, r.2.1 + r.1 + 5, 0) else ([], 0, 16)
theorem rdFr_two (b : List UInt8) (p : Nat) : rdFr b p = rdFr2 b p (rdU b p) := by
  have hA := @rdFr_frame b
  have hB := @rdFr_back b
  unfold rdFr2
  by_cases h1 : (rdU b p).2.2 ≠ 0
  · have e : bdU b p = (0, 0, (rdU b p).2.2) := by unfold bdU; rw [if_pos h1]
    unfold rdFr; rw [if_pos h1, e, if_pos h1]
  · rw [if_neg h1]
    by_cases h2 : (rdU b p).1 = 0
    · have e : bdU b p = (0, 0, 14) := by unfold bdU; rw [if_neg h1, if_pos h2]
      unfold rdFr; rw [if_pos h2, e, if_pos (by simp)]
    · rw [if_neg h2]
      by_cases h3 : 1048576 < (rdU b p).1
      · have e : bdU b p = (0, 0, 13) := by unfold bdU; rw [if_neg h1, if_neg h2, if_pos h3]
        unfold rdFr; rw [if_pos h3, e, if_pos (by simp)]
      · rw [if_neg h3]
        by_cases h4 : b.length < (rdU b p).2.1 + (rdU b p).1 + 5
        · have e : bdU b p = (0, 0, 10) := by unfold bdU; rw [if_neg h1, if_neg h2, if_neg h3, if_pos h4]
          unfold rdFr; rw [if_pos h4, e, if_pos (by simp)]
        · rw [if_neg h4]
          by_cases h5 : b[(rdU b p).2.1 + (rdU b p).1 + 4]? ≠ some 165
          · have e : bdU b p = (0, 0, 15) := by unfold bdU; rw [if_neg h1, if_neg h2, if_neg h3, if_neg h4, if_pos h5]
            unfold rdFr; rw [if_pos h5, e, if_pos (by simp)]
          · rw [if_neg h5]
            have e : bdU b p = ((rdU b p).2.1, (rdU b p).2.1 + (rdU b p).1, 0) := by unfold bdU; rw [if_neg h1, if_neg h2, if_neg h3, if_neg h4, if_neg h5]
            have he := rdU_end (b := b) (p := p) (Classical.byContradiction h1)
            by_cases h6 : le4 b ((rdU b p).2.1 + (rdU b p).1) ≠ (crc ((b.take ((rdU b p).2.1 + (rdU b p).1)).drop p)).toNat
            · have hr : rdFr b p = ([], 0, 16) := by unfold rdFr; rw [e, if_neg (by simp), if_pos h6]
              rw [if_neg]
              · exact hr
              · intro h7
                have hl : ((b.take ((rdU b p).2.1 + (rdU b p).1)).drop (rdU b p).2.1).length = (rdU b p).1 := by simp; omega
                have := hB (x := (b.take ((rdU b p).2.1 + (rdU b p).1)).drop (rdU b p).2.1) (p := p) (rest := (b.drop p).drop (frame ((b.take ((rdU b p).2.1 + (rdU b p).1)).drop (rdU b p).2.1)).length) (by omega) (by
                  conv => lhs; rw [← List.take_append_drop (frame ((b.take ((rdU b p).2.1 + (rdU b p).1)).drop (rdU b p).2.1)).length (b.drop p), h7]) (by omega) (by omega)
                rw [hr] at this
                simp at this
            · have hr : rdFr b p = ((b.take ((rdU b p).2.1 + (rdU b p).1)).drop (rdU b p).2.1, (rdU b p).2.1 + (rdU b p).1 + 5, 0) := by unfold rdFr; rw [e, if_neg (by simp), if_neg h6]
              rw [if_pos]
              · exact hr
              · obtain ⟨_, _, h8, _⟩ := hA hr
                rw [h8, List.take_left' rfl]

set_option maxRecDepth 100000 in
set_option maxHeartbeats 1000000 in
theorem rsame_any (u v : Value) (b x : List UInt8) (p : Nat) (hb : b.length ≤ 1099511627776) (hpx : p + x.length ≤ b.length) (w : World) (hu : Bs w u b) (hv : Bs w v x) :
    Calls Tryd.prog 88 #[u, .int .i64 (p : Int), v] w (Quiet w (.bool (decide ((b.drop p).take x.length = x)))) := by
  obtain ⟨A, c, rfl, hn, hc, hr⟩ := hu.form
  obtain ⟨A2, c2, rfl, hn2, hc2, hr2⟩ := hv.form
  have HR := Lib.hid hr
  have HR2 := Lib.hid hr2
  clear hr hr2 hu hv hc hc2
  go_enter Tryd.func88, Tryd.ntmps88
  go_wp2
  go_loopw [7] (fun i wr => ∃ k m : Nat, k ≤ x.length ∧ i = .int .i64 k ∧ wr = w.drewN m ∧ (b.drop p).take k = x.take k) (fun i _ => x.length - (intOf i).toNat)
  case atStart => exact ⟨0, 0, Nat.zero_le _, rfl, rfl, rfl⟩
  case round =>
    obtain ⟨k, m, hk, rfl, rfl, he⟩ := hrel
    have HE := Lib.hid he
    clear he
    by_cases hlt : k < x.length
    · have hltb : p + k < b.length := by omega
      obtain ⟨b1, o1, rfl, hcell⟩ := HR.out (p + k) hltb
      obtain ⟨b2, o2, rfl, hcell2⟩ := HR2.out k hlt
      unfold byt at hcell hcell2
      have hi1 : (p : Int) + (k : Int) < (b.length : Int) := by omega
      have hi2 : (k : Int) < (x.length : Int) := by omega
      have hwp : IntKind.i64.wrap ((p : Int) + (k : Int)) = ((p + k : Nat) : Int) := by rw [IntKind.wrap_i64]; omega
      have hi3 : ((p + k : Nat) : Int) < (b.length : Int) := by omega
      have hbk : (b.drop p).length = b.length - p := by simp
      have hs1 : (b.drop p).take (k + 1) = (b.drop p).take k ++ [b[p + k]] := by
        rw [List.take_succ_eq_append_getElem (by omega), List.getElem_drop]
      have hs2 : x.take (k + 1) = x.take k ++ [x[k]] := List.take_succ_eq_append_getElem hlt
      have HS := Lib.hid hs1
      have HS2 := Lib.hid hs2
      clear hs1 hs2
      clear hbk
      by_cases hxy : b[p + k] = x[k]
      · rw [← hxy] at hcell2 HS2
        clear hxy
        generalize b[p + k] = z at hcell hcell2 HS HS2
        go_wp2
        go_quiet (fail)
        clear hwp
        go_wp2
        go_roundw
        case rel =>
          refine ⟨k + 1, _, by omega, by go_num, rfl, ?_⟩
          rw [HS.out, HS2.out, HE.out]
        case measure => simp [intOf]; omega
      · have HXY : Hid ((b.drop p).take x.length ≠ x) := by
          intro e
          have h1 := congrArg (·[k]?) e
          simp only [List.getElem?_take, List.getElem?_drop] at h1
          rw [if_pos hlt, List.getElem?_eq_getElem hltb, List.getElem?_eq_getElem hlt] at h1
          injection h1 with h1
          exact hxy h1
        have t2 := ne_u8 hxy
        clear hxy HS HS2
        generalize b[p + k] = z at hcell t2
        generalize x[k] = z2 at hcell2 t2
        go_wp2
        go_quiet (fail)
        clear hwp
        go_wp2
        go_ret
        exact ⟨by rw [decide_eq_false HXY.out]; rfl, _, World.drewN_drewN ..⟩
    · have hfin : (b.drop p).take x.length = x := by
        have hk' : k = x.length := by omega
        have := HE.out
        rw [hk', List.take_length] at this
        exact this
      have HF := Lib.hid hfin
      clear hfin
      go_wp2
      go_ret
      exact ⟨by rw [decide_eq_true HF.out]; rfl, _, rfl⟩

set_option maxRecDepth 100000 in
set_option maxHeartbeats 4000000 in
theorem rReadFrame_any (v : Value) (b : List UInt8) (p : Nat) (hb : b.length ≤ 1099511627776) (hp : p ≤ 1099511627776) (w : World) (hv : Bs w v b) :
    Calls Tryd.prog 59 #[v, .int .i64 (p : Int)] w (Gives3 w (rdFr b p)) := by
  have HRU := Lib.hid (rReadUint_any v b p hb hp w hv)
  have hend := rdU_end (b := b) (p := p)
  have huv := fun n q (h : rdU b p = (n, q, 0)) => (rdU_uvar h).2.1
  rw [rdFr_two]
  obtain ⟨A, c, rfl, hn, hc, hr⟩ := hv.form
  have HR := Lib.hid hr
  have HP := Lib.hid hv
  clear hr hc hv
  generalize rdU b p = r at HRU hend huv
  obtain ⟨n, fr, e⟩ := r
  obtain ⟨B, hB⟩ : ∃ B, rdFr2 b p (n, fr, e) = B := ⟨_, rfl⟩
  rw [hB]
  unfold rdFr2 at hB
  simp only at HRU hend hB
  by_cases he : e ≠ 0
  · rw [if_pos he] at hB
    have HV := Lib.hid hB.symm
    have t1 : (e != 0) = true := by rw [bne_iff_ne]; exact he
    clear hB he hend huv
    go_enter Tryd.func59, Tryd.ntmps59
    go_wp2_with fail
    refine HRU.out.mono ?_
    rintro ee wz ⟨rfl, rfl⟩
    go_wp2_with fail
    refine bodyPost_ret (results_tmp3 rfl _ _ _) rfl ⟨_, by rw [HV.out]; rfl, by rw [HV.out]; exact Ob.nil _ _, Below.refl _ _⟩
  · rw [if_neg he] at hB
    have he0 : e = 0 := Classical.byContradiction he
    subst he0
    obtain ⟨hp1, hfr⟩ := hend rfl
    have hfu := huv n fr rfl
    clear he hend huv
    by_cases h0 : n = 0
    · rw [if_pos h0] at hB
      have HV := Lib.hid hB.symm
      subst h0
      clear hB hfu
      go_enter Tryd.func59, Tryd.ntmps59
      go_wp2_with fail
      refine HRU.out.mono ?_
      rintro ee wz ⟨rfl, rfl⟩
      go_wp2_with fail
      refine bodyPost_ret (results_tmp3 rfl _ _ _) rfl ⟨_, by rw [HV.out]; rfl, by rw [HV.out]; exact Ob.nil _ _, Below.refl _ _⟩
    · rw [if_neg h0] at hB
      have t0 : ((n : Int) == 0) = false := by rw [beq_eq_false_iff_ne]; omega
      by_cases h1 : 1048576 < n
      · rw [if_pos h1] at hB
        have HV := Lib.hid hB.symm
        have t1 : (1048576 : Int) < (n : Int) := by omega
        clear hB h0 hfu
        go_enter Tryd.func59, Tryd.ntmps59
        go_wp2_with fail
        refine HRU.out.mono ?_
        rintro ee wz ⟨rfl, rfl⟩
        go_wp2_with fail
        refine bodyPost_ret (results_tmp3 rfl _ _ _) rfl ⟨_, by rw [HV.out]; rfl, by rw [HV.out]; exact Ob.nil _ _, Below.refl _ _⟩
      · rw [if_neg h1] at hB
        have t1 : ¬ (1048576 : Int) < (n : Int) := by omega
        have hw : IntKind.i64.wrap (n : Int) = (n : Int) := by rw [IntKind.wrap_i64]; omega
        by_cases h2 : b.length < fr + n + 5
        · rw [if_pos h2] at hB
          have HV := Lib.hid hB.symm
          have t2 : (b.length : Int) < (fr : Int) + (n : Int) + 5 := by omega
          clear hB h0 h1 hfu
          go_enter Tryd.func59, Tryd.ntmps59
          go_wp2_with fail
          refine HRU.out.mono ?_
          rintro ee wz ⟨rfl, rfl⟩
          go_wp2_with fail
          refine bodyPost_ret (results_tmp3 rfl _ _ _) rfl ⟨_, by rw [HV.out]; rfl, by rw [HV.out]; exact Ob.nil _ _, Below.refl _ _⟩
        · rw [if_neg h2] at hB
          have t2 : ¬ (b.length : Int) < (fr : Int) + (n : Int) + 5 := by omega
          obtain ⟨g, o, rfl, hcell⟩ := HR.out (fr + n + 4) (by omega)
          rw [List.getElem?_eq_getElem (show fr + n + 4 < b.length by omega)] at hB
          generalize b[fr + n + 4]'(by omega) = z at hcell hB
          unfold byt at hcell
          have hi : (fr : Int) + (n : Int) + 4 < (b.length : Int) := by omega
          by_cases h3 : z = 165
          · subst h3
            rw [if_neg (by simp)] at hB
            have HPC := (rPart_any _ b fr (fr + n) (by omega) (by omega) hb w HP.out)
            rw [Int.natCast_add] at HPC
            have HPC := Lib.hid HPC
            obtain ⟨X, hX⟩ : ∃ X, (b.take (fr + n)).drop fr = X := ⟨_, rfl⟩
            have hXl : X.length = n := by rw [← hX]; simp; omega
            rw [hX] at hB HPC
            have hFl := frame_len5 X
            rw [hXl] at hFl
            have HXL := Lib.hid hXl
            have HFL := Lib.hid hFl
            have hX0 : 0 < X.length := by omega
            have hX1 : X.length ≤ 1048576 := by omega
            have HSS := fun (u : Value) (W : World) (hW : Below w.heap.size w W) (hu : Bs W u (frame X)) => rsame_any (.slice (some ⟨g, o, none⟩) b.length c) u b (frame X) p hb (by have := HFL.out; omega) W (HP.out.below hW) hu
            have HSS := Lib.hid HSS
            have HB := Lib.hid hB
            have HX01 := Lib.hid (And.intro hX0 hX1)
            clear hB hFl hXl hX h0 h1 h2 hX0 hX1 hfu
            go_enter Tryd.func59, Tryd.ntmps59
            go_wp2_with fail
            refine HRU.out.mono ?_
            rintro ee wz ⟨rfl, rfl⟩
            go_wp2_with fail
            refine HPC.out.mono ?_
            rintro e w1 ⟨v1, rfl, hO1, hb1⟩
            have HC2 := Lib.hid (rFrame_any v1 X HX01.out.1 HX01.out.2 w1 hO1.bs)
            have s1 := hb1.size
            go_wp2_with fail
            refine HC2.out.mono ?_
            rintro e w2 ⟨v2, rfl, hO2, hb2⟩
            have hb12 := hb1.trans (hb2.mono s1)
            have HC3 := Lib.hid (HSS.out v2 w2 hb12 hO2.bs)
            have s2 := hb12.size
            have HO1 := Lib.hid (hO1.below hb2)
            clear hO1 hO2
            go_wp2_with fail
            refine HC3.out.mono ?_
            rintro e w3 ⟨rfl, m3, rfl⟩
            have hb3 : Below w.heap.size w (w2.drewN m3) := hb12.trans (below_drewN _ _)
            have hO3 := HO1.out.below (below_drewN w2 m3)
            by_cases heq : (b.drop p).take (frame X).length = frame X
            · rw [decide_eq_true heq]
              have HV := Lib.hid (show B = (X, fr + n + 5, 0) by rw [← HB.out, if_pos heq])
              clear heq
              go_wp2_with fail
              refine bodyPost_ret (results_tmp3 rfl _ _ _) rfl ⟨v1, by rw [HV.out]; first | rfl | simp, by rw [HV.out]; exact hO3, hb3⟩
            · rw [decide_eq_false heq]
              have HV := Lib.hid (show B = ([], 0, 16) by rw [← HB.out, if_neg heq])
              clear heq
              go_wp2_with fail
              refine bodyPost_ret (results_tmp3 rfl _ _ _) rfl ⟨.slice none 0 0, by rw [HV.out]; first | rfl | simp, by rw [HV.out]; exact Ob.nil _ _, hb3⟩
          · rw [if_pos (by simpa using h3)] at hB
            have HV := Lib.hid hB.symm
            have hz : ((z.toNat : Int) != 165) = true := by
              rw [bne_iff_ne]; intro e; exact h3 (UInt8.toNat_inj.1 (by show z.toNat = 165; omega))
            clear hB h0 h1 h2 h3 hfu
            go_enter Tryd.func59, Tryd.ntmps59
            go_wp2_with fail
            refine HRU.out.mono ?_
            rintro ee wz ⟨rfl, rfl⟩
            go_wp2_with fail
            refine bodyPost_ret (results_tmp3 rfl _ _ _) rfl ⟨_, by rw [HV.out]; rfl, by rw [HV.out]; exact Ob.nil _ _, Below.refl _ _⟩
end Go.Proofs.YtfmlkagcmkbebaaDoor

/- record.value. -/
namespace Go.Proofs.YtfmlkagcmkbebaaDoor
open Go.RowKit

/-- The cells of a record with another value under the tag t. -/
theorem cells_put (r : Rc) (dv : Value) (t : Nat) (n : Int) (h1 : 1 ≤ t) (h9 : t ≤ 9) : (r.cells dv).setIfInBounds t (.int .i64 n) = (r.put t n).cells dv := by
  rcases (by omega : t = 1 ∨ t = 2 ∨ t = 3 ∨ t = 4 ∨ t = 5 ∨ t = 6 ∨ t = 7 ∨ t = 8 ∨ t = 9) with rfl | rfl | rfl | rfl | rfl | rfl | rfl | rfl | rfl <;> rfl
theorem cells_nm (r : Rc) (dv : Value) (s : ByteArray) : (r.cells dv).setIfInBounds 10 (.string s) = ({ r with nm := s } : Rc).cells dv := rfl
theorem cells_da (r : Rc) (dv dv' : Value) (d : List UInt8) : (r.cells dv).setIfInBounds 11 dv' = ({ r with da := d } : Rc).cells dv' := rfl
/-- A record box's cell is written. -/
theorem box_set {w1 : World} {k t : Nat} {r s : Rc} {dv dv' : Value} {x : Value} (h : w1.heap[k]? = some (.cells (r.cells dv) 62 (0, 0))) (ht : t ≤ 11) (hs : (r.cells dv).setIfInBounds t x = s.cells dv') :
    (∃ u, w1.cell? ⟨k, t, none⟩ = some u) ∧ w1.frozen? ⟨k, t, none⟩ = false ∧ (w1.setCell ⟨k, t, none⟩ x).heap[k]? = some (.cells (s.cells dv') 62 (0, 0)) := by
  refine ⟨⟨(r.cells dv)[t]'(by show t < 12; omega), ?_⟩, by simp [World.frozen?, h], ?_⟩
  · rw [cell_of_row w1 k t _ _ _ h, Array.getElem?_eq_getElem]
  · rw [setCell_eq_setRow w1 k t _ _ _ x h, setRow_heap _ _ _ _ _ _ h, hs]

/-- The record in a box after a value was read into it. -/
structure Vd (w : World) (k : Nat) (s : Rc) (dv dv' : Value) (fresh : Prop) (w' : World) : Prop where
  box : w'.heap[k]? = some (.cells (s.cells dv') 62 (0, 0))
  kp : Kp w w' (fun j => j = k)
  da : (dv' = dv ∧ ¬ fresh) ∨ (fresh ∧ Ob w' w.heap.size dv' s.da)

set_option maxRecDepth 100000 in
set_option maxHeartbeats 4000000 in
theorem value_any (k : Nat) (r : Rc) (dv v : Value) (t : Nat) (b : List UInt8) (p : Nat) (h1 : 1 ≤ t) (h11 : t ≤ 11) (hb : b.length ≤ 1099511627776) (hp : p ≤ b.length) (w : World)
    (hr : w.heap[k]? = some (.cells (r.cells dv) 62 (0, 0))) (hv : Bs w v b) :
    Calls Tryd.prog 116 #[.pointer (some ⟨k, 0, none⟩), .int .i64 (t : Int), v, .int .i64 (p : Int)] w fun e w' => ∃ dv', e = .returned (.tuple #[.int .i64 ((rdVal r t b p).2.1 : Int), .int .i64 (rdVal r t b p).2.2]) ∧ Vd w k (rdVal r t b p).1 dv dv' (t = 11) w' := by
  have HRI := Lib.hid (ReadInt_any v b p hb (by omega) w hv)
  have HRN := Lib.hid (ReadBytes_any v b p 192 hb hp (by omega) w hv)
  have HRD := Lib.hid (ReadBytes_any v b p 16384 hb hp (by omega) w hv)
  have HRU := Lib.hid (ReadUint_any v b p hb (by omega) w hv)
  have hlt := rdU_lt (b := b) (p := p)
  have hkl := (Array.getElem?_eq_some_iff.1 hr).1
  have HR := Lib.hid hr
  obtain ⟨A, c, rfl, _⟩ := hv.form
  clear hv hr
  by_cases h7 : t = 7
  · subst h7
    have HV := Lib.hid (show rdVal r 7 b p = ({ r with co := (rdInt b p).1 }, (rdInt b p).2) from rfl)
    generalize rdInt b p = y at HRI HV
    obtain ⟨n, q, e⟩ := y
    simp only at HRI HV
    obtain ⟨⟨u, hu⟩, hfz, hset⟩ := box_set HR.out (t := 7) (by omega) (cells_put r dv 7 n (by omega) (by omega))
    have HS := Lib.hid hset
    clear hset HRN HRD HRU hlt
    go_enter Tryd.func116, Tryd.ntmps116
    go_wp2_with fail
    refine HRI.out.mono ?_
    rintro ee wz ⟨rfl, rfl⟩
    go_wp2_with fail
    go_ret2
    exact ⟨dv, by rw [HV.out]; rfl, by rw [HV.out]; exact ⟨HS.out, Kp.set _ _, .inl ⟨rfl, by omega⟩⟩⟩
  · have e7 : ((t : Int) == 7) = false := by rw [beq_eq_false_iff_ne]; omega
    by_cases h10 : t = 10
    · subst h10
      have HV := Lib.hid (show rdVal r 10 b p = ({ r with nm := ⟨(rdBy b p 192).1.toArray⟩ }, (rdBy b p 192).2) from rfl)
      generalize rdBy b p 192 = y at HRN HV
      obtain ⟨n, q, e⟩ := y
      simp only at HRN HV
      clear HRI HRD HRU hlt e7
      go_enter Tryd.func116, Tryd.ntmps116
      go_wp2_with fail
      refine HRN.out.mono ?_
      rintro ee w1 ⟨v1, rfl, hO, hb1⟩
      simp only at hO
      have hcv := conv_bs hO.bs
      have hbox := (hb1.block k hkl).trans HR.out
      obtain ⟨⟨u, hu⟩, hfz, hset⟩ := box_set hbox (t := 10) (by omega) (cells_nm r dv ⟨n.toArray⟩)
      have HS := Lib.hid hset
      obtain ⟨Av, cv, rfl⟩ := hO.slice
      have HB := Lib.hid hb1
      clear hset hbox hO hb1
      go_wp2_with fail
      go_ret2
      exact ⟨dv, by rw [HV.out]; rfl, by rw [HV.out]; exact ⟨HS.out, (Kp.of_below HB.out _).trans (Kp.set _ _) (fun _ _ x => x), .inl ⟨rfl, by omega⟩⟩⟩
    · have e10 : ((t : Int) == 10) = false := by rw [beq_eq_false_iff_ne]; omega
      by_cases h11' : t = 11
      · subst h11'
        have HV := Lib.hid (show rdVal r 11 b p = ({ r with da := (rdBy b p 16384).1 }, (rdBy b p 16384).2) from rfl)
        generalize rdBy b p 16384 = y at HRD HV
        obtain ⟨n, q, e⟩ := y
        simp only at HRD HV
        clear HRI HRN HRU hlt e7 e10
        go_enter Tryd.func116, Tryd.ntmps116
        go_wp2_with fail
        refine HRD.out.mono ?_
        rintro ee w1 ⟨v1, rfl, hO, hb1⟩
        simp only at hO
        have hbox := (hb1.block k hkl).trans HR.out
        obtain ⟨⟨u, hu⟩, hfz, hset⟩ := box_set hbox (t := 11) (by omega) (cells_da r dv v1 n)
        have HS := Lib.hid hset
        have HO := Lib.hid hO
        obtain ⟨Av, cv, rfl⟩ := hO.slice
        have HB := Lib.hid hb1
        clear hset hbox hO hb1
        go_wp2_with fail
        go_ret2
        exact ⟨_, by rw [HV.out]; rfl, by rw [HV.out]; exact ⟨HS.out, (Kp.of_below HB.out _).trans (Kp.set _ _) (fun _ _ x => x), .inr ⟨by first | rfl | trivial, own_kp HO.out (Kp.set _ _) (fun j hj hk => by have := (HO.out.lt j hj).1; simp at hk; omega)⟩⟩⟩
      · have e11 : ((t : Int) == 11) = false := by rw [beq_eq_false_iff_ne]; omega
        have HV := Lib.hid (show rdVal r t b p = if (rdU b p).2.2 ≠ 0 then (r, 0, (rdU b p).2.2) else if 9223372036854775807 < (rdU b p).1 then (r, 0, 34) else (r.put t (rdU b p).1, (rdU b p).2.1, 0) by unfold rdVal; rw [if_neg h7, if_neg h10, if_neg h11'])
        generalize rdU b p = y at HRU HV hlt
        obtain ⟨n, q, e⟩ := y
        simp only at HRU HV hlt
        clear HRI HRN HRD
        by_cases he : e ≠ 0
        · have HV2 := Lib.hid (HV.out.trans (if_pos he))
          have t1 : (e != 0) = true := by rw [bne_iff_ne]; exact he
          clear he hlt
          go_enter Tryd.func116, Tryd.ntmps116
          go_wp2_with fail
          refine HRU.out.mono ?_
          rintro ee wz ⟨rfl, rfl⟩
          go_wp2_with fail
          go_ret2
          exact ⟨dv, by rw [HV2.out]; rfl, by rw [HV2.out]; exact ⟨HR.out, Kp.refl _ _, .inl ⟨rfl, h11'⟩⟩⟩
        · have he0 : e = 0 := Classical.byContradiction he
          subst he0
          have hn := hlt rfl
          have HVa := Lib.hid (HV.out.trans (if_neg he))
          clear he hlt
          by_cases h2 : 9223372036854775807 < n
          · have HV2 := Lib.hid (HVa.out.trans (if_pos h2))
            have t2 : (9223372036854775807 : Int) < (n : Int) := by omega
            clear h2
            go_enter Tryd.func116, Tryd.ntmps116
            go_wp2_with fail
            refine HRU.out.mono ?_
            rintro ee wz ⟨rfl, rfl⟩
            go_wp2_with fail
            go_ret2
            exact ⟨dv, by rw [HV2.out]; rfl, by rw [HV2.out]; exact ⟨HR.out, Kp.refl _ _, .inl ⟨rfl, h11'⟩⟩⟩
          · have HV2 := Lib.hid (HVa.out.trans (if_neg h2))
            have t2 : ¬ (9223372036854775807 : Int) < (n : Int) := by omega
            have hw : IntKind.i64.wrap (n : Int) = (n : Int) := by rw [IntKind.wrap_i64]; omega
            have HNU := Lib.hid (number_any k t h1 (by omega) w)
            obtain ⟨⟨u, hu⟩, hfz, hset⟩ := box_set HR.out (t := t) (by omega) (cells_put r dv t n (by omega) (by omega))
            have HS := Lib.hid hset
            have H11 := Lib.hid h11'
            clear h2 hset h7 h10 h11'
            go_enter Tryd.func116, Tryd.ntmps116
            go_wp2_with fail
            refine HRU.out.mono ?_
            rintro ee wz ⟨rfl, rfl⟩
            go_wp2_with fail
            refine HNU.out.mono ?_
            rintro ee wz ⟨rfl, rfl⟩
            go_wp2_with fail
            go_ret2
            exact ⟨dv, by rw [HV2.out]; rfl, by rw [HV2.out]; exact ⟨HS.out, Kp.set _ _, .inl ⟨rfl, H11.out⟩⟩⟩
end Go.Proofs.YtfmlkagcmkbebaaDoor

/- record.Decode. -/
namespace Go.Proofs.YtfmlkagcmkbebaaDoor
open Go.RowKit

theorem rdVal_fit {r : Rc} {t p : Nat} {b : List UInt8} (h : r.Fit) : (rdVal r t b p).1.Fit := by
  have hby : ∀ mx, mx ≤ 16384 → (rdBy b p mx).1.length ≤ 16384 := fun mx hm => by
    unfold rdBy
    split
    · simp
    · split
      · simp
      · split
        · simp
        · simp only [List.length_drop, List.length_take]; omega
  unfold rdVal
  split
  · exact ⟨h.nm, h.da, h.tm⟩
  · split
    · refine ⟨?_, h.da, h.tm⟩
      show (rdBy b p 192).1.toArray.size ≤ _
      have := hby 192 (by omega)
      simp; omega
    · split
      · exact ⟨h.nm, by have := hby 16384 (by omega); show (rdBy b p 16384).1.length ≤ _; omega, h.tm⟩
      · split
        · exact h
        · split
          · exact h
          · rename_i h2
            have h3 := h.nm
            have h4 := h.da
            have h5 := h.tm
            unfold Rc.put
            split <;> refine ⟨h3, h4, ?_⟩ <;> first | exact h5 | (simp only; omega)
theorem rcV_fit (v : Int) : (rcV v).Fit := ⟨by show (0 : Nat) ≤ _; omega, by show (0 : Nat) ≤ _; omega, by show (0 : Int) ≤ _; omega⟩

/-- A record into a box. -/
theorem st_cs {ops : Array Oper} {rest : List Oper} {o : Oper} {a : Act} {W : World} {Q : Exit → Act → World → Prop} {x y : Operand} (ho : o.op = .store 62 x y) (hgd : o.guard = none) (b : Nat)
    (hx : a.eval x = .pointer (some ⟨b, 0, none⟩)) (cs old : Array Value) (hy : a.eval y = .agg cs) (hs : cs.size = 12) (hold : old.size = cs.size) (h1 : cs.all (·.oneCell') = true) (hg : W.heap[b]? = some (.cells old 62 (0, 0)))
    (h : wpList Tryd.prog ops Q rest (a.put o.dst undef) (W.setRow b cs)) : wpList Tryd.prog ops Q (o :: rest) a W :=
  wpList_store_row hgd 62 x y ho b cs hx hy 62 old hg (by rw [hs]; kernel_rfl) hold h1 h
/-- A record into a box that was just made. -/
theorem st_ncs {ops : Array Oper} {rest : List Oper} {o : Oper} {a : Act} {W : World} {Q : Exit → Act → World → Prop} {x y : Operand} {old : Array Value} (ho : o.op = .store 62 x y) (hgd : o.guard = none) (b : Nat) (hb : b = W.heap.size)
    (hx : a.eval x = .pointer (some ⟨b, 0, none⟩)) (cs : Array Value) (hy : a.eval y = .agg cs) (hs : cs.size = 12) (hold : old.size = cs.size) (h1 : cs.all (·.oneCell') = true)
    (h : wpList Tryd.prog ops Q rest (a.put o.dst undef) (W.alloc (.cells cs 62))) : wpList Tryd.prog ops Q (o :: rest) a (W.alloc (.cells old 62)) := by
  subst hb
  refine wpList_store_row hgd 62 x y ho W.heap.size _ hx hy 62 old (heap_alloc_new _ _) (by rw [hs]; kernel_rfl) hold h1 ?_
  rw [World.setRow_alloc_new]; exact h
theorem results_cell1 {fn : Func} {p u : Tmp} {ty : TypeId} (h : fn.results = #[.cell p ty, .tmp u]) (tmps : Array Value) (P : Program) (w : World) (g : Nat) (cs : Array Value)
    (hp : tmps.getD p undef = .pointer (some ⟨g, 0, none⟩)) (hl : (loadVar ty ⟨g, 0, none⟩).run P w = .ok (.agg cs) w) :
    (results fn tmps).run P w = .ok (.tuple #[.agg cs, tmps.getD u undef]) w := by
  have hp' : tmps[p]?.getD undef = .pointer (some ⟨g, 0, none⟩) := by simpa using hp
  simp [results, h, hp', asAddr, hl, Sem.run_bind, Result.andThen]
/-- A record's box as it is answered. -/
theorem ld_box {w : World} {g : Nat} {cs : Array Value} (h : w.heap[g]? = some (.cells cs 62 (0, 0))) (hs : cs.size = 12) : (loadVar 62 ⟨g, 0, none⟩).run Tryd.prog w = .ok (.agg cs) w :=
  run_loadVar_row _ g 62 62 _ _ _ h Tryd.underlying62 rfl (by rw [hs]; kernel_rfl)
theorem setRow_box (w : World) (g : Nat) (old cs : Array Value) (h : w.heap[g]? = some (.cells old 62 (0, 0))) : (w.setRow g cs).heap[g]? = some (.cells cs 62 (0, 0)) := setRow_heap _ _ _ _ _ _ h
theorem RecAt.row {w : World} {b : Nat} {r : Rc} {dv : Value} {t : TypeId} {fr : Nat × Nat} (h : w.heap[b]? = some (.cells (r.cells dv) t fr)) : RecAt w b r dv := by
  have h : ∀ j, w.cell? ⟨b, j, none⟩ = (r.cells dv)[j]? := fun j => cell_of_row _ _ _ _ _ _ h
  exact ⟨(h 0).trans rfl, (h 1).trans rfl, (h 2).trans rfl, (h 3).trans rfl, (h 4).trans rfl, (h 5).trans rfl, (h 6).trans rfl, (h 7).trans rfl, (h 8).trans rfl, (h 9).trans rfl, (h 10).trans rfl, (h 11).trans rfl⟩
/-- What a decoder answers. -/
def DecE (w : World) (y : Rc × Int) (e : Ending) (w' : World) : Prop := ∃ dv, e = .returned (.tuple #[y.1.val dv, .int .i64 y.2]) ∧ Ob w' w.heap.size dv y.1.da ∧ Below w.heap.size w w'
theorem DecE.zero {w w' : World} {c : Int} {y : Rc × Int} (h : y = (rc0, c)) (hb : Below w.heap.size w w') : DecE w y (.returned (.tuple #[.agg #[.int .i64 0, .int .i64 0, .int .i64 0, .int .i64 0, .int .i64 0, .int .i64 0, .int .i64 0, .int .i64 0, .int .i64 0, .int .i64 0, .string ⟨#[]⟩, .slice none 0 0], .int .i64 c])) w' :=
  ⟨.slice none 0 0, by rw [h]; rfl, by rw [h]; exact Ob.nil _ _, hb⟩
theorem below_setRow {w W : World} {cs : Array Value} (hb : Below w.heap.size w W) : Below w.heap.size w (W.setRow w.heap.size cs) :=
  hb.grown (grownBy_setRow _ _ _) hb.size (fun k e => by injection e with e; omega)

set_option maxRecDepth 100000 in
set_option maxHeartbeats 4000000 in
theorem Decode_any (v : Int) (x : Value) (b : List UInt8) (hb : b.length ≤ 1099511627776) (w : World) (hT : TabR w) (hM : TabM w) (hx : Bs w x b) :
    Calls Tryd.prog 86 #[.int .i64 v, x] w (DecE w (decC v b)) := by
  have HT := Lib.hid hT
  have HM := Lib.hid hM
  have HX := Lib.hid hx
  obtain ⟨A, c, rfl, hn, hc, _⟩ := hx.form
  unfold maxLen at hc
  clear hT hM hx
  by_cases hv : v < 1 ∨ 3 < v
  · have HV := Lib.hid (show decC v b = (rc0, 3) by unfold decC; rw [if_pos hv])
    have hB1 : Below w.heap.size w (w.alloc (.cells #[.int .i64 0, .int .i64 0, .int .i64 0, .int .i64 0, .int .i64 0, .int .i64 0, .int .i64 0, .int .i64 0, .int .i64 0, .int .i64 0, .string ⟨#[]⟩, .slice none 0 0] 62)) := (Below.refl _ w).alloc (Nat.le_refl _) _
    have hn1 := heap_alloc_new w (.cells #[.int .i64 0, .int .i64 0, .int .i64 0, .int .i64 0, .int .i64 0, .int .i64 0, .int .i64 0, .int .i64 0, .int .i64 0, .int .i64 0, .string ⟨#[]⟩, .slice none 0 0] 62)
    by_cases h1 : v < 1
    · clear hv
      go_enter Tryd.func86, Tryd.ntmps86
      go_wp2_with (refine st_cs (by exact rfl) (by exact rfl) w.heap.size (by exact rfl) #[.int .i64 0, .int .i64 0, .int .i64 0, .int .i64 0, .int .i64 0, .int .i64 0, .int .i64 0, .int .i64 0, .int .i64 0, .int .i64 0, .string ⟨#[]⟩, .slice none 0 0] #[.int .i64 0, .int .i64 0, .int .i64 0, .int .i64 0, .int .i64 0, .int .i64 0, .int .i64 0, .int .i64 0, .int .i64 0, .int .i64 0, .string ⟨#[]⟩, .slice none 0 0] (by exact rfl) rfl rfl (by simp [Value.oneCell']) (by exact hn1) ?_)
      refine bodyPost_ret (results_cell1 rfl _ _ _ w.heap.size #[.int .i64 0, .int .i64 0, .int .i64 0, .int .i64 0, .int .i64 0, .int .i64 0, .int .i64 0, .int .i64 0, .int .i64 0, .int .i64 0, .string ⟨#[]⟩, .slice none 0 0] rfl (ld_box (setRow_box _ _ _ _ hn1) rfl)) rfl (by exact DecE.zero HV.out (below_setRow hB1))
    · have h3 : 3 < v := by omega
      clear hv
      go_enter Tryd.func86, Tryd.ntmps86
      go_wp2_with (refine st_cs (by exact rfl) (by exact rfl) w.heap.size (by exact rfl) #[.int .i64 0, .int .i64 0, .int .i64 0, .int .i64 0, .int .i64 0, .int .i64 0, .int .i64 0, .int .i64 0, .int .i64 0, .int .i64 0, .string ⟨#[]⟩, .slice none 0 0] #[.int .i64 0, .int .i64 0, .int .i64 0, .int .i64 0, .int .i64 0, .int .i64 0, .int .i64 0, .int .i64 0, .int .i64 0, .int .i64 0, .string ⟨#[]⟩, .slice none 0 0] (by exact rfl) rfl rfl (by simp [Value.oneCell']) (by exact hn1) ?_)
      refine bodyPost_ret (results_cell1 rfl _ _ _ w.heap.size #[.int .i64 0, .int .i64 0, .int .i64 0, .int .i64 0, .int .i64 0, .int .i64 0, .int .i64 0, .int .i64 0, .int .i64 0, .int .i64 0, .string ⟨#[]⟩, .slice none 0 0] rfl (ld_box (setRow_box _ _ _ _ hn1) rfl)) rfl (by exact DecE.zero HV.out (below_setRow hB1))
  · have h1 : ¬ v < 1 := by omega
    have h3 : ¬ 3 < v := by omega
    have HDC := Lib.hid (show decC v b = if (fldF b 11 1 (rcV v) 0).2 ≠ 0 then (rc0, (fldF b 11 1 (rcV v) 0).2) else if checkC (fldF b 11 1 (rcV v) 0).1 ≠ 0 then (rc0, checkC (fldF b 11 1 (rcV v) 0).1) else ((fldF b 11 1 (rcV v) 0).1, 0) by unfold decC; rw [if_neg hv])
    clear hv
    go_enter Tryd.func86, Tryd.ntmps86
    go_wp2_with (refine st_ncs (by exact rfl) (by exact rfl) (w.heap.size + 1) (by simp) (by exact rfl) #[.int .i64 v, .int .i64 0, .int .i64 0, .int .i64 0, .int .i64 0, .int .i64 0, .int .i64 0, .int .i64 0, .int .i64 0, .int .i64 0, .string ⟨#[]⟩, .slice none 0 0] (by exact rfl) rfl rfl (by simp [Value.oneCell']) ?_)
    obtain ⟨W2, hW2⟩ : ∃ W2, (w.alloc (.cells #[.int .i64 0, .int .i64 0, .int .i64 0, .int .i64 0, .int .i64 0, .int .i64 0, .int .i64 0, .int .i64 0, .int .i64 0, .int .i64 0, .string ⟨#[]⟩, .slice none 0 0] 62)).alloc (.cells #[.int .i64 v, .int .i64 0, .int .i64 0, .int .i64 0, .int .i64 0, .int .i64 0, .int .i64 0, .int .i64 0, .int .i64 0, .int .i64 0, .string ⟨#[]⟩, .slice none 0 0] 62) = W2 := ⟨_, rfl⟩
    have hB2 : Below w.heap.size w W2 := by rw [← hW2]; exact ((Below.refl _ w).alloc (Nat.le_refl _) _).alloc (by simp) _
    have hz : W2.heap.size = w.heap.size + 2 := by rw [← hW2]; simp
    have hb0 : W2.heap[w.heap.size]? = some (.cells #[.int .i64 0, .int .i64 0, .int .i64 0, .int .i64 0, .int .i64 0, .int .i64 0, .int .i64 0, .int .i64 0, .int .i64 0, .int .i64 0, .string ⟨#[]⟩, .slice none 0 0] 62 (0, 0)) := by
      rw [← hW2]; exact (Below.heap_alloc _ _ _ (by simp)).trans (heap_alloc_new w _)
    have hb1 : W2.heap[w.heap.size + 1]? = some (.cells ((rcV v).cells (.slice none 0 0)) 62 (0, 0)) := by
      rw [← hW2]; have := heap_alloc_new (w.alloc (.cells #[.int .i64 0, .int .i64 0, .int .i64 0, .int .i64 0, .int .i64 0, .int .i64 0, .int .i64 0, .int .i64 0, .int .i64 0, .int .i64 0, .string ⟨#[]⟩, .slice none 0 0] 62)) (.cells #[.int .i64 v, .int .i64 0, .int .i64 0, .int .i64 0, .int .i64 0, .int .i64 0, .int .i64 0, .int .i64 0, .int .i64 0, .int .i64 0, .string ⟨#[]⟩, .slice none 0 0] 62); rw [World.size_alloc] at this; exact this
    rw [hW2]
    clear hW2 h1 h3
    go_loopw [7, 8] (fun la i wr => ∃ (l k : Nat) (r : Rc) (dv : Value), l ≤ 11 ∧ k ≤ b.length ∧ la = .int .i64 (l : Int) ∧ i = .int .i64 (k : Int) ∧ Hid (fldF b 11 1 (rcV v) 0 = fldF b (11 - l) (l + 1) r k) ∧ r.Fit ∧
      wr.heap[w.heap.size]? = some (.cells #[.int .i64 0, .int .i64 0, .int .i64 0, .int .i64 0, .int .i64 0, .int .i64 0, .int .i64 0, .int .i64 0, .int .i64 0, .int .i64 0, .string ⟨#[]⟩, .slice none 0 0] 62 (0, 0)) ∧ wr.heap[w.heap.size + 1]? = some (.cells (r.cells dv) 62 (0, 0)) ∧ Ob wr (w.heap.size + 2) dv r.da ∧ Below w.heap.size w wr ∧ w.heap.size + 2 ≤ wr.heap.size) (fun la _ _ => 11 - (intOf la).toNat)
    case atStart => exact ⟨0, 0, rcV v, .slice none 0 0, by omega, by omega, rfl, rfl, Lib.hid rfl, rcV_fit v, hb0, hb1, Ob.nil _ _, hB2, by omega⟩
    case round =>
      obtain ⟨l, k, r, dv, hl, hk, rfl, rfl, HF, hfit, hz0, hz1, HO, HB, hsz⟩ := hrel
      clear hb0 hb1 hB2 hz
      have H0 := Lib.hid hz0
      have H1 := Lib.hid hz1
      have HFIT := Lib.hid hfit
      clear hz0 hz1 hfit
      by_cases hlt : k < b.length
      · have hki : (k : Int) < (b.length : Int) := by omega
        have HRU := Lib.hid (ReadUint_any _ b k hb (by omega) wr (HX.out.below HB))
        have hend := rdU_end (b := b) (p := k)
        have hlt64 := rdU_lt (b := b) (p := k)
        obtain ⟨y, hy⟩ : ∃ y, rdU b k = y := ⟨_, rfl⟩
        rw [hy] at HRU hend hlt64
        obtain ⟨n, p, e⟩ := y
        simp only at HRU hend hlt64
        by_cases he : e ≠ 0
        · have HV := Lib.hid (show decC v b = (rc0, e) by rw [HDC.out, HF.out, fldF_err hlt (by rw [hy]) he, if_pos he])
          have t1 : (e != 0) = true := by rw [bne_iff_ne]; exact he
          clear hy hend hlt64 he hlt
          go_wp2_with fail
          refine HRU.out.mono ?_
          rintro ee wz ⟨rfl, rfl⟩
          go_wp2_with (refine st_cs (by exact rfl) (by exact rfl) w.heap.size (by exact rfl) #[.int .i64 0, .int .i64 0, .int .i64 0, .int .i64 0, .int .i64 0, .int .i64 0, .int .i64 0, .int .i64 0, .int .i64 0, .int .i64 0, .string ⟨#[]⟩, .slice none 0 0] #[.int .i64 0, .int .i64 0, .int .i64 0, .int .i64 0, .int .i64 0, .int .i64 0, .int .i64 0, .int .i64 0, .int .i64 0, .int .i64 0, .string ⟨#[]⟩, .slice none 0 0] (by exact rfl) rfl rfl (by simp [Value.oneCell']) (by exact H0.out) ?_)
          try simp only [Exit.inBlock, Exit.then]
          refine bodyPost_ret (results_cell1 rfl _ _ _ w.heap.size #[.int .i64 0, .int .i64 0, .int .i64 0, .int .i64 0, .int .i64 0, .int .i64 0, .int .i64 0, .int .i64 0, .int .i64 0, .int .i64 0, .string ⟨#[]⟩, .slice none 0 0] rfl (ld_box (setRow_box _ _ _ _ H0.out) rfl)) rfl (by exact DecE.zero HV.out (below_setRow HB))
        · have he0 : e = 0 := Classical.byContradiction he
          subst he0
          obtain ⟨hp1, hp2⟩ := hend rfl
          have hn64 := hlt64 rfl
          clear he hend hlt64
          by_cases hbad : n < l + 1 ∨ 11 < n
          · have HV := Lib.hid (show decC v b = (rc0, 37) by rw [HDC.out, HF.out, fldF_bad hlt hy (by omega) (by omega) hbad, if_pos (by simp)])
            clear hy
            by_cases h0 : n = 0
            · subst h0
              clear hbad hlt
              go_wp2_with fail
              refine HRU.out.mono ?_
              rintro ee wz ⟨rfl, rfl⟩
              go_wp2_with (refine st_cs (by exact rfl) (by exact rfl) w.heap.size (by exact rfl) #[.int .i64 0, .int .i64 0, .int .i64 0, .int .i64 0, .int .i64 0, .int .i64 0, .int .i64 0, .int .i64 0, .int .i64 0, .int .i64 0, .string ⟨#[]⟩, .slice none 0 0] #[.int .i64 0, .int .i64 0, .int .i64 0, .int .i64 0, .int .i64 0, .int .i64 0, .int .i64 0, .int .i64 0, .int .i64 0, .int .i64 0, .string ⟨#[]⟩, .slice none 0 0] (by exact rfl) rfl rfl (by simp [Value.oneCell']) (by exact H0.out) ?_)
              try simp only [Exit.inBlock, Exit.then]
              refine bodyPost_ret (results_cell1 rfl _ _ _ w.heap.size #[.int .i64 0, .int .i64 0, .int .i64 0, .int .i64 0, .int .i64 0, .int .i64 0, .int .i64 0, .int .i64 0, .int .i64 0, .int .i64 0, .string ⟨#[]⟩, .slice none 0 0] rfl (ld_box (setRow_box _ _ _ _ H0.out) rfl)) rfl (by exact DecE.zero HV.out (below_setRow HB))
            · have t0 : ((n : Int) == 0) = false := by rw [beq_eq_false_iff_ne]; omega
              by_cases h11 : 11 < n
              · have t11 : (11 : Int) < (n : Int) := by omega
                clear hbad hlt h0 h11
                go_wp2_with fail
                refine HRU.out.mono ?_
                rintro ee wz ⟨rfl, rfl⟩
                go_wp2_with (refine st_cs (by exact rfl) (by exact rfl) w.heap.size (by exact rfl) #[.int .i64 0, .int .i64 0, .int .i64 0, .int .i64 0, .int .i64 0, .int .i64 0, .int .i64 0, .int .i64 0, .int .i64 0, .int .i64 0, .string ⟨#[]⟩, .slice none 0 0] #[.int .i64 0, .int .i64 0, .int .i64 0, .int .i64 0, .int .i64 0, .int .i64 0, .int .i64 0, .int .i64 0, .int .i64 0, .int .i64 0, .string ⟨#[]⟩, .slice none 0 0] (by exact rfl) rfl rfl (by simp [Value.oneCell']) (by exact H0.out) ?_)
                try simp only [Exit.inBlock, Exit.then]
                refine bodyPost_ret (results_cell1 rfl _ _ _ w.heap.size #[.int .i64 0, .int .i64 0, .int .i64 0, .int .i64 0, .int .i64 0, .int .i64 0, .int .i64 0, .int .i64 0, .int .i64 0, .int .i64 0, .string ⟨#[]⟩, .slice none 0 0] rfl (ld_box (setRow_box _ _ _ _ H0.out) rfl)) rfl (by exact DecE.zero HV.out (below_setRow HB))
              · have t11 : ¬ (11 : Int) < (n : Int) := by omega
                have tl : (n : Int) ≤ (l : Int) := by omega
                have hw : IntKind.i64.wrap (n : Int) = (n : Int) := by rw [IntKind.wrap_i64]; omega
                clear hbad hlt h0 h11
                go_wp2_with fail
                refine HRU.out.mono ?_
                rintro ee wz ⟨rfl, rfl⟩
                go_wp2_with (refine st_cs (by exact rfl) (by exact rfl) w.heap.size (by exact rfl) #[.int .i64 0, .int .i64 0, .int .i64 0, .int .i64 0, .int .i64 0, .int .i64 0, .int .i64 0, .int .i64 0, .int .i64 0, .int .i64 0, .string ⟨#[]⟩, .slice none 0 0] #[.int .i64 0, .int .i64 0, .int .i64 0, .int .i64 0, .int .i64 0, .int .i64 0, .int .i64 0, .int .i64 0, .int .i64 0, .int .i64 0, .string ⟨#[]⟩, .slice none 0 0] (by exact rfl) rfl rfl (by simp [Value.oneCell']) (by exact H0.out) ?_)
                try simp only [Exit.inBlock, Exit.then]
                refine bodyPost_ret (results_cell1 rfl _ _ _ w.heap.size #[.int .i64 0, .int .i64 0, .int .i64 0, .int .i64 0, .int .i64 0, .int .i64 0, .int .i64 0, .int .i64 0, .int .i64 0, .int .i64 0, .string ⟨#[]⟩, .slice none 0 0] rfl (ld_box (setRow_box _ _ _ _ H0.out) rfl)) rfl (by exact DecE.zero HV.out (below_setRow HB))
          · have hn1 : l < n := by omega
            have hn11 : n ≤ 11 := by omega
            have HF2 := Lib.hid (HF.out.trans ((fldF_skip hlt hy (by omega) (by omega) (by omega) hn11).trans (by rw [show 12 - n = (11 - n) + 1 by omega, fldF, if_pos hlt, hy, if_neg (by simp), if_neg (by simp)])))
            have t0 : ((n : Int) == 0) = false := by rw [beq_eq_false_iff_ne]; omega
            have t11 : ¬ (11 : Int) < (n : Int) := by omega
            have tl : ¬ (n : Int) ≤ (l : Int) := by omega
            have hw : IntKind.i64.wrap (n : Int) = (n : Int) := by rw [IntKind.wrap_i64]; omega
            have HVA := Lib.hid (value_any (w.heap.size + 1) r dv _ n b p (by omega) hn11 hb hp2 wr H1.out (HX.out.below HB))
            have HFY := Lib.hid (rdVal_fit (t := n) (p := p) (b := b) HFIT.out)
            have hvis := fun (s : Rc) (q : Nat) (h : rdVal r n b p = (s, q, 0)) => rdVal_is (by omega : 1 ≤ n) hn11 h
            simp only at HF2
            obtain ⟨y, hyv⟩ : ∃ y, rdVal r n b p = y := ⟨_, rfl⟩
            rw [hyv] at HF2 HVA HFY hvis
            obtain ⟨s, q, e⟩ := y
            simp only at HF2 HVA HFY hvis
            clear hy hyv hbad
            by_cases he : e ≠ 0
            · have HV := Lib.hid (show decC v b = (rc0, e) by rw [HDC.out, HF2.out, if_pos he, if_pos he])
              have t1 : (e != 0) = true := by rw [bne_iff_ne]; exact he
              clear he hlt hvis
              go_wp2_with fail
              refine HRU.out.mono ?_
              rintro ee wz ⟨rfl, rfl⟩
              go_wp2_with fail
              refine HVA.out.mono ?_
              rintro ee w5 ⟨dv', rfl, hvd⟩
              have HB5 := Lib.hid (hvd.kp.below (T := w.heap.size) (by omega) (fun j e => by omega))
              have H05 := Lib.hid ((hvd.kp.block w.heap.size (by omega) (by omega)).trans H0.out)
              clear hvd
              go_wp2_with (refine st_cs (by exact rfl) (by exact rfl) w.heap.size (by exact rfl) #[.int .i64 0, .int .i64 0, .int .i64 0, .int .i64 0, .int .i64 0, .int .i64 0, .int .i64 0, .int .i64 0, .int .i64 0, .int .i64 0, .string ⟨#[]⟩, .slice none 0 0] #[.int .i64 0, .int .i64 0, .int .i64 0, .int .i64 0, .int .i64 0, .int .i64 0, .int .i64 0, .int .i64 0, .int .i64 0, .int .i64 0, .string ⟨#[]⟩, .slice none 0 0] (by exact rfl) rfl rfl (by simp [Value.oneCell']) (by exact H05.out) ?_)
              try simp only [Exit.inBlock, Exit.then]
              refine bodyPost_ret (results_cell1 rfl _ _ _ w.heap.size #[.int .i64 0, .int .i64 0, .int .i64 0, .int .i64 0, .int .i64 0, .int .i64 0, .int .i64 0, .int .i64 0, .int .i64 0, .int .i64 0, .string ⟨#[]⟩, .slice none 0 0] rfl (ld_box (setRow_box _ _ _ _ H05.out) rfl)) rfl (by exact DecE.zero HV.out (below_setRow (HB.trans HB5.out)))
            · have he0 : e = 0 := Classical.byContradiction he
              subst he0
              obtain ⟨-, hso, -, hq, -, -, -⟩ := hvis s q rfl
              have HD5 := fun (w5 : World) (dv' : Value) (hvd : Vd wr (w.heap.size + 1) s dv dv' (n = 11) w5) => show Ob w5 (w.heap.size + 2) dv' s.da from by
                rcases hvd.da with ⟨rfl, h⟩ | ⟨_, h⟩
                · rw [← (hso 11 (by omega) (by omega) (fun e => h e.symm)).da]
                  exact own_kp HO hvd.kp (fun j hj e => by have := (HO.lt j hj).1; omega)
                · exact own_mono h hsz
              have HD5 := Lib.hid HD5
              clear he hvis hso
              obtain ⟨zz, hzz⟩ : ∃ zz, zeroB s n = zz := ⟨_, rfl⟩
              have HZR := Lib.hid hzz
              have HZA := Lib.hid (fun (w5 : World) (dv' : Value) (hvd : Vd wr (w.heap.size + 1) s dv dv' (n = 11) w5) => zero_is HZR (by omega) hn11 w5 ⟨RecAt.row hvd.box, (HD5.out w5 dv' hvd).bs⟩)
              cases zz with
              | true =>
                have hf4 : fldF b 11 1 (rcV v) 0 = (s, 38) := by rw [HF2.out, if_neg (by simp), if_pos hzz]
                have HV := Lib.hid (show decC v b = (rc0, 38) by rw [HDC.out, hf4, if_pos (by simp)])
                clear hf4
                clear hzz hlt
                go_wp2_with fail
                refine HRU.out.mono ?_
                rintro ee wz ⟨rfl, rfl⟩
                go_wp2_with fail
                refine HVA.out.mono ?_
                rintro ee w5 ⟨dv', rfl, hvd⟩
                have HB5 := Lib.hid (hvd.kp.below (T := w.heap.size) (by omega) (fun j e => by omega))
                have H05 := Lib.hid ((hvd.kp.block w.heap.size (by omega) (by omega)).trans H0.out)
                have HZ5 := Lib.hid (HZA.out w5 dv' hvd)
                clear hvd
                go_wp2_with fail
                refine HZ5.out.mono ?_
                rintro ee wz ⟨rfl, rfl⟩
                go_wp2_with (refine st_cs (by exact rfl) (by exact rfl) w.heap.size (by exact rfl) #[.int .i64 0, .int .i64 0, .int .i64 0, .int .i64 0, .int .i64 0, .int .i64 0, .int .i64 0, .int .i64 0, .int .i64 0, .int .i64 0, .string ⟨#[]⟩, .slice none 0 0] #[.int .i64 0, .int .i64 0, .int .i64 0, .int .i64 0, .int .i64 0, .int .i64 0, .int .i64 0, .int .i64 0, .int .i64 0, .int .i64 0, .string ⟨#[]⟩, .slice none 0 0] (by exact rfl) rfl rfl (by simp [Value.oneCell']) (by exact H05.out) ?_)
                try simp only [Exit.inBlock, Exit.then]
                refine bodyPost_ret (results_cell1 rfl _ _ _ w.heap.size #[.int .i64 0, .int .i64 0, .int .i64 0, .int .i64 0, .int .i64 0, .int .i64 0, .int .i64 0, .int .i64 0, .int .i64 0, .int .i64 0, .string ⟨#[]⟩, .slice none 0 0] rfl (ld_box (setRow_box _ _ _ _ H05.out) rfl)) rfl (by exact DecE.zero HV.out (below_setRow (HB.trans HB5.out)))
              | false =>
                have HF3 := Lib.hid (show fldF b 11 1 (rcV v) 0 = fldF b (11 - n) (n + 1) s q by rw [HF2.out, if_neg (by simp), if_neg (by rw [hzz]; simp)])
                clear hzz hlt
                go_wp2_with fail
                refine HRU.out.mono ?_
                rintro ee wz ⟨rfl, rfl⟩
                go_wp2_with fail
                refine HVA.out.mono ?_
                rintro ee w5 ⟨dv', rfl, hvd⟩
                have HB5 := Lib.hid (hvd.kp.below (T := w.heap.size) (by omega) (fun j e => by omega))
                have H05 := Lib.hid ((hvd.kp.block w.heap.size (by omega) (by omega)).trans H0.out)
                have H15 := Lib.hid hvd.box
                have HZ5 := Lib.hid (HZA.out w5 dv' hvd)
                have HO5 := Lib.hid (HD5.out w5 dv' hvd)
                have hs5 := hvd.kp.size
                clear hvd
                go_wp2_with fail
                refine HZ5.out.mono ?_
                rintro ee wz ⟨rfl, rfl⟩
                go_wp2_with fail
                go_roundw
                case rel => exact ⟨n, q, s, dv', hn11, hq, rfl, rfl, HF3.out, HFY.out, H05.out, H15.out, HO5.out, HB.trans HB5.out, by omega⟩
                case measure => simp [intOf]; omega
      · have hke : k = b.length := by omega
        have hki : ¬ (k : Int) < (b.length : Int) := by omega
        have HE := Lib.hid (show fldF b 11 1 (rcV v) 0 = (r, 0) by rw [HF.out, hke, fldF_end])
        obtain ⟨Ad, cd, rfl⟩ := HO.slice
        have HCK := Lib.hid (Check_any r (.slice Ad r.da.length cd) HFIT.out wr (HT.out.below HB) (HM.out.below HB) HO.bs)
        rw [val_eq] at HCK
        have HBr := Lib.hid HB
        have HOr := Lib.hid HO
        clear hke hlt HB HO
        by_cases hck : checkC r = 0
        · have HV := Lib.hid (show decC v b = (r, 0) by rw [HDC.out, HE.out, if_neg (by simp), if_neg (by simp only [hck]; simp)])
          rw [hck] at HCK
          clear hck
          go_wp2_with (refine ld_cs (by exact rfl) (by exact rfl) (w.heap.size + 1) (by exact rfl) #[.int .i64 r.v, .int .i64 r.kd, .int .i64 r.sg, .int .i64 r.st, .int .i64 r.tr, .int .i64 r.tm, .int .i64 r.la, .int .i64 r.co, .int .i64 r.cn, .int .i64 r.pv, .string r.nm, .slice Ad r.da.length cd] rfl (by exact H1.out) ?_)
          refine HCK.out.mono ?_
          rintro ee w5 ⟨rfl, hb5⟩
          have H05 := Lib.hid ((hb5.block w.heap.size (by omega)).trans H0.out)
          have H15 := Lib.hid ((hb5.block (w.heap.size + 1) (by omega)).trans H1.out)
          have HB5 := Lib.hid (HBr.out.trans (hb5.mono (by omega)))
          have HO5 := Lib.hid (HOr.out.below hb5)
          clear hb5
          go_wp2_with (first
            | (refine ld_cs (by exact rfl) (by exact rfl) (w.heap.size + 1) (by exact rfl) #[.int .i64 r.v, .int .i64 r.kd, .int .i64 r.sg, .int .i64 r.st, .int .i64 r.tr, .int .i64 r.tm, .int .i64 r.la, .int .i64 r.co, .int .i64 r.cn, .int .i64 r.pv, .string r.nm, .slice Ad r.da.length cd] rfl (by exact H15.out) ?_)
            | (refine st_cs (by exact rfl) (by exact rfl) w.heap.size (by exact rfl) #[.int .i64 r.v, .int .i64 r.kd, .int .i64 r.sg, .int .i64 r.st, .int .i64 r.tr, .int .i64 r.tm, .int .i64 r.la, .int .i64 r.co, .int .i64 r.cn, .int .i64 r.pv, .string r.nm, .slice Ad r.da.length cd] #[.int .i64 0, .int .i64 0, .int .i64 0, .int .i64 0, .int .i64 0, .int .i64 0, .int .i64 0, .int .i64 0, .int .i64 0, .int .i64 0, .string ⟨#[]⟩, .slice none 0 0] (by exact rfl) rfl rfl (by simp [Value.oneCell']) (by exact H05.out) ?_))
          try simp only [Exit.inBlock, Exit.then]
          refine bodyPost_ret (results_cell1 rfl _ _ _ w.heap.size #[.int .i64 r.v, .int .i64 r.kd, .int .i64 r.sg, .int .i64 r.st, .int .i64 r.tr, .int .i64 r.tm, .int .i64 r.la, .int .i64 r.co, .int .i64 r.cn, .int .i64 r.pv, .string r.nm, .slice Ad r.da.length cd] rfl (ld_box (setRow_box _ _ _ _ H05.out) rfl)) rfl ⟨.slice Ad r.da.length cd, by rw [HV.out]; rfl, ?_, below_setRow HB5.out⟩
          rw [HV.out]
          exact own_mono (own_kp HO5.out (Kp.of_grown (grownBy_setRow _ _ _)) (fun j hj e => by have := (HO5.out.lt j hj).1; injection e with e; omega)) (by omega)
        · have HV := Lib.hid (show decC v b = (rc0, checkC r) by rw [HDC.out, HE.out, if_neg (by simp), if_pos hck])
          have t1 : (checkC r != 0) = true := by rw [bne_iff_ne]; exact hck
          clear hck
          generalize checkC r = ck at HCK HV t1
          go_wp2_with (refine ld_cs (by exact rfl) (by exact rfl) (w.heap.size + 1) (by exact rfl) #[.int .i64 r.v, .int .i64 r.kd, .int .i64 r.sg, .int .i64 r.st, .int .i64 r.tr, .int .i64 r.tm, .int .i64 r.la, .int .i64 r.co, .int .i64 r.cn, .int .i64 r.pv, .string r.nm, .slice Ad r.da.length cd] rfl (by exact H1.out) ?_)
          refine HCK.out.mono ?_
          rintro ee w5 ⟨rfl, hb5⟩
          have H05 := Lib.hid ((hb5.block w.heap.size (by omega)).trans H0.out)
          have HB5 := Lib.hid (HBr.out.trans (hb5.mono (by omega)))
          clear hb5
          go_wp2_with (refine st_cs (by exact rfl) (by exact rfl) w.heap.size (by exact rfl) #[.int .i64 0, .int .i64 0, .int .i64 0, .int .i64 0, .int .i64 0, .int .i64 0, .int .i64 0, .int .i64 0, .int .i64 0, .int .i64 0, .string ⟨#[]⟩, .slice none 0 0] #[.int .i64 0, .int .i64 0, .int .i64 0, .int .i64 0, .int .i64 0, .int .i64 0, .int .i64 0, .int .i64 0, .int .i64 0, .int .i64 0, .string ⟨#[]⟩, .slice none 0 0] (by exact rfl) rfl rfl (by simp [Value.oneCell']) (by exact H05.out) ?_)
          try simp only [Exit.inBlock, Exit.then]
          refine bodyPost_ret (results_cell1 rfl _ _ _ w.heap.size #[.int .i64 0, .int .i64 0, .int .i64 0, .int .i64 0, .int .i64 0, .int .i64 0, .int .i64 0, .int .i64 0, .int .i64 0, .int .i64 0, .string ⟨#[]⟩, .slice none 0 0] rfl (ld_box (setRow_box _ _ _ _ H05.out) rfl)) rfl (by exact DecE.zero HV.out (below_setRow HB5.out))
end Go.Proofs.YtfmlkagcmkbebaaDoor

/- annalsref3.put, read. -/
namespace Go.Proofs.YtfmlkagcmkbebaaDoor
open Go.RowKit

theorem heap_alloc2 (w : World) (o p : Obj) : ((w.alloc o).alloc p).heap[w.heap.size + 1]? = (w.alloc p).heap[w.heap.size]? := by
  have h1 := heap_alloc_new (w.alloc o) p
  rw [World.size_alloc] at h1
  rw [h1, heap_alloc_new]

set_option maxRecDepth 100000 in
set_option maxHeartbeats 2000000 in
theorem rput_any (r : Rc) (A : Option Addr) (m c : Nat) (t : Nat) (n : Int) (h1 : 1 ≤ t) (h9 : t ≤ 9) (w : World) :
    Calls Tryd.prog 135 #[r.val (.slice A m c), .int .i64 (t : Int), .int .i64 n] w fun e w' => e = .returned ((r.put t n).val (.slice A m c)) ∧ Below w.heap.size w w' := by
  rw [val_eq]
  rcases (by omega : t = 1 ∨ t = 2 ∨ t = 3 ∨ t = 4 ∨ t = 5 ∨ t = 6 ∨ t = 7 ∨ t = 8 ∨ t = 9) with rfl | rfl | rfl | rfl | rfl | rfl | rfl | rfl | rfl
  all_goals
    go_enter Tryd.func135, Tryd.ntmps135
    go_wp2_with fail
    refine bodyPost_ret (results_cell_row rfl _ _ (w.heap.size + 1) 62 _ _ _ rfl ((heap_alloc2 _ _ _).trans (heap_alloc_new _ _)) Tryd.underlying62 rfl (by kernel_rfl)) rfl ⟨rfl, ((Below.refl _ w).alloc (Nat.le_refl _) _).alloc (by simp) _⟩

theorem rdVal_da {r : Rc} {t p : Nat} {b : List UInt8} (h : t ≠ 11) : (rdVal r t b p).1.da = r.da := by
  unfold rdVal
  split
  · rfl
  · split
    · rfl
    · split
      · rfl
      · split
        · rfl
        · unfold Rc.put; split <;> rfl
/-- A record that was read on, a place, a code. -/
def ReadE (w : World) (dv : Value) (t : Nat) (y : Rc × Nat × Int) (e : Ending) (w' : World) : Prop :=
  ∃ dv', e = .returned (.tuple #[y.1.val dv', .int .i64 (y.2.1 : Int), .int .i64 y.2.2]) ∧ ((dv' = dv ∧ t ≠ 11) ∨ (t = 11 ∧ Ob w' w.heap.size dv' y.1.da)) ∧ Below w.heap.size w w'

set_option maxRecDepth 100000 in
set_option maxHeartbeats 4000000 in
theorem rread_any (r : Rc) (dv v : Value) (t : Nat) (b : List UInt8) (p : Nat) (h1 : 1 ≤ t) (h11 : t ≤ 11) (hb : b.length ≤ 1099511627776) (hp : p ≤ b.length) (w : World) (hd : Bs w dv r.da) (hv : Bs w v b) :
    Calls Tryd.prog 127 #[r.val dv, .int .i64 (t : Int), v, .int .i64 (p : Int)] w (ReadE w dv t (rdVal r t b p)) := by
  obtain ⟨A, c, rfl, _⟩ := hd.form
  rw [val_eq]
  obtain ⟨Ab, cb, rfl, _⟩ := hv.form
  have hlt := rdU_lt (b := b) (p := p)
  obtain ⟨W2, hW2⟩ : ∃ W2, (w.alloc (.cells #[.int .i64 r.v, .int .i64 r.kd, .int .i64 r.sg, .int .i64 r.st, .int .i64 r.tr, .int .i64 r.tm, .int .i64 r.la, .int .i64 r.co, .int .i64 r.cn, .int .i64 r.pv, .string r.nm, .slice A r.da.length c] 62)).alloc (.cells #[.int .i64 0, .int .i64 0, .int .i64 0, .int .i64 0, .int .i64 0, .int .i64 0, .int .i64 0, .int .i64 0, .int .i64 0, .int .i64 0, .string ⟨#[]⟩, .slice none 0 0] 62) = W2 := ⟨_, rfl⟩
  have hB2 : Below w.heap.size w W2 := by rw [← hW2]; exact ((Below.refl _ w).alloc (Nat.le_refl _) _).alloc (by simp) _
  have hz : W2.heap.size = w.heap.size + 2 := by rw [← hW2]; simp
  have hb0 : W2.heap[w.heap.size]? = some (.cells #[.int .i64 r.v, .int .i64 r.kd, .int .i64 r.sg, .int .i64 r.st, .int .i64 r.tr, .int .i64 r.tm, .int .i64 r.la, .int .i64 r.co, .int .i64 r.cn, .int .i64 r.pv, .string r.nm, .slice A r.da.length c] 62 (0, 0)) := by
    rw [← hW2]; exact (Below.heap_alloc _ _ _ (by simp)).trans (heap_alloc_new w _)
  have hb1 : W2.heap[w.heap.size + 1]? = some (.cells #[.int .i64 0, .int .i64 0, .int .i64 0, .int .i64 0, .int .i64 0, .int .i64 0, .int .i64 0, .int .i64 0, .int .i64 0, .int .i64 0, .string ⟨#[]⟩, .slice none 0 0] 62 (0, 0)) := by
    rw [← hW2]; exact (heap_alloc2 _ _ _).trans (heap_alloc_new w _)
  have hv2 := hv.below hB2
  have HRI := Lib.hid (rReadInt_any _ b p hb (by omega) W2 hv2)
  have HRN := Lib.hid (rReadBytes_any _ b p 192 hb hp (by omega) W2 hv2)
  have HRD := Lib.hid (rReadBytes_any _ b p 16384 hb hp (by omega) W2 hv2)
  have HRU := Lib.hid (rReadUint_any _ b p hb (by omega) W2 hv2)
  have H0 := Lib.hid hb0
  have H1 := Lib.hid hb1
  have HW := Lib.hid hW2
  clear hv hd hv2 hb0 hb1 hW2
  by_cases h7 : t = 7
  · subst h7
    have HV := Lib.hid (show rdVal r 7 b p = ({ r with co := (rdInt b p).1 }, (rdInt b p).2) from rfl)
    generalize rdInt b p = y at HRI HV
    obtain ⟨n, q, e⟩ := y
    simp only at HRI HV
    have HPU := rput_any r A r.da.length c 7 n (by omega) (by omega) W2
    rw [val_eq] at HPU
    have HPU := Lib.hid HPU
    clear HRN HRD HRU hlt
    go_enter Tryd.func127, Tryd.ntmps127
    go_wp2_with fail
    rw [HW.out]
    refine HRI.out.mono ?_
    rintro ee wz ⟨rfl, rfl⟩
    go_wp2_with (refine ld_cs (by exact rfl) (by exact rfl) w.heap.size (by exact rfl) #[.int .i64 r.v, .int .i64 r.kd, .int .i64 r.sg, .int .i64 r.st, .int .i64 r.tr, .int .i64 r.tm, .int .i64 r.la, .int .i64 r.co, .int .i64 r.cn, .int .i64 r.pv, .string r.nm, .slice A r.da.length c] rfl (by exact H0.out) ?_)
    refine HPU.out.mono ?_
    rintro ee w5 ⟨rfl, hb5⟩
    have H15 := Lib.hid ((hb5.block (w.heap.size + 1) (by omega)).trans H1.out)
    have HB5 := Lib.hid (hB2.trans (hb5.mono (by omega)))
    clear hb5
    go_wp2_with (refine st_cs (by exact rfl) (by exact rfl) (w.heap.size + 1) (by exact rfl) ((r.put 7 n).cells (.slice A r.da.length c)) #[.int .i64 0, .int .i64 0, .int .i64 0, .int .i64 0, .int .i64 0, .int .i64 0, .int .i64 0, .int .i64 0, .int .i64 0, .int .i64 0, .string ⟨#[]⟩, .slice none 0 0] (by exact rfl) rfl rfl (by exact rec_one _ _ _ _) (by exact H15.out) ?_)
    refine bodyPost_ret (results_cell2 rfl _ _ _ (w.heap.size + 1) ((r.put 7 n).cells (.slice A r.da.length c)) rfl (ld_box (setRow_box _ _ _ _ H15.out) rfl)) rfl (by exact ⟨_, by rw [HV.out]; rfl, .inl ⟨rfl, by omega⟩, HB5.out.grown (grownBy_setRow _ _ _) HB5.out.size (fun k e => by injection e with e; omega)⟩)
  · have e7 : ((t : Int) == 7) = false := by rw [beq_eq_false_iff_ne]; omega
    by_cases h10 : t = 10
    · subst h10
      have HV := Lib.hid (show rdVal r 10 b p = ({ r with nm := ⟨(rdBy b p 192).1.toArray⟩ }, (rdBy b p 192).2) from rfl)
      generalize rdBy b p 192 = y at HRN HV
      obtain ⟨n, q, e⟩ := y
      simp only at HRN HV
      clear HRI HRD HRU hlt e7
      go_enter Tryd.func127, Tryd.ntmps127
      go_wp2_with fail
      rw [HW.out]
      refine HRN.out.mono ?_
      rintro ee w1 ⟨v1, rfl, hO, hb1⟩
      simp only at hO
      have hcv := conv_bs hO.bs
      have hbox := (hb1.block w.heap.size (by omega)).trans H0.out
      have hbox1 := (hb1.block (w.heap.size + 1) (by omega)).trans H1.out
      obtain ⟨⟨u, hu⟩, hfz, hset⟩ := box_set (r := r) (dv := .slice A r.da.length c) hbox (t := 10) (by omega) (cells_nm r (.slice A r.da.length c) ⟨n.toArray⟩)
      have hset : (w1.setCell ⟨w.heap.size, 10, none⟩ (.string ⟨n.toArray⟩)).heap[w.heap.size]? = some (.cells #[.int .i64 r.v, .int .i64 r.kd, .int .i64 r.sg, .int .i64 r.st, .int .i64 r.tr, .int .i64 r.tm, .int .i64 r.la, .int .i64 r.co, .int .i64 r.cn, .int .i64 r.pv, .string ⟨n.toArray⟩, .slice A r.da.length c] 62 (0, 0)) := hset
      obtain ⟨w3, hw3⟩ : ∃ w3, w1.setCell ⟨w.heap.size, 10, none⟩ (.string ⟨n.toArray⟩) = w3 := ⟨_, rfl⟩
      have hkp : Kp w1 w3 (fun k => k = w.heap.size) := by rw [← hw3]; exact Kp.set _ _
      have H13 := Lib.hid ((hkp.block (w.heap.size + 1) (Array.getElem?_eq_some_iff.1 hbox1).1 (by omega)).trans hbox1)
      have hb12 := hB2.trans (hb1.mono (by omega))
      have HB3 := Lib.hid (hb12.trans (hkp.below (T := w.heap.size) hb12.size (fun k e => by omega)))
      rw [hw3] at hset
      have HS := Lib.hid hset
      have HW3 := Lib.hid hw3
      obtain ⟨Av, cv, rfl⟩ := hO.slice
      clear hset hbox hO hb1 hb12 hkp hbox1 hw3
      go_wp2_with (first
        | (rw [HW3.out]; refine ld_cs (by exact rfl) (by exact rfl) w.heap.size (by exact rfl) #[.int .i64 r.v, .int .i64 r.kd, .int .i64 r.sg, .int .i64 r.st, .int .i64 r.tr, .int .i64 r.tm, .int .i64 r.la, .int .i64 r.co, .int .i64 r.cn, .int .i64 r.pv, .string ⟨n.toArray⟩, .slice A r.da.length c] rfl (by exact HS.out) ?_)
        | (refine st_cs (by exact rfl) (by exact rfl) (w.heap.size + 1) (by exact rfl) #[.int .i64 r.v, .int .i64 r.kd, .int .i64 r.sg, .int .i64 r.st, .int .i64 r.tr, .int .i64 r.tm, .int .i64 r.la, .int .i64 r.co, .int .i64 r.cn, .int .i64 r.pv, .string ⟨n.toArray⟩, .slice A r.da.length c] #[.int .i64 0, .int .i64 0, .int .i64 0, .int .i64 0, .int .i64 0, .int .i64 0, .int .i64 0, .int .i64 0, .int .i64 0, .int .i64 0, .string ⟨#[]⟩, .slice none 0 0] (by exact rfl) rfl rfl (by simp [Value.oneCell']) (by exact H13.out) ?_))
      refine bodyPost_ret (results_cell2 rfl _ _ _ (w.heap.size + 1) #[.int .i64 r.v, .int .i64 r.kd, .int .i64 r.sg, .int .i64 r.st, .int .i64 r.tr, .int .i64 r.tm, .int .i64 r.la, .int .i64 r.co, .int .i64 r.cn, .int .i64 r.pv, .string ⟨n.toArray⟩, .slice A r.da.length c] rfl (ld_box (setRow_box _ _ _ _ H13.out) rfl)) rfl (by exact ⟨_, by rw [HV.out]; rfl, .inl ⟨rfl, by omega⟩, HB3.out.grown (grownBy_setRow _ _ _) HB3.out.size (fun k e => by injection e with e; omega)⟩)
    · have e10 : ((t : Int) == 10) = false := by rw [beq_eq_false_iff_ne]; omega
      by_cases h11' : t = 11
      · subst h11'
        have HV := Lib.hid (show rdVal r 11 b p = ({ r with da := (rdBy b p 16384).1 }, (rdBy b p 16384).2) from rfl)
        generalize rdBy b p 16384 = y at HRD HV
        obtain ⟨n, q, e⟩ := y
        simp only at HRD HV
        clear HRI HRN HRU hlt e7 e10
        go_enter Tryd.func127, Tryd.ntmps127
        go_wp2_with fail
        rw [HW.out]
        refine HRD.out.mono ?_
        rintro ee w1 ⟨v1, rfl, hO, hb1⟩
        simp only at hO
        have hbox := (hb1.block w.heap.size (by omega)).trans H0.out
        have hbox1 := (hb1.block (w.heap.size + 1) (by omega)).trans H1.out
        obtain ⟨Av, cv, rfl⟩ := hO.slice
        obtain ⟨⟨u, hu⟩, hfz, hset⟩ := box_set (r := r) (dv := .slice A r.da.length c) hbox (t := 11) (by omega) (cells_da r (.slice A r.da.length c) (.slice Av n.length cv) n)
        have hset : (w1.setCell ⟨w.heap.size, 11, none⟩ (.slice Av n.length cv)).heap[w.heap.size]? = some (.cells #[.int .i64 r.v, .int .i64 r.kd, .int .i64 r.sg, .int .i64 r.st, .int .i64 r.tr, .int .i64 r.tm, .int .i64 r.la, .int .i64 r.co, .int .i64 r.cn, .int .i64 r.pv, .string r.nm, .slice Av n.length cv] 62 (0, 0)) := hset
        obtain ⟨w3, hw3⟩ : ∃ w3, w1.setCell ⟨w.heap.size, 11, none⟩ (.slice Av n.length cv) = w3 := ⟨_, rfl⟩
        have hkp : Kp w1 w3 (fun k => k = w.heap.size) := by rw [← hw3]; exact Kp.set _ _
        have H13 := Lib.hid ((hkp.block (w.heap.size + 1) (Array.getElem?_eq_some_iff.1 hbox1).1 (by omega)).trans hbox1)
        have hb12 := hB2.trans (hb1.mono (by omega))
        have HB3 := Lib.hid (hb12.trans (hkp.below (T := w.heap.size) hb12.size (fun k e => by omega)))
        have hO3 : Ob w3 (w.heap.size + 2) (.slice Av n.length cv) n := by rw [← hz]; exact own_kp hO hkp (fun j hj e => by have := (hO.lt j hj).1; omega)
        have HO3 := Lib.hid hO3
        rw [hw3] at hset
        have HS := Lib.hid hset
        have HW3 := Lib.hid hw3
        clear hset hbox hO hb1 hb12 hkp hbox1 hw3 hO3
        go_wp2_with (first
          | (rw [HW3.out]; refine ld_cs (by exact rfl) (by exact rfl) w.heap.size (by exact rfl) #[.int .i64 r.v, .int .i64 r.kd, .int .i64 r.sg, .int .i64 r.st, .int .i64 r.tr, .int .i64 r.tm, .int .i64 r.la, .int .i64 r.co, .int .i64 r.cn, .int .i64 r.pv, .string r.nm, .slice Av n.length cv] rfl (by exact HS.out) ?_)
          | (refine st_cs (by exact rfl) (by exact rfl) (w.heap.size + 1) (by exact rfl) #[.int .i64 r.v, .int .i64 r.kd, .int .i64 r.sg, .int .i64 r.st, .int .i64 r.tr, .int .i64 r.tm, .int .i64 r.la, .int .i64 r.co, .int .i64 r.cn, .int .i64 r.pv, .string r.nm, .slice Av n.length cv] #[.int .i64 0, .int .i64 0, .int .i64 0, .int .i64 0, .int .i64 0, .int .i64 0, .int .i64 0, .int .i64 0, .int .i64 0, .int .i64 0, .string ⟨#[]⟩, .slice none 0 0] (by exact rfl) rfl rfl (by simp [Value.oneCell']) (by exact H13.out) ?_))
        refine bodyPost_ret (results_cell2 rfl _ _ _ (w.heap.size + 1) #[.int .i64 r.v, .int .i64 r.kd, .int .i64 r.sg, .int .i64 r.st, .int .i64 r.tr, .int .i64 r.tm, .int .i64 r.la, .int .i64 r.co, .int .i64 r.cn, .int .i64 r.pv, .string r.nm, .slice Av n.length cv] rfl (ld_box (setRow_box _ _ _ _ H13.out) rfl)) rfl (by exact ⟨.slice Av n.length cv, by rw [HV.out]; rfl, .inr ⟨rfl, by rw [HV.out]; exact own_mono (own_kp HO3.out (Kp.of_grown (grownBy_setRow _ _ _)) (fun j hj e => by have := (HO3.out.lt j hj).1; injection e with e; omega)) (by omega)⟩, HB3.out.grown (grownBy_setRow _ _ _) HB3.out.size (fun k e => by injection e with e; omega)⟩)
      · have e11 : ((t : Int) == 11) = false := by rw [beq_eq_false_iff_ne]; omega
        have HV := Lib.hid (show rdVal r t b p = if (rdU b p).2.2 ≠ 0 then (r, 0, (rdU b p).2.2) else if 9223372036854775807 < (rdU b p).1 then (r, 0, 34) else (r.put t (rdU b p).1, (rdU b p).2.1, 0) by unfold rdVal; rw [if_neg h7, if_neg h10, if_neg h11'])
        generalize rdU b p = y at HRU HV hlt
        obtain ⟨n, q, e⟩ := y
        simp only at HRU HV hlt
        clear HRI HRN HRD
        by_cases he : e ≠ 0
        · have HV2 := Lib.hid (HV.out.trans (if_pos he))
          have t1 : (e != 0) = true := by rw [bne_iff_ne]; exact he
          clear he hlt
          go_enter Tryd.func127, Tryd.ntmps127
          go_wp2_with fail
          rw [HW.out]
          refine HRU.out.mono ?_
          rintro ee wz ⟨rfl, rfl⟩
          go_wp2_with (first
            | (refine ld_cs (by exact rfl) (by exact rfl) w.heap.size (by exact rfl) #[.int .i64 r.v, .int .i64 r.kd, .int .i64 r.sg, .int .i64 r.st, .int .i64 r.tr, .int .i64 r.tm, .int .i64 r.la, .int .i64 r.co, .int .i64 r.cn, .int .i64 r.pv, .string r.nm, .slice A r.da.length c] rfl (by exact H0.out) ?_)
            | (refine st_cs (by exact rfl) (by exact rfl) (w.heap.size + 1) (by exact rfl) #[.int .i64 r.v, .int .i64 r.kd, .int .i64 r.sg, .int .i64 r.st, .int .i64 r.tr, .int .i64 r.tm, .int .i64 r.la, .int .i64 r.co, .int .i64 r.cn, .int .i64 r.pv, .string r.nm, .slice A r.da.length c] #[.int .i64 0, .int .i64 0, .int .i64 0, .int .i64 0, .int .i64 0, .int .i64 0, .int .i64 0, .int .i64 0, .int .i64 0, .int .i64 0, .string ⟨#[]⟩, .slice none 0 0] (by exact rfl) rfl rfl (by simp [Value.oneCell']) (by exact H1.out) ?_))
          refine bodyPost_ret (results_cell2 rfl _ _ _ (w.heap.size + 1) #[.int .i64 r.v, .int .i64 r.kd, .int .i64 r.sg, .int .i64 r.st, .int .i64 r.tr, .int .i64 r.tm, .int .i64 r.la, .int .i64 r.co, .int .i64 r.cn, .int .i64 r.pv, .string r.nm, .slice A r.da.length c] rfl (ld_box (setRow_box _ _ _ _ H1.out) rfl)) rfl (by exact ⟨_, by rw [HV2.out]; rfl, .inl ⟨rfl, h11'⟩, hB2.grown (grownBy_setRow _ _ _) hB2.size (fun k e => by injection e with e; omega)⟩)
        · have he0 : e = 0 := Classical.byContradiction he
          subst he0
          have hn := hlt rfl
          have HVa := Lib.hid (HV.out.trans (if_neg he))
          clear he hlt
          by_cases h2 : 9223372036854775807 < n
          · have HV2 := Lib.hid (HVa.out.trans (if_pos h2))
            have t2 : (9223372036854775807 : Int) < (n : Int) := by omega
            clear h2
            go_enter Tryd.func127, Tryd.ntmps127
            go_wp2_with fail
            rw [HW.out]
            refine HRU.out.mono ?_
            rintro ee wz ⟨rfl, rfl⟩
            go_wp2_with (first
              | (refine ld_cs (by exact rfl) (by exact rfl) w.heap.size (by exact rfl) #[.int .i64 r.v, .int .i64 r.kd, .int .i64 r.sg, .int .i64 r.st, .int .i64 r.tr, .int .i64 r.tm, .int .i64 r.la, .int .i64 r.co, .int .i64 r.cn, .int .i64 r.pv, .string r.nm, .slice A r.da.length c] rfl (by exact H0.out) ?_)
              | (refine st_cs (by exact rfl) (by exact rfl) (w.heap.size + 1) (by exact rfl) #[.int .i64 r.v, .int .i64 r.kd, .int .i64 r.sg, .int .i64 r.st, .int .i64 r.tr, .int .i64 r.tm, .int .i64 r.la, .int .i64 r.co, .int .i64 r.cn, .int .i64 r.pv, .string r.nm, .slice A r.da.length c] #[.int .i64 0, .int .i64 0, .int .i64 0, .int .i64 0, .int .i64 0, .int .i64 0, .int .i64 0, .int .i64 0, .int .i64 0, .int .i64 0, .string ⟨#[]⟩, .slice none 0 0] (by exact rfl) rfl rfl (by simp [Value.oneCell']) (by exact H1.out) ?_))
            refine bodyPost_ret (results_cell2 rfl _ _ _ (w.heap.size + 1) #[.int .i64 r.v, .int .i64 r.kd, .int .i64 r.sg, .int .i64 r.st, .int .i64 r.tr, .int .i64 r.tm, .int .i64 r.la, .int .i64 r.co, .int .i64 r.cn, .int .i64 r.pv, .string r.nm, .slice A r.da.length c] rfl (ld_box (setRow_box _ _ _ _ H1.out) rfl)) rfl (by exact ⟨_, by rw [HV2.out]; rfl, .inl ⟨rfl, h11'⟩, hB2.grown (grownBy_setRow _ _ _) hB2.size (fun k e => by injection e with e; omega)⟩)
          · have HV2 := Lib.hid (HVa.out.trans (if_neg h2))
            have t2 : ¬ (9223372036854775807 : Int) < (n : Int) := by omega
            have hw : IntKind.i64.wrap (n : Int) = (n : Int) := by rw [IntKind.wrap_i64]; omega
            have HPU := rput_any r A r.da.length c t n h1 (by omega) W2
            rw [val_eq] at HPU
            have HPU := Lib.hid HPU
            have H11 := Lib.hid h11'
            clear h2 h7 h10 h11'
            go_enter Tryd.func127, Tryd.ntmps127
            go_wp2_with fail
            rw [HW.out]
            refine HRU.out.mono ?_
            rintro ee wz ⟨rfl, rfl⟩
            go_wp2_with (refine ld_cs (by exact rfl) (by exact rfl) w.heap.size (by exact rfl) #[.int .i64 r.v, .int .i64 r.kd, .int .i64 r.sg, .int .i64 r.st, .int .i64 r.tr, .int .i64 r.tm, .int .i64 r.la, .int .i64 r.co, .int .i64 r.cn, .int .i64 r.pv, .string r.nm, .slice A r.da.length c] rfl (by exact H0.out) ?_)
            refine HPU.out.mono ?_
            rintro ee w5 ⟨rfl, hb5⟩
            have H15 := Lib.hid ((hb5.block (w.heap.size + 1) (by omega)).trans H1.out)
            have HB5 := Lib.hid (hB2.trans (hb5.mono (by omega)))
            clear hb5
            go_wp2_with (refine st_cs (by exact rfl) (by exact rfl) (w.heap.size + 1) (by exact rfl) ((r.put t n).cells (.slice A r.da.length c)) #[.int .i64 0, .int .i64 0, .int .i64 0, .int .i64 0, .int .i64 0, .int .i64 0, .int .i64 0, .int .i64 0, .int .i64 0, .int .i64 0, .string ⟨#[]⟩, .slice none 0 0] (by exact rfl) rfl rfl (by exact rec_one _ _ _ _) (by exact H15.out) ?_)
            refine bodyPost_ret (results_cell2 rfl _ _ _ (w.heap.size + 1) ((r.put t n).cells (.slice A r.da.length c)) rfl (ld_box (setRow_box _ _ _ _ H15.out) rfl)) rfl (by exact ⟨_, by rw [HV2.out]; rfl, .inl ⟨rfl, H11.out⟩, HB5.out.grown (grownBy_setRow _ _ _) HB5.out.size (fun k e => by injection e with e; omega)⟩)
end Go.Proofs.YtfmlkagcmkbebaaDoor

/- annalsref3.fields, Decode. -/
namespace Go.Proofs.YtfmlkagcmkbebaaDoor
open Go.RowKit

theorem fldF_fit {b : List UInt8} : ∀ {f t k : Nat} {r : Rc}, r.Fit → (fldF b f t r k).1.Fit
  | 0, t, k, r, h => by
    rw [fldF]
    split
    · exact h
    · split <;> exact h
  | f + 1, t, k, r, h => by
    rw [fldF]
    split
    · split
      · exact h
      · split
        · exact fldF_fit h
        · split
          · exact rdVal_fit h
          · split
            · exact rdVal_fit h
            · exact fldF_fit (rdVal_fit h)
    · exact h
/-- The end of fields: the record's box is answered. -/
theorem fields_end {w wr : World} {y : Rc × Int} {r : Rc} {Ad : Option Addr} {cd : Nat} {c : Int} (hy : y = (r, c)) (hs : w.heap.size + 2 ≤ wr.heap.size) (HO : Ob wr (w.heap.size + 2) (.slice Ad r.da.length cd) r.da) (HB : Below w.heap.size w wr) (cs : Array Value) (hc : cs = r.cells (.slice Ad r.da.length cd)) :
    DecE w y (.returned (.tuple #[.agg cs, .int .i64 c])) (wr.setRow w.heap.size cs) := by
  subst hy
  subst hc
  exact ⟨_, rfl, own_mono (own_kp HO (Kp.of_grown (grownBy_setRow _ _ _)) (fun j hj e => by have := (HO.lt j hj).1; injection e with e; omega)) (by omega), below_setRow HB⟩

set_option maxRecDepth 100000 in
set_option maxHeartbeats 8000000 in
theorem rfields_any (v : Int) (x : Value) (b : List UInt8) (hb : b.length ≤ 1099511627776) (w : World) (hx : Bs w x b) :
    Calls Tryd.prog 117 #[.int .i64 v, x] w (DecE w (fldF b 11 1 (rcV v) 0)) := by
  have HX := Lib.hid hx
  obtain ⟨A, c, rfl, hn, hc, _⟩ := hx.form
  unfold maxLen at hc
  clear hx
  obtain ⟨Y, hY⟩ : ∃ Y, fldF b 11 1 (rcV v) 0 = Y := ⟨_, rfl⟩
  rw [hY]
  have HY := Lib.hid hY
  clear hY
  go_enter Tryd.func117, Tryd.ntmps117
  go_wp2_with (refine st_ncs (by exact rfl) (by exact rfl) (w.heap.size + 1) (by simp) (by exact rfl) #[.int .i64 v, .int .i64 0, .int .i64 0, .int .i64 0, .int .i64 0, .int .i64 0, .int .i64 0, .int .i64 0, .int .i64 0, .int .i64 0, .string ⟨#[]⟩, .slice none 0 0] (by exact rfl) rfl rfl (by simp [Value.oneCell']) ?_)
  obtain ⟨W2, hW2⟩ : ∃ W2, (w.alloc (.cells #[.int .i64 0, .int .i64 0, .int .i64 0, .int .i64 0, .int .i64 0, .int .i64 0, .int .i64 0, .int .i64 0, .int .i64 0, .int .i64 0, .string ⟨#[]⟩, .slice none 0 0] 62)).alloc (.cells #[.int .i64 v, .int .i64 0, .int .i64 0, .int .i64 0, .int .i64 0, .int .i64 0, .int .i64 0, .int .i64 0, .int .i64 0, .int .i64 0, .string ⟨#[]⟩, .slice none 0 0] 62) = W2 := ⟨_, rfl⟩
  have hB2 : Below w.heap.size w W2 := by rw [← hW2]; exact ((Below.refl _ w).alloc (Nat.le_refl _) _).alloc (by simp) _
  have hz : W2.heap.size = w.heap.size + 2 := by rw [← hW2]; simp
  have hb0 : W2.heap[w.heap.size]? = some (.cells #[.int .i64 0, .int .i64 0, .int .i64 0, .int .i64 0, .int .i64 0, .int .i64 0, .int .i64 0, .int .i64 0, .int .i64 0, .int .i64 0, .string ⟨#[]⟩, .slice none 0 0] 62 (0, 0)) := by
    rw [← hW2]; exact (Below.heap_alloc _ _ _ (by simp)).trans (heap_alloc_new w _)
  have hb1 : W2.heap[w.heap.size + 1]? = some (.cells ((rcV v).cells (.slice none 0 0)) 62 (0, 0)) := by
    rw [← hW2]; have := heap_alloc_new (w.alloc (.cells #[.int .i64 0, .int .i64 0, .int .i64 0, .int .i64 0, .int .i64 0, .int .i64 0, .int .i64 0, .int .i64 0, .int .i64 0, .int .i64 0, .string ⟨#[]⟩, .slice none 0 0] 62)) (.cells #[.int .i64 v, .int .i64 0, .int .i64 0, .int .i64 0, .int .i64 0, .int .i64 0, .int .i64 0, .int .i64 0, .int .i64 0, .int .i64 0, .string ⟨#[]⟩, .slice none 0 0] 62); rw [World.size_alloc] at this; exact this
  rw [hW2]
  clear hW2
  go_loopw [7, 8] (fun i tg wr => ∃ (t k : Nat) (r : Rc) (dv : Value), 1 ≤ t ∧ t ≤ 12 ∧ k ≤ b.length ∧ i = .int .i64 (k : Int) ∧ tg = .int .i64 (t : Int) ∧ Hid (fldF b 11 1 (rcV v) 0 = fldF b (12 - t) t r k) ∧
    wr.heap[w.heap.size]? = some (.cells #[.int .i64 0, .int .i64 0, .int .i64 0, .int .i64 0, .int .i64 0, .int .i64 0, .int .i64 0, .int .i64 0, .int .i64 0, .int .i64 0, .string ⟨#[]⟩, .slice none 0 0] 62 (0, 0)) ∧ wr.heap[w.heap.size + 1]? = some (.cells (r.cells dv) 62 (0, 0)) ∧ Ob wr (w.heap.size + 2) dv r.da ∧ Below w.heap.size w wr ∧ w.heap.size + 2 ≤ wr.heap.size) (fun _ tg _ => 12 - (intOf tg).toNat)
  case atStart => exact ⟨1, 0, rcV v, .slice none 0 0, by omega, by omega, by omega, rfl, rfl, Lib.hid rfl, hb0, hb1, Ob.nil _ _, hB2, by omega⟩
  case round =>
    obtain ⟨t, k, r, dv, ht1, ht12, hk, rfl, rfl, HF, hz0, hz1, HO, HB, hsz⟩ := hrel
    clear hb0 hb1 hB2 hz
    obtain ⟨Ad, cd, rfl⟩ := HO.slice
    have H0 := Lib.hid hz0
    have H1 := Lib.hid hz1
    clear hz0 hz1
    have HRU := Lib.hid (rReadUint_any _ b k hb (by omega) wr (HX.out.below HB))
    have hend := rdU_end (b := b) (p := k)
    have hlt64 := rdU_lt (b := b) (p := k)
    obtain ⟨y, hy⟩ : ∃ y, rdU b k = y := ⟨_, rfl⟩
    rw [hy] at HRU hend hlt64
    obtain ⟨n, p, e⟩ := y
    simp only at HRU hend hlt64
    by_cases hin : t ≤ 11 ∧ k < b.length
    · obtain ⟨ht11, hlt⟩ := hin
      have hti : (t : Int) ≤ 11 := by omega
      have hki : (k : Int) < (b.length : Int) := by omega
      by_cases he : e ≠ 0
      · have HV := Lib.hid (show Y = (r, e) by rw [← HY.out, HF.out, fldF_err hlt (by rw [hy]) he])
        have t1 : (e != 0) = true := by rw [bne_iff_ne]; exact he
        clear hy hend hlt64 he hlt
        go_wp2_with fail
        refine HRU.out.mono ?_
        rintro ee wz ⟨rfl, rfl⟩
        go_wp2_with (first
          | (refine ld_cs (by exact rfl) (by exact rfl) (w.heap.size + 1) (by exact rfl) #[.int .i64 r.v, .int .i64 r.kd, .int .i64 r.sg, .int .i64 r.st, .int .i64 r.tr, .int .i64 r.tm, .int .i64 r.la, .int .i64 r.co, .int .i64 r.cn, .int .i64 r.pv, .string r.nm, .slice Ad r.da.length cd] rfl (by exact H1.out) ?_)
          | (refine st_cs (by exact rfl) (by exact rfl) w.heap.size (by exact rfl) #[.int .i64 r.v, .int .i64 r.kd, .int .i64 r.sg, .int .i64 r.st, .int .i64 r.tr, .int .i64 r.tm, .int .i64 r.la, .int .i64 r.co, .int .i64 r.cn, .int .i64 r.pv, .string r.nm, .slice Ad r.da.length cd] #[.int .i64 0, .int .i64 0, .int .i64 0, .int .i64 0, .int .i64 0, .int .i64 0, .int .i64 0, .int .i64 0, .int .i64 0, .int .i64 0, .string ⟨#[]⟩, .slice none 0 0] (by exact rfl) rfl rfl (by simp [Value.oneCell']) (by exact H0.out) ?_))
        try simp only [Exit.inBlock, Exit.then]
        refine bodyPost_ret (results_cell1 rfl _ _ _ w.heap.size #[.int .i64 r.v, .int .i64 r.kd, .int .i64 r.sg, .int .i64 r.st, .int .i64 r.tr, .int .i64 r.tm, .int .i64 r.la, .int .i64 r.co, .int .i64 r.cn, .int .i64 r.pv, .string r.nm, .slice Ad r.da.length cd] rfl (ld_box (setRow_box _ _ _ _ H0.out) rfl)) rfl (by exact fields_end HV.out hsz HO HB _ rfl)
      · have he0 : e = 0 := Classical.byContradiction he
        subst he0
        obtain ⟨hp1, hp2⟩ := hend rfl
        have hn64 := hlt64 rfl
        clear he hend hlt64
        have hft : fldF b (12 - t) t r k = if n ≠ t then fldF b (12 - (t + 1)) (t + 1) r k else if (rdVal r t b p).2.2 ≠ 0 then ((rdVal r t b p).1, (rdVal r t b p).2.2) else if zeroB (rdVal r t b p).1 t then ((rdVal r t b p).1, 38) else fldF b (12 - (t + 1)) (t + 1) (rdVal r t b p).1 (rdVal r t b p).2.1 := by
          rw [show 12 - t = (12 - (t + 1)) + 1 by omega, fldF, if_pos hlt, hy, if_neg (by simp)]
        have HFT := Lib.hid (HF.out.trans hft)
        clear hft hy
        by_cases hnt : n ≠ t
        · have HF2 := Lib.hid (HFT.out.trans (if_pos hnt))
          have hni : ((n : Int) != (t : Int)) = true := by rw [bne_iff_ne]; omega
          clear hnt hlt
          go_wp2_with fail
          refine HRU.out.mono ?_
          rintro ee wz ⟨rfl, rfl⟩
          go_wp2_with fail
          go_roundw
          case rel => exact ⟨t + 1, k, r, _, by omega, by omega, hk, rfl, by go_num, HF2.out, H0.out, H1.out, HO, HB, hsz⟩
          case measure => simp [intOf]; omega
        · have hnt0 : n = t := Classical.byContradiction hnt
          have HF2 := Lib.hid (HFT.out.trans (if_neg hnt))
          subst hnt0
          have HVA := rread_any r (.slice Ad r.da.length cd) (.slice A b.length c) n b p ht1 ht11 hb hp2 wr HO.bs (HX.out.below HB)
          rw [val_eq] at HVA
          have HVA := Lib.hid HVA
          have hda := fun h : n ≠ 11 => rdVal_da (r := r) (p := p) (b := b) h
          have hvis := fun (s : Rc) (q : Nat) (h : rdVal r n b p = (s, q, 0)) => (rdVal_is ht1 ht11 h).2.2.2.1
          obtain ⟨y, hyv⟩ : ∃ y, rdVal r n b p = y := ⟨_, rfl⟩
          rw [hyv] at HF2 HVA hvis hda
          obtain ⟨s, q, e⟩ := y
          simp only at HF2 hvis hda
          have HD5 := fun (w5 : World) (dv' : Value) (hvd : (dv' = .slice Ad r.da.length cd ∧ n ≠ 11) ∨ (n = 11 ∧ Ob w5 wr.heap.size dv' s.da)) (hb5 : Below wr.heap.size wr w5) => show Ob w5 (w.heap.size + 2) dv' s.da from by
            rcases hvd with ⟨rfl, h⟩ | ⟨_, h⟩
            · rw [hda h]; exact HO.below hb5
            · exact own_mono h hsz
          have HD5 := Lib.hid HD5
          clear hyv hnt HFT hda
          by_cases he : e ≠ 0
          · have HV := Lib.hid (show Y = (s, e) by rw [← HY.out, HF2.out, if_pos he])
            have t1 : (e != 0) = true := by rw [bne_iff_ne]; exact he
            clear he hvis hlt
            go_wp2_with fail
            refine HRU.out.mono ?_
            rintro ee wz ⟨rfl, rfl⟩
            go_wp2_with (refine ld_cs (by exact rfl) (by exact rfl) (w.heap.size + 1) (by exact rfl) #[.int .i64 r.v, .int .i64 r.kd, .int .i64 r.sg, .int .i64 r.st, .int .i64 r.tr, .int .i64 r.tm, .int .i64 r.la, .int .i64 r.co, .int .i64 r.cn, .int .i64 r.pv, .string r.nm, .slice Ad r.da.length cd] rfl (by exact H1.out) ?_)
            refine HVA.out.mono ?_
            rintro ee w5 ⟨dv', rfl, hvd, hb5⟩
            have hO5 := HD5.out w5 dv' hvd hb5
            obtain ⟨As, cs, rfl⟩ := hO5.slice
            have g0 := (hb5.block w.heap.size (by omega)).trans H0.out
            have g1 := (hb5.block (w.heap.size + 1) (by omega)).trans H1.out
            have gB := HB.trans (hb5.mono HB.size)
            obtain ⟨w6, hw6⟩ : ∃ w6, w5.setRow (w.heap.size + 1) #[.int .i64 s.v, .int .i64 s.kd, .int .i64 s.sg, .int .i64 s.st, .int .i64 s.tr, .int .i64 s.tm, .int .i64 s.la, .int .i64 s.co, .int .i64 s.cn, .int .i64 s.pv, .string s.nm, .slice As s.da.length cs] = w6 := ⟨_, rfl⟩
            have hk6 : Kp w5 w6 (fun k => k = w.heap.size + 1) := by rw [← hw6]; exact (Kp.of_grown (grownBy_setRow _ _ _)).mono (fun k e => by injection e)
            have g16 : w6.heap[w.heap.size + 1]? = some (.cells #[.int .i64 s.v, .int .i64 s.kd, .int .i64 s.sg, .int .i64 s.st, .int .i64 s.tr, .int .i64 s.tm, .int .i64 s.la, .int .i64 s.co, .int .i64 s.cn, .int .i64 s.pv, .string s.nm, .slice As s.da.length cs] 62 (0, 0)) := by rw [← hw6]; exact setRow_box _ _ _ _ g1
            have G06 := Lib.hid ((hk6.block w.heap.size (by have := hb5.size; omega) (by omega)).trans g0)
            have G16 := Lib.hid g16
            have G1 := Lib.hid g1
            have GB6 := Lib.hid (gB.trans (hk6.below (T := w.heap.size) gB.size (fun k e => by omega)))
            have GO6 := Lib.hid (show Ob w6 (w.heap.size + 2) (.slice As s.da.length cs) s.da from own_kp hO5 hk6 (fun j hj e => by have := (hO5.lt j hj).1; omega))
            have HW6 := Lib.hid hw6
            have gs6 : w.heap.size + 2 ≤ w6.heap.size := by have := hb5.size; have := hk6.size; omega
            clear g0 g1 gB hk6 g16 hw6 hO5 hvd hb5
            go_wp2_with (first
              | (refine st_cs (by exact rfl) (by exact rfl) (w.heap.size + 1) (by exact rfl) #[.int .i64 s.v, .int .i64 s.kd, .int .i64 s.sg, .int .i64 s.st, .int .i64 s.tr, .int .i64 s.tm, .int .i64 s.la, .int .i64 s.co, .int .i64 s.cn, .int .i64 s.pv, .string s.nm, .slice As s.da.length cs] ((r.cells (.slice Ad r.da.length cd))) (by exact rfl) rfl rfl (by simp [Value.oneCell']) (by exact G1.out) ?_; rw [HW6.out])
              | (refine ld_cs (by exact rfl) (by exact rfl) (w.heap.size + 1) (by exact rfl) #[.int .i64 s.v, .int .i64 s.kd, .int .i64 s.sg, .int .i64 s.st, .int .i64 s.tr, .int .i64 s.tm, .int .i64 s.la, .int .i64 s.co, .int .i64 s.cn, .int .i64 s.pv, .string s.nm, .slice As s.da.length cs] rfl (by exact G16.out) ?_)
              | (refine st_cs (by exact rfl) (by exact rfl) w.heap.size (by exact rfl) #[.int .i64 s.v, .int .i64 s.kd, .int .i64 s.sg, .int .i64 s.st, .int .i64 s.tr, .int .i64 s.tm, .int .i64 s.la, .int .i64 s.co, .int .i64 s.cn, .int .i64 s.pv, .string s.nm, .slice As s.da.length cs] #[.int .i64 0, .int .i64 0, .int .i64 0, .int .i64 0, .int .i64 0, .int .i64 0, .int .i64 0, .int .i64 0, .int .i64 0, .int .i64 0, .string ⟨#[]⟩, .slice none 0 0] (by exact rfl) rfl rfl (by simp [Value.oneCell']) (by exact G06.out) ?_))
            try simp only [Exit.inBlock, Exit.then]
            refine bodyPost_ret (results_cell1 rfl _ _ _ w.heap.size #[.int .i64 s.v, .int .i64 s.kd, .int .i64 s.sg, .int .i64 s.st, .int .i64 s.tr, .int .i64 s.tm, .int .i64 s.la, .int .i64 s.co, .int .i64 s.cn, .int .i64 s.pv, .string s.nm, .slice As s.da.length cs] rfl (ld_box (setRow_box _ _ _ _ G06.out) rfl)) rfl (by exact fields_end HV.out gs6 GO6.out GB6.out _ rfl)
          · have he0 : e = 0 := Classical.byContradiction he
            subst he0
            have hq := hvis s q rfl
            have HF3 := Lib.hid (HF2.out.trans (if_neg he))
            clear he hvis hlt HF2
            obtain ⟨zz, hzz⟩ : ∃ zz, zeroB s n = zz := ⟨_, rfl⟩
            have HZA := fun (w6 : World) (As : Option Addr) (cs : Nat) (hO : Ob w6 (w.heap.size + 2) (.slice As s.da.length cs) s.da) => (by
              have := rzero_any s (.slice As s.da.length cs) n ht1 ht11 w6 hO.bs
              rw [val_eq, hzz] at this; exact this :
              Calls Tryd.prog 64 #[.agg #[.int .i64 s.v, .int .i64 s.kd, .int .i64 s.sg, .int .i64 s.st, .int .i64 s.tr, .int .i64 s.tm, .int .i64 s.la, .int .i64 s.co, .int .i64 s.cn, .int .i64 s.pv, .string s.nm, .slice As s.da.length cs], .int .i64 (n : Int)] w6 fun e w' => e = .returned (.bool zz) ∧ Below w6.heap.size w6 w')
            have HZA := Lib.hid HZA
            cases zz with
            | true =>
              have HV := Lib.hid (show Y = (s, 38) by rw [← HY.out, HF3.out, if_pos hzz])
              clear hzz
              go_wp2_with fail
              refine HRU.out.mono ?_
              rintro ee wz ⟨rfl, rfl⟩
              go_wp2_with (refine ld_cs (by exact rfl) (by exact rfl) (w.heap.size + 1) (by exact rfl) #[.int .i64 r.v, .int .i64 r.kd, .int .i64 r.sg, .int .i64 r.st, .int .i64 r.tr, .int .i64 r.tm, .int .i64 r.la, .int .i64 r.co, .int .i64 r.cn, .int .i64 r.pv, .string r.nm, .slice Ad r.da.length cd] rfl (by exact H1.out) ?_)
              refine HVA.out.mono ?_
              rintro ee w5 ⟨dv', rfl, hvd, hb5⟩
              have hO5 := HD5.out w5 dv' hvd hb5
              obtain ⟨As, cs, rfl⟩ := hO5.slice
              have g0 := (hb5.block w.heap.size (by omega)).trans H0.out
              have g1 := (hb5.block (w.heap.size + 1) (by omega)).trans H1.out
              have gB := HB.trans (hb5.mono HB.size)
              obtain ⟨w6, hw6⟩ : ∃ w6, w5.setRow (w.heap.size + 1) #[.int .i64 s.v, .int .i64 s.kd, .int .i64 s.sg, .int .i64 s.st, .int .i64 s.tr, .int .i64 s.tm, .int .i64 s.la, .int .i64 s.co, .int .i64 s.cn, .int .i64 s.pv, .string s.nm, .slice As s.da.length cs] = w6 := ⟨_, rfl⟩
              have hk6 : Kp w5 w6 (fun k => k = w.heap.size + 1) := by rw [← hw6]; exact (Kp.of_grown (grownBy_setRow _ _ _)).mono (fun k e => by injection e)
              have g16 : w6.heap[w.heap.size + 1]? = some (.cells #[.int .i64 s.v, .int .i64 s.kd, .int .i64 s.sg, .int .i64 s.st, .int .i64 s.tr, .int .i64 s.tm, .int .i64 s.la, .int .i64 s.co, .int .i64 s.cn, .int .i64 s.pv, .string s.nm, .slice As s.da.length cs] 62 (0, 0)) := by rw [← hw6]; exact setRow_box _ _ _ _ g1
              have G06 := Lib.hid ((hk6.block w.heap.size (by have := hb5.size; omega) (by omega)).trans g0)
              have G16 := Lib.hid g16
              have G1 := Lib.hid g1
              have GB6 := Lib.hid (gB.trans (hk6.below (T := w.heap.size) gB.size (fun k e => by omega)))
              have GO6 := Lib.hid (show Ob w6 (w.heap.size + 2) (.slice As s.da.length cs) s.da from own_kp hO5 hk6 (fun j hj e => by have := (hO5.lt j hj).1; omega))
              have HW6 := Lib.hid hw6
              have gs6 : w.heap.size + 2 ≤ w6.heap.size := by have := hb5.size; have := hk6.size; omega
              have HZ6 := Lib.hid (HZA.out w6 As cs GO6.out)
              clear g0 g1 gB hk6 g16 hw6 hO5 hvd hb5
              go_wp2_with (first
                | (refine st_cs (by exact rfl) (by exact rfl) (w.heap.size + 1) (by exact rfl) #[.int .i64 s.v, .int .i64 s.kd, .int .i64 s.sg, .int .i64 s.st, .int .i64 s.tr, .int .i64 s.tm, .int .i64 s.la, .int .i64 s.co, .int .i64 s.cn, .int .i64 s.pv, .string s.nm, .slice As s.da.length cs] ((r.cells (.slice Ad r.da.length cd))) (by exact rfl) rfl rfl (by simp [Value.oneCell']) (by exact G1.out) ?_; rw [HW6.out])
                | (refine ld_cs (by exact rfl) (by exact rfl) (w.heap.size + 1) (by exact rfl) #[.int .i64 s.v, .int .i64 s.kd, .int .i64 s.sg, .int .i64 s.st, .int .i64 s.tr, .int .i64 s.tm, .int .i64 s.la, .int .i64 s.co, .int .i64 s.cn, .int .i64 s.pv, .string s.nm, .slice As s.da.length cs] rfl (by exact G16.out) ?_))
              refine HZ6.out.mono ?_
              rintro ee w7 ⟨rfl, hb7⟩
              have G07 := Lib.hid ((hb7.block w.heap.size (by omega)).trans G06.out)
              have G17 := Lib.hid ((hb7.block (w.heap.size + 1) (by omega)).trans G16.out)
              have GB7 := Lib.hid (GB6.out.trans (hb7.mono GB6.out.size))
              have GO7 := Lib.hid (GO6.out.below hb7)
              have gs7 : w.heap.size + 2 ≤ w7.heap.size := by have := hb7.size; omega
              clear hb7
              go_wp2_with (first
                | (refine ld_cs (by exact rfl) (by exact rfl) (w.heap.size + 1) (by exact rfl) #[.int .i64 s.v, .int .i64 s.kd, .int .i64 s.sg, .int .i64 s.st, .int .i64 s.tr, .int .i64 s.tm, .int .i64 s.la, .int .i64 s.co, .int .i64 s.cn, .int .i64 s.pv, .string s.nm, .slice As s.da.length cs] rfl (by exact G17.out) ?_)
                | (refine st_cs (by exact rfl) (by exact rfl) w.heap.size (by exact rfl) #[.int .i64 s.v, .int .i64 s.kd, .int .i64 s.sg, .int .i64 s.st, .int .i64 s.tr, .int .i64 s.tm, .int .i64 s.la, .int .i64 s.co, .int .i64 s.cn, .int .i64 s.pv, .string s.nm, .slice As s.da.length cs] #[.int .i64 0, .int .i64 0, .int .i64 0, .int .i64 0, .int .i64 0, .int .i64 0, .int .i64 0, .int .i64 0, .int .i64 0, .int .i64 0, .string ⟨#[]⟩, .slice none 0 0] (by exact rfl) rfl rfl (by simp [Value.oneCell']) (by exact G07.out) ?_))
              try simp only [Exit.inBlock, Exit.then]
              refine bodyPost_ret (results_cell1 rfl _ _ _ w.heap.size #[.int .i64 s.v, .int .i64 s.kd, .int .i64 s.sg, .int .i64 s.st, .int .i64 s.tr, .int .i64 s.tm, .int .i64 s.la, .int .i64 s.co, .int .i64 s.cn, .int .i64 s.pv, .string s.nm, .slice As s.da.length cs] rfl (ld_box (setRow_box _ _ _ _ G07.out) rfl)) rfl (by exact fields_end HV.out gs7 GO7.out GB7.out _ rfl)
            | false =>
              have HF4 := Lib.hid (HF3.out.trans (if_neg (by rw [hzz]; simp)))
              clear hzz
              go_wp2_with fail
              refine HRU.out.mono ?_
              rintro ee wz ⟨rfl, rfl⟩
              go_wp2_with (refine ld_cs (by exact rfl) (by exact rfl) (w.heap.size + 1) (by exact rfl) #[.int .i64 r.v, .int .i64 r.kd, .int .i64 r.sg, .int .i64 r.st, .int .i64 r.tr, .int .i64 r.tm, .int .i64 r.la, .int .i64 r.co, .int .i64 r.cn, .int .i64 r.pv, .string r.nm, .slice Ad r.da.length cd] rfl (by exact H1.out) ?_)
              refine HVA.out.mono ?_
              rintro ee w5 ⟨dv', rfl, hvd, hb5⟩
              have hO5 := HD5.out w5 dv' hvd hb5
              obtain ⟨As, cs, rfl⟩ := hO5.slice
              have g0 := (hb5.block w.heap.size (by omega)).trans H0.out
              have g1 := (hb5.block (w.heap.size + 1) (by omega)).trans H1.out
              have gB := HB.trans (hb5.mono HB.size)
              obtain ⟨w6, hw6⟩ : ∃ w6, w5.setRow (w.heap.size + 1) #[.int .i64 s.v, .int .i64 s.kd, .int .i64 s.sg, .int .i64 s.st, .int .i64 s.tr, .int .i64 s.tm, .int .i64 s.la, .int .i64 s.co, .int .i64 s.cn, .int .i64 s.pv, .string s.nm, .slice As s.da.length cs] = w6 := ⟨_, rfl⟩
              have hk6 : Kp w5 w6 (fun k => k = w.heap.size + 1) := by rw [← hw6]; exact (Kp.of_grown (grownBy_setRow _ _ _)).mono (fun k e => by injection e)
              have g16 : w6.heap[w.heap.size + 1]? = some (.cells #[.int .i64 s.v, .int .i64 s.kd, .int .i64 s.sg, .int .i64 s.st, .int .i64 s.tr, .int .i64 s.tm, .int .i64 s.la, .int .i64 s.co, .int .i64 s.cn, .int .i64 s.pv, .string s.nm, .slice As s.da.length cs] 62 (0, 0)) := by rw [← hw6]; exact setRow_box _ _ _ _ g1
              have G06 := Lib.hid ((hk6.block w.heap.size (by have := hb5.size; omega) (by omega)).trans g0)
              have G16 := Lib.hid g16
              have G1 := Lib.hid g1
              have GB6 := Lib.hid (gB.trans (hk6.below (T := w.heap.size) gB.size (fun k e => by omega)))
              have GO6 := Lib.hid (show Ob w6 (w.heap.size + 2) (.slice As s.da.length cs) s.da from own_kp hO5 hk6 (fun j hj e => by have := (hO5.lt j hj).1; omega))
              have HW6 := Lib.hid hw6
              have gs6 : w.heap.size + 2 ≤ w6.heap.size := by have := hb5.size; have := hk6.size; omega
              have HZ6 := Lib.hid (HZA.out w6 As cs GO6.out)
              clear g0 g1 gB hk6 g16 hw6 hO5 hvd hb5
              go_wp2_with (first
                | (refine st_cs (by exact rfl) (by exact rfl) (w.heap.size + 1) (by exact rfl) #[.int .i64 s.v, .int .i64 s.kd, .int .i64 s.sg, .int .i64 s.st, .int .i64 s.tr, .int .i64 s.tm, .int .i64 s.la, .int .i64 s.co, .int .i64 s.cn, .int .i64 s.pv, .string s.nm, .slice As s.da.length cs] ((r.cells (.slice Ad r.da.length cd))) (by exact rfl) rfl rfl (by simp [Value.oneCell']) (by exact G1.out) ?_; rw [HW6.out])
                | (refine ld_cs (by exact rfl) (by exact rfl) (w.heap.size + 1) (by exact rfl) #[.int .i64 s.v, .int .i64 s.kd, .int .i64 s.sg, .int .i64 s.st, .int .i64 s.tr, .int .i64 s.tm, .int .i64 s.la, .int .i64 s.co, .int .i64 s.cn, .int .i64 s.pv, .string s.nm, .slice As s.da.length cs] rfl (by exact G16.out) ?_))
              refine HZ6.out.mono ?_
              rintro ee w7 ⟨rfl, hb7⟩
              have G07 := Lib.hid ((hb7.block w.heap.size (by omega)).trans G06.out)
              have G17 := Lib.hid ((hb7.block (w.heap.size + 1) (by omega)).trans G16.out)
              have GB7 := Lib.hid (GB6.out.trans (hb7.mono GB6.out.size))
              have GO7 := Lib.hid (GO6.out.below hb7)
              have gs7 : w.heap.size + 2 ≤ w7.heap.size := by have := hb7.size; omega
              clear hb7
              go_wp2_with fail
              go_roundw
              case rel => exact ⟨n + 1, q, s, _, by omega, by omega, hq, rfl, by go_num, HF4.out, G07.out, G17.out, GO7.out, GB7.out, gs7⟩
              case measure => simp [intOf]; omega
    · by_cases hkl : k = b.length
      · have HV := Lib.hid (show Y = (r, 0) by rw [← HY.out, HF.out, hkl, fldF_end])
        have hki : ¬ (k : Int) < (b.length : Int) := by omega
        have hke : ((k : Int) == (b.length : Int)) = true := by rw [beq_iff_eq]; omega
        clear hkl hin hy hend hlt64
        by_cases ht : t ≤ 11
        all_goals first | (have hti : (t : Int) ≤ 11 := by omega) | (have hti : ¬ (t : Int) ≤ 11 := by omega)
        all_goals
          go_wp2_with (first
            | (refine ld_cs (by exact rfl) (by exact rfl) (w.heap.size + 1) (by exact rfl) #[.int .i64 r.v, .int .i64 r.kd, .int .i64 r.sg, .int .i64 r.st, .int .i64 r.tr, .int .i64 r.tm, .int .i64 r.la, .int .i64 r.co, .int .i64 r.cn, .int .i64 r.pv, .string r.nm, .slice Ad r.da.length cd] rfl (by exact H1.out) ?_)
            | (refine st_cs (by exact rfl) (by exact rfl) w.heap.size (by exact rfl) #[.int .i64 r.v, .int .i64 r.kd, .int .i64 r.sg, .int .i64 r.st, .int .i64 r.tr, .int .i64 r.tm, .int .i64 r.la, .int .i64 r.co, .int .i64 r.cn, .int .i64 r.pv, .string r.nm, .slice Ad r.da.length cd] #[.int .i64 0, .int .i64 0, .int .i64 0, .int .i64 0, .int .i64 0, .int .i64 0, .int .i64 0, .int .i64 0, .int .i64 0, .int .i64 0, .string ⟨#[]⟩, .slice none 0 0] (by exact rfl) rfl rfl (by simp [Value.oneCell']) (by exact H0.out) ?_))
          try simp only [Exit.inBlock, Exit.then]
          refine bodyPost_ret (results_cell1 rfl _ _ _ w.heap.size #[.int .i64 r.v, .int .i64 r.kd, .int .i64 r.sg, .int .i64 r.st, .int .i64 r.tr, .int .i64 r.tm, .int .i64 r.la, .int .i64 r.co, .int .i64 r.cn, .int .i64 r.pv, .string r.nm, .slice Ad r.da.length cd] rfl (ld_box (setRow_box _ _ _ _ H0.out) rfl)) rfl (by exact fields_end HV.out hsz HO HB _ rfl)
      · have ht : t = 12 := by omega
        subst ht
        have hke : ((k : Int) == (b.length : Int)) = false := by rw [beq_eq_false_iff_ne]; omega
        have hf0 : fldF b 11 1 (rcV v) 0 = if e ≠ 0 then (r, e) else (r, 37) := by rw [HF.out, fldF, if_neg hkl, hy]
        have HF0 := Lib.hid (HY.out.symm.trans hf0)
        clear hf0 hkl hin hy hend hlt64
        by_cases he : e ≠ 0
        · have HV := Lib.hid (HF0.out.trans (if_pos he))
          have t1 : (e != 0) = true := by rw [bne_iff_ne]; exact he
          clear he
          go_wp2_with fail
          refine HRU.out.mono ?_
          rintro ee wz ⟨rfl, rfl⟩
          go_wp2_with (first
            | (refine ld_cs (by exact rfl) (by exact rfl) (w.heap.size + 1) (by exact rfl) #[.int .i64 r.v, .int .i64 r.kd, .int .i64 r.sg, .int .i64 r.st, .int .i64 r.tr, .int .i64 r.tm, .int .i64 r.la, .int .i64 r.co, .int .i64 r.cn, .int .i64 r.pv, .string r.nm, .slice Ad r.da.length cd] rfl (by exact H1.out) ?_)
            | (refine st_cs (by exact rfl) (by exact rfl) w.heap.size (by exact rfl) #[.int .i64 r.v, .int .i64 r.kd, .int .i64 r.sg, .int .i64 r.st, .int .i64 r.tr, .int .i64 r.tm, .int .i64 r.la, .int .i64 r.co, .int .i64 r.cn, .int .i64 r.pv, .string r.nm, .slice Ad r.da.length cd] #[.int .i64 0, .int .i64 0, .int .i64 0, .int .i64 0, .int .i64 0, .int .i64 0, .int .i64 0, .int .i64 0, .int .i64 0, .int .i64 0, .string ⟨#[]⟩, .slice none 0 0] (by exact rfl) rfl rfl (by simp [Value.oneCell']) (by exact H0.out) ?_))
          try simp only [Exit.inBlock, Exit.then]
          refine bodyPost_ret (results_cell1 rfl _ _ _ w.heap.size #[.int .i64 r.v, .int .i64 r.kd, .int .i64 r.sg, .int .i64 r.st, .int .i64 r.tr, .int .i64 r.tm, .int .i64 r.la, .int .i64 r.co, .int .i64 r.cn, .int .i64 r.pv, .string r.nm, .slice Ad r.da.length cd] rfl (ld_box (setRow_box _ _ _ _ H0.out) rfl)) rfl (by exact fields_end HV.out hsz HO HB _ rfl)
        · have he0 : e = 0 := Classical.byContradiction he
          have HV := Lib.hid (HF0.out.trans (if_neg he))
          subst he0
          clear he
          go_wp2_with fail
          refine HRU.out.mono ?_
          rintro ee wz ⟨rfl, rfl⟩
          go_wp2_with (first
            | (refine ld_cs (by exact rfl) (by exact rfl) (w.heap.size + 1) (by exact rfl) #[.int .i64 r.v, .int .i64 r.kd, .int .i64 r.sg, .int .i64 r.st, .int .i64 r.tr, .int .i64 r.tm, .int .i64 r.la, .int .i64 r.co, .int .i64 r.cn, .int .i64 r.pv, .string r.nm, .slice Ad r.da.length cd] rfl (by exact H1.out) ?_)
            | (refine st_cs (by exact rfl) (by exact rfl) w.heap.size (by exact rfl) #[.int .i64 r.v, .int .i64 r.kd, .int .i64 r.sg, .int .i64 r.st, .int .i64 r.tr, .int .i64 r.tm, .int .i64 r.la, .int .i64 r.co, .int .i64 r.cn, .int .i64 r.pv, .string r.nm, .slice Ad r.da.length cd] #[.int .i64 0, .int .i64 0, .int .i64 0, .int .i64 0, .int .i64 0, .int .i64 0, .int .i64 0, .int .i64 0, .int .i64 0, .int .i64 0, .string ⟨#[]⟩, .slice none 0 0] (by exact rfl) rfl rfl (by simp [Value.oneCell']) (by exact H0.out) ?_))
          try simp only [Exit.inBlock, Exit.then]
          refine bodyPost_ret (results_cell1 rfl _ _ _ w.heap.size #[.int .i64 r.v, .int .i64 r.kd, .int .i64 r.sg, .int .i64 r.st, .int .i64 r.tr, .int .i64 r.tm, .int .i64 r.la, .int .i64 r.co, .int .i64 r.cn, .int .i64 r.pv, .string r.nm, .slice Ad r.da.length cd] rfl (ld_box (setRow_box _ _ _ _ H0.out) rfl)) rfl (by exact fields_end HV.out hsz HO HB _ rfl)
end Go.Proofs.YtfmlkagcmkbebaaDoor

/- annalsref3.Decode. -/
namespace Go.Proofs.YtfmlkagcmkbebaaDoor
open Go.RowKit

set_option maxRecDepth 100000 in
set_option maxHeartbeats 4000000 in
theorem rDecode_any (v : Int) (x : Value) (b : List UInt8) (hb : b.length ≤ 1099511627776) (w : World) (hT : TabQ w) (hx : Bs w x b) :
    Calls Tryd.prog 89 #[.int .i64 v, x] w (DecE w (decC v b)) := by
  have HT := Lib.hid hT
  have hB1 : Below w.heap.size w (w.alloc (.cells #[.int .i64 0, .int .i64 0, .int .i64 0, .int .i64 0, .int .i64 0, .int .i64 0, .int .i64 0, .int .i64 0, .int .i64 0, .int .i64 0, .string ⟨#[]⟩, .slice none 0 0] 62)) := (Below.refl _ w).alloc (Nat.le_refl _) _
  have hn1 := heap_alloc_new w (.cells #[.int .i64 0, .int .i64 0, .int .i64 0, .int .i64 0, .int .i64 0, .int .i64 0, .int .i64 0, .int .i64 0, .int .i64 0, .int .i64 0, .string ⟨#[]⟩, .slice none 0 0] 62)
  have HFI := Lib.hid (rfields_any v x b hb (w.alloc (.cells #[.int .i64 0, .int .i64 0, .int .i64 0, .int .i64 0, .int .i64 0, .int .i64 0, .int .i64 0, .int .i64 0, .int .i64 0, .int .i64 0, .string ⟨#[]⟩, .slice none 0 0] 62)) (hx.below hB1))
  have hfit := fldF_fit (b := b) (f := 11) (t := 1) (k := 0) (rcV_fit v)
  obtain ⟨A, c, rfl, hn, hc, _⟩ := hx.form
  clear hT hx hc
  by_cases hv : v < 1 ∨ 3 < v
  · have HV := Lib.hid (show decC v b = (rc0, 3) by unfold decC; rw [if_pos hv])
    clear HFI hfit
    by_cases h1 : v < 1
    · clear hv
      go_enter Tryd.func89, Tryd.ntmps89
      go_wp2_with (refine st_cs (by exact rfl) (by exact rfl) w.heap.size (by exact rfl) #[.int .i64 0, .int .i64 0, .int .i64 0, .int .i64 0, .int .i64 0, .int .i64 0, .int .i64 0, .int .i64 0, .int .i64 0, .int .i64 0, .string ⟨#[]⟩, .slice none 0 0] #[.int .i64 0, .int .i64 0, .int .i64 0, .int .i64 0, .int .i64 0, .int .i64 0, .int .i64 0, .int .i64 0, .int .i64 0, .int .i64 0, .string ⟨#[]⟩, .slice none 0 0] (by exact rfl) rfl rfl (by simp [Value.oneCell']) (by exact hn1) ?_)
      refine bodyPost_ret (results_cell1 rfl _ _ _ w.heap.size #[.int .i64 0, .int .i64 0, .int .i64 0, .int .i64 0, .int .i64 0, .int .i64 0, .int .i64 0, .int .i64 0, .int .i64 0, .int .i64 0, .string ⟨#[]⟩, .slice none 0 0] rfl (ld_box (setRow_box _ _ _ _ hn1) rfl)) rfl (by exact DecE.zero HV.out (below_setRow hB1))
    · have h3 : 3 < v := by omega
      clear hv
      go_enter Tryd.func89, Tryd.ntmps89
      go_wp2_with (refine st_cs (by exact rfl) (by exact rfl) w.heap.size (by exact rfl) #[.int .i64 0, .int .i64 0, .int .i64 0, .int .i64 0, .int .i64 0, .int .i64 0, .int .i64 0, .int .i64 0, .int .i64 0, .int .i64 0, .string ⟨#[]⟩, .slice none 0 0] #[.int .i64 0, .int .i64 0, .int .i64 0, .int .i64 0, .int .i64 0, .int .i64 0, .int .i64 0, .int .i64 0, .int .i64 0, .int .i64 0, .string ⟨#[]⟩, .slice none 0 0] (by exact rfl) rfl rfl (by simp [Value.oneCell']) (by exact hn1) ?_)
      refine bodyPost_ret (results_cell1 rfl _ _ _ w.heap.size #[.int .i64 0, .int .i64 0, .int .i64 0, .int .i64 0, .int .i64 0, .int .i64 0, .int .i64 0, .int .i64 0, .int .i64 0, .int .i64 0, .string ⟨#[]⟩, .slice none 0 0] rfl (ld_box (setRow_box _ _ _ _ hn1) rfl)) rfl (by exact DecE.zero HV.out (below_setRow hB1))
  · have h1 : ¬ v < 1 := by omega
    have h3 : ¬ 3 < v := by omega
    have hdc : decC v b = if (fldF b 11 1 (rcV v) 0).2 ≠ 0 then (rc0, (fldF b 11 1 (rcV v) 0).2) else if checkC (fldF b 11 1 (rcV v) 0).1 ≠ 0 then (rc0, checkC (fldF b 11 1 (rcV v) 0).1) else ((fldF b 11 1 (rcV v) 0).1, 0) := by unfold decC; rw [if_neg hv]
    generalize fldF b 11 1 (rcV v) 0 = y at HFI hfit hdc
    obtain ⟨r, e⟩ := y
    simp only at hfit hdc
    have HDC := Lib.hid hdc
    have HFIT := Lib.hid hfit
    obtain ⟨W1, hW1⟩ : ∃ W1, w.alloc (.cells #[.int .i64 0, .int .i64 0, .int .i64 0, .int .i64 0, .int .i64 0, .int .i64 0, .int .i64 0, .int .i64 0, .int .i64 0, .int .i64 0, .string ⟨#[]⟩, .slice none 0 0] 62) = W1 := ⟨_, rfl⟩
    rw [hW1] at HFI hB1 hn1
    have hz1 : W1.heap.size = w.heap.size + 1 := by rw [← hW1]; simp
    have HW1 := Lib.hid hW1
    have H0 := Lib.hid hn1
    clear hv hdc hfit hW1 hn1
    go_enter Tryd.func89, Tryd.ntmps89
    go_wp2_with fail
    rw [HW1.out]
    refine HFI.out.mono ?_
    rintro ee w2 ⟨dv, rfl, hO, hb2⟩
    simp only at hO
    have hs2 := hb2.size
    obtain ⟨Ad, cd, rfl⟩ := hO.slice
    have k0 := (hb2.block w.heap.size (by omega)).trans H0.out
    have hb12 := hB1.trans (hb2.mono (by omega))
    obtain ⟨w3, hw3⟩ : ∃ w3, w2.alloc (.cells #[.int .i64 r.v, .int .i64 r.kd, .int .i64 r.sg, .int .i64 r.st, .int .i64 r.tr, .int .i64 r.tm, .int .i64 r.la, .int .i64 r.co, .int .i64 r.cn, .int .i64 r.pv, .string r.nm, .slice Ad r.da.length cd] 62) = w3 := ⟨_, rfl⟩
    have hal : Below w2.heap.size w2 w3 := by rw [← hw3]; exact (Below.refl _ _).alloc (Nat.le_refl _) _
    have hz3 : w3.heap.size = w2.heap.size + 1 := by rw [← hw3]; simp
    have K1 := Lib.hid (show w3.heap[w2.heap.size]? = some (.cells #[.int .i64 r.v, .int .i64 r.kd, .int .i64 r.sg, .int .i64 r.st, .int .i64 r.tr, .int .i64 r.tm, .int .i64 r.la, .int .i64 r.co, .int .i64 r.cn, .int .i64 r.pv, .string r.nm, .slice Ad r.da.length cd] 62 (0, 0)) by rw [← hw3]; exact heap_alloc_new _ _)
    have K0 := Lib.hid ((hal.block w.heap.size (by omega)).trans k0)
    have HB3 := Lib.hid (hb12.trans (hal.mono (by omega)))
    have hO3 : Ob w3 (w.heap.size + 1) (.slice Ad r.da.length cd) r.da := by rw [← hz1]; exact hO.below hal
    have HCK := rCheck_any r (.slice Ad r.da.length cd) HFIT.out w3 (HT.out.below HB3.out) hO3.bs
    rw [val_eq] at HCK
    have HCK := Lib.hid HCK
    have HO3 := Lib.hid hO3
    have HW3 := Lib.hid hw3
    clear hO hO3 hw3 hal k0 hb12 hb2
    by_cases he : e ≠ 0
    · have HV := Lib.hid (HDC.out.trans (if_pos he))
      have t1 : (e != 0) = true := by rw [bne_iff_ne]; exact he
      have t2 : (e == 0) = false := by rw [beq_eq_false_iff_ne]; exact he
      clear he HCK
      go_wp2_with (first
        | (refine st_ncs (by exact rfl) (by exact rfl) w2.heap.size rfl (by exact rfl) #[.int .i64 r.v, .int .i64 r.kd, .int .i64 r.sg, .int .i64 r.st, .int .i64 r.tr, .int .i64 r.tm, .int .i64 r.la, .int .i64 r.co, .int .i64 r.cn, .int .i64 r.pv, .string r.nm, .slice Ad r.da.length cd] (by exact rfl) rfl rfl (by simp [Value.oneCell']) ?_; rw [HW3.out])
        | (refine st_cs (by exact rfl) (by exact rfl) w.heap.size (by exact rfl) #[.int .i64 0, .int .i64 0, .int .i64 0, .int .i64 0, .int .i64 0, .int .i64 0, .int .i64 0, .int .i64 0, .int .i64 0, .int .i64 0, .string ⟨#[]⟩, .slice none 0 0] #[.int .i64 0, .int .i64 0, .int .i64 0, .int .i64 0, .int .i64 0, .int .i64 0, .int .i64 0, .int .i64 0, .int .i64 0, .int .i64 0, .string ⟨#[]⟩, .slice none 0 0] (by exact rfl) rfl rfl (by simp [Value.oneCell']) (by exact K0.out) ?_))
      refine bodyPost_ret (results_cell1 rfl _ _ _ w.heap.size #[.int .i64 0, .int .i64 0, .int .i64 0, .int .i64 0, .int .i64 0, .int .i64 0, .int .i64 0, .int .i64 0, .int .i64 0, .int .i64 0, .string ⟨#[]⟩, .slice none 0 0] rfl (ld_box (setRow_box _ _ _ _ K0.out) rfl)) rfl (by exact DecE.zero HV.out (below_setRow HB3.out))
    · have he0 : e = 0 := Classical.byContradiction he
      have HDC2 := Lib.hid (HDC.out.trans (if_neg he))
      subst he0
      clear he HDC
      go_wp2_with (first
        | (refine st_ncs (by exact rfl) (by exact rfl) w2.heap.size rfl (by exact rfl) #[.int .i64 r.v, .int .i64 r.kd, .int .i64 r.sg, .int .i64 r.st, .int .i64 r.tr, .int .i64 r.tm, .int .i64 r.la, .int .i64 r.co, .int .i64 r.cn, .int .i64 r.pv, .string r.nm, .slice Ad r.da.length cd] (by exact rfl) rfl rfl (by simp [Value.oneCell']) ?_; rw [HW3.out])
        | (refine ld_cs (by exact rfl) (by exact rfl) w2.heap.size (by exact rfl) #[.int .i64 r.v, .int .i64 r.kd, .int .i64 r.sg, .int .i64 r.st, .int .i64 r.tr, .int .i64 r.tm, .int .i64 r.la, .int .i64 r.co, .int .i64 r.cn, .int .i64 r.pv, .string r.nm, .slice Ad r.da.length cd] rfl (by exact K1.out) ?_))
      refine HCK.out.mono ?_
      rintro ee w5 ⟨rfl, hb5⟩
      have H05 := Lib.hid ((hb5.block w.heap.size (by omega)).trans K0.out)
      have H15 := Lib.hid ((hb5.block w2.heap.size (by omega)).trans K1.out)
      have HB5 := Lib.hid (HB3.out.trans (hb5.mono (by omega)))
      have HO5 := Lib.hid (HO3.out.below hb5)
      clear hb5
      by_cases hck : checkC r = 0
      · have HV := Lib.hid (show decC v b = (r, 0) by rw [HDC2.out, if_neg (by simp only [hck]; simp)])
        rw [hck]
        clear hck
        go_wp2_with (first
          | (refine ld_cs (by exact rfl) (by exact rfl) w2.heap.size (by exact rfl) #[.int .i64 r.v, .int .i64 r.kd, .int .i64 r.sg, .int .i64 r.st, .int .i64 r.tr, .int .i64 r.tm, .int .i64 r.la, .int .i64 r.co, .int .i64 r.cn, .int .i64 r.pv, .string r.nm, .slice Ad r.da.length cd] rfl (by exact H15.out) ?_)
          | (refine st_cs (by exact rfl) (by exact rfl) w.heap.size (by exact rfl) #[.int .i64 r.v, .int .i64 r.kd, .int .i64 r.sg, .int .i64 r.st, .int .i64 r.tr, .int .i64 r.tm, .int .i64 r.la, .int .i64 r.co, .int .i64 r.cn, .int .i64 r.pv, .string r.nm, .slice Ad r.da.length cd] #[.int .i64 0, .int .i64 0, .int .i64 0, .int .i64 0, .int .i64 0, .int .i64 0, .int .i64 0, .int .i64 0, .int .i64 0, .int .i64 0, .string ⟨#[]⟩, .slice none 0 0] (by exact rfl) rfl rfl (by simp [Value.oneCell']) (by exact H05.out) ?_))
        refine bodyPost_ret (results_cell1 rfl _ _ _ w.heap.size #[.int .i64 r.v, .int .i64 r.kd, .int .i64 r.sg, .int .i64 r.st, .int .i64 r.tr, .int .i64 r.tm, .int .i64 r.la, .int .i64 r.co, .int .i64 r.cn, .int .i64 r.pv, .string r.nm, .slice Ad r.da.length cd] rfl (ld_box (setRow_box _ _ _ _ H05.out) rfl)) rfl (by exact ⟨.slice Ad r.da.length cd, by rw [HV.out]; rfl, by rw [HV.out]; exact own_mono (own_kp HO5.out (Kp.of_grown (grownBy_setRow _ _ _)) (fun j hj e => by have := (HO5.out.lt j hj).1; injection e with e; omega)) (by omega), below_setRow HB5.out⟩)
      · have HV := Lib.hid (HDC2.out.trans (if_pos hck))
        have t1 : (checkC r != 0) = true := by rw [bne_iff_ne]; exact hck
        clear hck
        generalize checkC r = ck at HV t1
        go_wp2_with (refine st_cs (by exact rfl) (by exact rfl) w.heap.size (by exact rfl) #[.int .i64 0, .int .i64 0, .int .i64 0, .int .i64 0, .int .i64 0, .int .i64 0, .int .i64 0, .int .i64 0, .int .i64 0, .int .i64 0, .string ⟨#[]⟩, .slice none 0 0] #[.int .i64 0, .int .i64 0, .int .i64 0, .int .i64 0, .int .i64 0, .int .i64 0, .int .i64 0, .int .i64 0, .int .i64 0, .int .i64 0, .string ⟨#[]⟩, .slice none 0 0] (by exact rfl) rfl rfl (by simp [Value.oneCell']) (by exact H05.out) ?_)
        refine bodyPost_ret (results_cell1 rfl _ _ _ w.heap.size #[.int .i64 0, .int .i64 0, .int .i64 0, .int .i64 0, .int .i64 0, .int .i64 0, .int .i64 0, .int .i64 0, .int .i64 0, .int .i64 0, .string ⟨#[]⟩, .slice none 0 0] rfl (ld_box (setRow_box _ _ _ _ H05.out) rfl)) rfl (by exact DecE.zero HV.out (below_setRow HB5.out))
end Go.Proofs.YtfmlkagcmkbebaaDoor

/- annalsref17.numbers, rec; archive.readRecord. -/
namespace Go.Proofs.YtfmlkagcmkbebaaDoor
open Go.RowKit

set_option maxRecDepth 100000 in
set_option maxHeartbeats 2000000 in
theorem numbers_any (v : Value) (b : List UInt8) (p : Nat) (hb : b.length ≤ 1099511627776) (hp : p ≤ 1099511627776) (w : World) (hv : Bs w v b) :
    Calls Tryd.prog 60 #[v, .int .i64 (p : Int)] w fun e w' => e = .returned (.tuple #[.int .u64 ((rdTwo b p).1 : Int), .int .u64 ((rdTwo b p).2.1 : Int), .bool (rdTwo b p).2.2]) ∧ w = w' := by
  have HR1 := Lib.hid (rReadUint_any v b p hb hp w hv)
  have hend := rdU_end (b := b) (p := p)
  have hr2 := rReadUint_any v b (rdU b p).2.1 hb
  obtain ⟨B, hB⟩ : ∃ B, rdTwo b p = B := ⟨_, rfl⟩
  rw [hB]
  unfold rdTwo at hB
  obtain ⟨A, c, rfl, hn, hc, _⟩ := hv.form
  by_cases he : (rdU b p).2.2 ≠ 0
  · rw [if_pos he] at hB
    have HV := Lib.hid hB.symm
    have t1 : ((rdU b p).2.2 != 0) = true := by rw [bne_iff_ne]; exact he
    generalize rdU b p = r at HR1 t1
    clear hB he hend hr2 hv hc
    go_enter Tryd.func60, Tryd.ntmps60
    go_wp2_with fail
    refine HR1.out.mono ?_
    rintro ee wz ⟨rfl, rfl⟩
    go_wp2_with fail
    refine bodyPost_ret (results_tmp3 rfl _ _ _) rfl ⟨?_, by first | rfl | trivial⟩
    rw [HV.out]; rfl
  · rw [if_neg he] at hB
    have he0 : (rdU b p).2.2 = 0 := Classical.byContradiction he
    obtain ⟨hp1, hfr⟩ := hend he0
    have HR2 := Lib.hid (hr2 (by omega) w hv)
    rw [he0] at HR1
    generalize rdU b p = r at HR1 HR2 hB hp1 hfr
    obtain ⟨x, q, e⟩ := r
    simp only at HR1 HR2 hB hp1 hfr
    generalize rdU b q = r2 at HR2 hB
    obtain ⟨y, q2, e2⟩ := r2
    simp only at HR2 hB
    have HV := Lib.hid hB.symm
    clear hB he hend hr2 hv hc he0
    go_enter Tryd.func60, Tryd.ntmps60
    go_wp2_with fail
    refine HR1.out.mono ?_
    rintro ee wz ⟨rfl, rfl⟩
    go_wp2_with fail
    refine HR2.out.mono ?_
    rintro ee wz ⟨rfl, rfl⟩
    by_cases h2 : e2 = 0
    · subst h2
      by_cases h3 : q2 = b.length
      · subst h3
        go_wp2_with fail
        refine bodyPost_ret (results_tmp3 rfl _ _ _) rfl ⟨?_, by first | rfl | trivial⟩
        rw [HV.out]; simp
      · have t3 : ((q2 : Int) == (b.length : Int)) = false := by rw [beq_eq_false_iff_ne]; omega
        go_wp2_with fail
        refine bodyPost_ret (results_tmp3 rfl _ _ _) rfl ⟨?_, by first | rfl | trivial⟩
        rw [HV.out]; simp [h3]
    · have t2 : (e2 == 0) = false := by rw [beq_eq_false_iff_ne]; exact h2
      go_wp2_with fail
      refine bodyPost_ret (results_tmp3 rfl _ _ _) rfl ⟨?_, by first | rfl | trivial⟩
      rw [HV.out]; simp [h2]

/-- The record of a frame's body, the code. -/
def rdRecB (x : List UInt8) : Rc × Int :=
  if x.getD 0 0 ≠ 82 then (rc0, 171) else if x.length = 1 ∨ (x.getD 1 0).toNat < 1 ∨ 3 < (x.getD 1 0).toNat then (rc0, 3) else decC ((x.getD 1 0).toNat : Int) (x.drop 2)
theorem Bs.at0 {w : World} {A : Option Addr} {n c : Nat} {x : List UInt8} (h : Bs w (.slice A n c) x) (h0 : 0 < x.length) : ∃ b o, A = some ⟨b, o, none⟩ ∧ ∀ j, j < x.length → w.cell? ⟨b, o + j, none⟩ = some (.int .u8 ((x.getD j 0).toNat : Int)) := by
  obtain ⟨A', c', e, _, _, hr⟩ := h.form
  injection e with e1 e2 e3
  subst e1
  obtain ⟨b, o, hA, _⟩ := hr 0 h0
  refine ⟨b, o, hA, fun j hj => ?_⟩
  obtain ⟨b', o', hA', hc⟩ := hr j hj
  rw [hA] at hA'; injection hA' with hA'; injection hA' with e1 e2 _
  subst e1; subst e2
  rw [hc, List.getD_eq_getElem?_getD, List.getElem?_eq_getElem hj]; rfl

theorem recS_keep {W W' : World} {a : Addr} {u : Value} (h : W.cell? a = some u ∧ Below W.heap.size W W) (hb : Below W.heap.size W W') : W'.cell? a = some u ∧ Below W.heap.size W W' :=
  ⟨(hb.cell (World.block_lt_of_cell? W _ h.1)).trans h.1, hb⟩

set_option maxRecDepth 100000 in
set_option maxHeartbeats 4000000 in
theorem rec_any (v : Value) (x : List UInt8) (h0 : 0 < x.length) (hb : x.length ≤ 1099511627776) (w : World) (hT : TabQ w) (hx : Bs w v x) :
    Calls Tryd.prog 61 #[v] w (DecE w (rdRecB x)) := by
  have HT := Lib.hid hT
  obtain ⟨A, c, rfl, hn, hc, -⟩ := hx.form
  obtain ⟨g, o, rfl, hcell⟩ := hx.at0 h0
  have HXW := Lib.hid hx
  have hgw : g < w.heap.size := World.block_lt_of_cell? w _ (hcell 0 h0)
  obtain ⟨W2, hW2⟩ : ∃ W2, (w.alloc (.cells #[.int .i64 0, .int .i64 0, .int .i64 0, .int .i64 0, .int .i64 0, .int .i64 0, .int .i64 0, .int .i64 0, .int .i64 0, .int .i64 0, .string ⟨#[]⟩, .slice none 0 0] 62)).alloc (.cells #[.int .i64 0, .int .i64 0, .int .i64 0, .int .i64 0, .int .i64 0, .int .i64 0, .int .i64 0, .int .i64 0, .int .i64 0, .int .i64 0, .string ⟨#[]⟩, .slice none 0 0] 62) = W2 := ⟨_, rfl⟩
  have hB2 : Below w.heap.size w W2 := by rw [← hW2]; exact ((Below.refl _ w).alloc (Nat.le_refl _) _).alloc (by simp) _
  have hz : W2.heap.size = w.heap.size + 2 := by rw [← hW2]; simp
  have hb0 : W2.heap[w.heap.size]? = some (.cells #[.int .i64 0, .int .i64 0, .int .i64 0, .int .i64 0, .int .i64 0, .int .i64 0, .int .i64 0, .int .i64 0, .int .i64 0, .int .i64 0, .string ⟨#[]⟩, .slice none 0 0] 62 (0, 0)) := by
    rw [← hW2]; exact (Below.heap_alloc _ _ _ (by simp)).trans (heap_alloc_new w _)
  have hb1 : W2.heap[w.heap.size + 1]? = some (.cells #[.int .i64 0, .int .i64 0, .int .i64 0, .int .i64 0, .int .i64 0, .int .i64 0, .int .i64 0, .int .i64 0, .int .i64 0, .int .i64 0, .string ⟨#[]⟩, .slice none 0 0] 62 (0, 0)) := by
    rw [← hW2]; exact (heap_alloc2 _ _ _).trans (heap_alloc_new w _)
  have hx2 := hx.below hB2
  have hc2 := fun j (hj : j < x.length) => (hB2.cell (World.block_lt_of_cell? w _ (hcell j hj))).trans (hcell j hj)
  have c0 := hc2 0 h0
  rw [Nat.add_zero, ← hW2] at c0
  have HW := Lib.hid hW2
  have H0 := Lib.hid hb0
  have H1 := Lib.hid hb1
  have HX := Lib.hid hx2
  clear hW2 hb0 hb1 hx2 hx hcell hc hT
  have hli : (0 : Int) < (x.length : Int) := by omega
  by_cases h82 : x.getD 0 0 = 82
  · rw [h82] at c0
    replace c0 : ((w.alloc (.cells #[.int .i64 0, .int .i64 0, .int .i64 0, .int .i64 0, .int .i64 0, .int .i64 0, .int .i64 0, .int .i64 0, .int .i64 0, .int .i64 0, .string ⟨#[]⟩, .slice none 0 0] 62)).alloc (.cells #[.int .i64 0, .int .i64 0, .int .i64 0, .int .i64 0, .int .i64 0, .int .i64 0, .int .i64 0, .int .i64 0, .int .i64 0, .int .i64 0, .string ⟨#[]⟩, .slice none 0 0] 62)).cell? ⟨g, o, none⟩ = some (.int .u8 82) := c0
    by_cases h1 : x.length = 1
    · have HV := Lib.hid (show rdRecB x = (rc0, 3) by unfold rdRecB; rw [if_neg (by simpa using h82), if_pos (.inl h1)])
      rw [h1] at *
      clear hc2 h82
      go_enter Tryd.func61, Tryd.ntmps61
      go_wp2_with fail
      refine bodyPost_ret (results_cell1 rfl _ _ _ w.heap.size #[.int .i64 0, .int .i64 0, .int .i64 0, .int .i64 0, .int .i64 0, .int .i64 0, .int .i64 0, .int .i64 0, .int .i64 0, .int .i64 0, .string ⟨#[]⟩, .slice none 0 0] rfl (ld_box (by rw [HW.out]; exact H0.out) rfl)) rfl (by exact DecE.zero HV.out (by rw [HW.out]; exact hB2))
    · have c1 := hc2 1 (by omega)
      have c1k := Lib.hid c1
      rw [← HW.out] at c1
      have t1 : ((x.length : Int) == 1) = false := by rw [beq_eq_false_iff_ne]; omega
      have hl2 : (1 : Int) < (x.length : Int) := by omega
      have hdef : rdRecB x = if x.length = 1 ∨ (x.getD 1 0).toNat < 1 ∨ 3 < (x.getD 1 0).toNat then (rc0, 3) else decC ((x.getD 1 0).toNat : Int) (x.drop 2) := by unfold rdRecB; rw [if_neg (by simpa using h82)]
      have hz256 := (x.getD 1 0).toNat_lt
      generalize (x.getD 1 0).toNat = V at c1 c1k hdef hz256
      clear h82
      by_cases hbad : V < 1 ∨ 3 < V
      · have HV := Lib.hid (hdef.trans (if_pos (.inr hbad)))
        clear hdef hc2 h1
        by_cases hv0 : V < 1
        · have t2 : (V : Int) < 1 := by omega
          clear hbad hv0
          go_enter Tryd.func61, Tryd.ntmps61
          go_wp2_with fail
          refine bodyPost_ret (results_cell1 rfl _ _ _ w.heap.size #[.int .i64 0, .int .i64 0, .int .i64 0, .int .i64 0, .int .i64 0, .int .i64 0, .int .i64 0, .int .i64 0, .int .i64 0, .int .i64 0, .string ⟨#[]⟩, .slice none 0 0] rfl (ld_box (by rw [HW.out]; exact H0.out) rfl)) rfl (by exact DecE.zero HV.out (by rw [HW.out]; exact hB2))
        · have t2 : ¬ (V : Int) < 1 := by omega
          have t3 : 3 < (V : Int) := by omega
          clear hbad hv0
          go_enter Tryd.func61, Tryd.ntmps61
          go_wp2_with fail
          refine bodyPost_ret (results_cell1 rfl _ _ _ w.heap.size #[.int .i64 0, .int .i64 0, .int .i64 0, .int .i64 0, .int .i64 0, .int .i64 0, .int .i64 0, .int .i64 0, .int .i64 0, .int .i64 0, .string ⟨#[]⟩, .slice none 0 0] rfl (ld_box (by rw [HW.out]; exact H0.out) rfl)) rfl (by exact DecE.zero HV.out (by rw [HW.out]; exact hB2))
      · have HV := Lib.hid (hdef.trans (if_neg (by omega)))
        have t2 : ¬ (V : Int) < 1 := by omega
        have t3 : ¬ 3 < (V : Int) := by omega
        have hV3 : V ≤ 3 := by omega
        clear hdef hc2 h1 hbad
        go_enter Tryd.func61, Tryd.ntmps61
        go_wp2_with fail
        rw [HW.out]
        have hS : W2.cell? ⟨g, o + 1, none⟩ = some (.int .u8 (V : Int)) ∧ Below W2.heap.size W2 W2 := ⟨c1k.out, Below.refl _ _⟩
        have HPT := Lib.hid (fun (W : World) (hbw : Below w.heap.size W2 W) => (by
          have := rPart_any _ x 2 x.length (by omega) (Nat.le_refl _) hb W (HXW.out.below (hB2.trans hbw))
          rw [List.take_length] at this; exact this :
          Calls Tryd.prog 87 #[.slice (some ⟨g, o, none⟩) x.length c, .int .i64 2, .int .i64 (x.length : Int)] W (Gives W (x.drop 2))))
        have hwv : IntKind.i64.wrap (V : Int) = (V : Int) := by rw [IntKind.wrap_i64]; omega
        have HDT := Lib.hid (fun (W : World) (hbw : Below w.heap.size W2 W) (u : Value) (hu : Bs W u (x.drop 2)) => rDecode_any (V : Int) u (x.drop 2) (by simp; omega) W (HT.out.below (hB2.trans hbw)) hu)
        clear hS
        have hc1 := c1k.out
        refine wp_region_noPanic ?_
        refine wp_region_held_drew (S := fun w' => w'.cell? ⟨g, o + 1, none⟩ = some (.int .u8 (V : Int)) ∧ Below w.heap.size W2 w') (by kernel_rfl) ⟨by simpa using hc1, (Below.refl _ _).drew⟩ (fun hHeld => ?_)
        refine takeO (i := 0) (d := some 26) (v := (.slice (some ⟨g, o, none⟩) x.length c)) (by simp only [List.getElem?_toArray, List.getElem?_cons_zero]; rfl) (by rfl) (by kernel_rfl) (by kernel_rfl) (by kernel_rfl) (fun _ _ _ h => h) (Or.inl ⟨by rfl, ?_⟩) hHeld ?_
        · intro wS hSw; obtain ⟨hS0, hS1⟩ := hSw; go_simp
        simp only [Act.put, List.setIfInBounds_toArray, List.set_cons_zero, List.set_cons_succ]
        refine takeO (i := 1) (d := some 27) (v := (.pointer (some ⟨g, o + 1, none⟩))) (by simp only [List.getElem?_toArray, List.getElem?_cons_succ, List.getElem?_cons_zero]; rfl) (by rfl) (by kernel_rfl) (by kernel_rfl) (by kernel_rfl) (fun _ _ _ h => h) (Or.inl ⟨by rfl, ?_⟩) hHeld ?_
        · intro wS hSw; obtain ⟨hS0, hS1⟩ := hSw; go_simp
        simp only [Act.put, List.setIfInBounds_toArray, List.set_cons_zero, List.set_cons_succ]
        refine takeO (i := 2) (d := some 28) (v := (.int .u8 (V : Int))) (by simp only [List.getElem?_toArray, List.getElem?_cons_succ, List.getElem?_cons_zero]; rfl) (by rfl) (by kernel_rfl) (by kernel_rfl) (by kernel_rfl) (fun _ _ _ h => h) (Or.inl ⟨by rfl, ?_⟩) hHeld ?_
        · intro wS hSw; obtain ⟨hS0, hS1⟩ := hSw; go_simp
        simp only [Act.put, List.setIfInBounds_toArray, List.set_cons_zero, List.set_cons_succ]
        refine takeO (i := 3) (d := some 29) (v := (.int .i64 (V : Int))) (by simp only [List.getElem?_toArray, List.getElem?_cons_succ, List.getElem?_cons_zero]; rfl) (by rfl) (by kernel_rfl) (by kernel_rfl) (by kernel_rfl) (fun _ _ _ h => h) (Or.inl ⟨by rfl, ?_⟩) hHeld ?_
        · intro wS hSw; obtain ⟨hS0, hS1⟩ := hSw; go_simp
        simp only [Act.put, List.setIfInBounds_toArray, List.set_cons_zero, List.set_cons_succ]
        refine takeO (i := 4) (d := some 30) (v := (.slice (some ⟨g, o, none⟩) x.length c)) (by simp only [List.getElem?_toArray, List.getElem?_cons_succ, List.getElem?_cons_zero]; rfl) (by rfl) (by kernel_rfl) (by kernel_rfl) (by kernel_rfl) (fun _ _ _ h => h) (Or.inl ⟨by rfl, ?_⟩) hHeld ?_
        · intro wS hSw; obtain ⟨hS0, hS1⟩ := hSw; go_simp
        simp only [Act.put, List.setIfInBounds_toArray, List.set_cons_zero, List.set_cons_succ]
        refine takeO (i := 5) (d := some 31) (v := (.slice (some ⟨g, o, none⟩) x.length c)) (by simp only [List.getElem?_toArray, List.getElem?_cons_succ, List.getElem?_cons_zero]; rfl) (by rfl) (by kernel_rfl) (by kernel_rfl) (by kernel_rfl) (fun _ _ _ h => h) (Or.inl ⟨by rfl, ?_⟩) hHeld ?_
        · intro wS hSw; obtain ⟨hS0, hS1⟩ := hSw; go_simp
        simp only [Act.put, List.setIfInBounds_toArray, List.set_cons_zero, List.set_cons_succ]
        refine takeO (i := 6) (d := some 32) (v := (.int .i64 (x.length : Int))) (by simp only [List.getElem?_toArray, List.getElem?_cons_succ, List.getElem?_cons_zero]; rfl) (by rfl) (by kernel_rfl) (by kernel_rfl) (by kernel_rfl) (fun _ _ _ h => h) (Or.inl ⟨by rfl, ?_⟩) hHeld ?_
        · intro wS hSw; obtain ⟨hS0, hS1⟩ := hSw; go_simp
        simp only [Act.put, List.setIfInBounds_toArray, List.set_cons_zero, List.set_cons_succ]
        refine wpAnyH_ready (rs := [7]) (by kernel_rfl) (by simp) (AllReadyH.cons rfl (fun K hK => ?_) AllReadyH.nil)
        have hH1 := Lib.hid hHeld
        clear hHeld hc1
        go_simp
        refine (HPT.out _ hH1.out.2).mono ?_
        rintro e w4 ⟨x4, rfl, HX4, hb4⟩
        have hB4 := hH1.out.2.trans (hb4.mono (by have := hH1.out.2.size; omega))
        have hs4 := hB4.size
        refine hK.out _ _ ⟨(hb4.cell (World.block_lt_of_cell? _ _ hH1.out.1)).trans hH1.out.1, hB4⟩ (fun hHeld => ?_)
        clear hK K
        refine wpAnyH_ready (rs := [8]) (by kernel_rfl) (by simp) (AllReadyH.cons rfl (fun K hK => ?_) AllReadyH.nil)
        have hH2 := Lib.hid hHeld
        clear hHeld
        go_simp
        refine (HDT.out _ hB4 _ HX4.bs).mono ?_
        rintro e w6 ⟨x6, rfl, HX6, hb6⟩
        have hB6 := hB4.trans (hb6.mono (by omega))
        have hs6 := hb6.size
        have HX6 := Lib.hid HX6
        have hd2 : W2.drew.heap.size = W2.heap.size := rfl
        have K0 := Lib.hid ((hb6.block w.heap.size (by omega)).trans ((hb4.block w.heap.size (by omega)).trans (show W2.drew.heap[w.heap.size]? = _ from H0.out)))
        refine hK.out _ _ ⟨(hb6.cell (World.block_lt_of_cell? _ _ hH2.out.1)).trans hH2.out.1, hB6⟩ (fun hHeld => ?_)
        clear hK K hb6 hb4
        obtain ⟨⟨r, ec⟩, hy⟩ : ∃ y, decC (V : Int) (x.drop 2) = y := ⟨_, rfl⟩
        rw [hy] at HX6 HV
        obtain ⟨Ad, cd, rfl⟩ := HX6.out.slice
        have HX6' := Lib.hid (show Ob w6 w4.heap.size (.slice Ad r.da.length cd) r.da from HX6.out)
        simp only [hy]
        rw [val_eq]
        clear hy HX6
        refine takeO (i := 9) (d := some 35) (v := (.agg #[.int .i64 r.v, .int .i64 r.kd, .int .i64 r.sg, .int .i64 r.st, .int .i64 r.tr, .int .i64 r.tm, .int .i64 r.la, .int .i64 r.co, .int .i64 r.cn, .int .i64 r.pv, .string r.nm, .slice Ad r.da.length cd])) (by simp only [List.getElem?_toArray, List.getElem?_cons_succ, List.getElem?_cons_zero]; rfl) (by rfl) (by kernel_rfl) (by kernel_rfl) (by kernel_rfl) (fun _ _ _ h => h) (Or.inl ⟨by rfl, ?_⟩) hHeld ?_
        · intro wS hSw; obtain ⟨hS0, hS1⟩ := hSw; go_simp
        simp only [Act.put, List.setIfInBounds_toArray, List.set_cons_zero, List.set_cons_succ]
        refine takeO (i := 10) (d := some 36) (v := (.int .i64 ec)) (by simp only [List.getElem?_toArray, List.getElem?_cons_succ, List.getElem?_cons_zero]; rfl) (by rfl) (by kernel_rfl) (by kernel_rfl) (by kernel_rfl) (fun _ _ _ h => h) (Or.inl ⟨by rfl, ?_⟩) hHeld ?_
        · intro wS hSw; obtain ⟨hS0, hS1⟩ := hSw; go_simp
        simp only [Act.put, List.setIfInBounds_toArray, List.set_cons_zero, List.set_cons_succ]
        refine wpAnyH_ready (rs := [11]) (by kernel_rfl) (by simp) (AllReadyH.cons rfl (fun K hK => ?_) AllReadyH.nil)
        rw [if_pos (by rfl)]
        have hH3 := Lib.hid hHeld
        clear hHeld
        refine wp_store_row 62 (.tmp 2) (.tmp 35) rfl w.heap.size #[.int .i64 r.v, .int .i64 r.kd, .int .i64 r.sg, .int .i64 r.st, .int .i64 r.tr, .int .i64 r.tm, .int .i64 r.la, .int .i64 r.co, .int .i64 r.cn, .int .i64 r.pv, .string r.nm, .slice Ad r.da.length cd] rfl rfl 62 #[.int .i64 0, .int .i64 0, .int .i64 0, .int .i64 0, .int .i64 0, .int .i64 0, .int .i64 0, .int .i64 0, .int .i64 0, .int .i64 0, .string ⟨#[]⟩, .slice none 0 0] K0.out (by kernel_rfl) rfl (by simp [Value.oneCell']) ?_
        have hB7 : Below w.heap.size W2 (w6.setRow w.heap.size #[.int .i64 r.v, .int .i64 r.kd, .int .i64 r.sg, .int .i64 r.st, .int .i64 r.tr, .int .i64 r.tm, .int .i64 r.la, .int .i64 r.co, .int .i64 r.cn, .int .i64 r.pv, .string r.nm, .slice Ad r.da.length cd]) := hB6.grown (grownBy_setRow _ _ _) (by have := hB6.size; omega) (fun k e => by injection e with e; omega)
        refine hK.out _ _ ⟨(Kp.of_grown (grownBy_setRow _ _ _)).cell hH3.out.1 (fun e => by injection e with e; simp only at e; omega), hB7⟩ (fun hHeld => ?_)
        clear hK K
        refine wpAnyH_ready (rs := [12]) (by kernel_rfl) (by simp) (AllReadyH.cons rfl (fun K hK => ?_) AllReadyH.nil)
        go_simp
        refine hK.out _ _ hHeld (fun hHeld => ?_)
        clear hK K
        refine wpAnyH_done (by kernel_rfl) ?_ _
        refine NoPanic.normal ?_
        have HO6 := Lib.hid (own_mono HX6'.out (show w.heap.size + 1 ≤ w4.heap.size by omega))
        have HB6 := Lib.hid (hB2.trans hB6)
        clear HX6' hB7 hH3 hHeld
        go_wp2_with fail
        refine bodyPost_ret (results_cell1 rfl _ _ _ w.heap.size #[.int .i64 r.v, .int .i64 r.kd, .int .i64 r.sg, .int .i64 r.st, .int .i64 r.tr, .int .i64 r.tm, .int .i64 r.la, .int .i64 r.co, .int .i64 r.cn, .int .i64 r.pv, .string r.nm, .slice Ad r.da.length cd] rfl (ld_box (setRow_box _ _ _ _ K0.out) rfl)) rfl (by exact ⟨.slice Ad r.da.length cd, by rw [HV.out]; rfl, by rw [HV.out]; exact own_mono (own_kp HO6.out (Kp.of_grown (grownBy_setRow _ _ _)) (fun j hj e => by have := (HO6.out.lt j hj).1; injection e with e; omega)) (by omega), below_setRow HB6.out⟩)
  · have HV := Lib.hid (show rdRecB x = (rc0, 171) by unfold rdRecB; rw [if_pos h82])
    have hz : (((x.getD 0 0).toNat : Int) != 82) = true := by
      rw [bne_iff_ne]; intro e; exact h82 (UInt8.toNat_inj.1 (by show _ = 82; omega))
    generalize (x.getD 0 0).toNat = z0 at c0 hz
    clear hc2 h82
    go_enter Tryd.func61, Tryd.ntmps61
    go_wp2_with fail
    refine bodyPost_ret (results_cell1 rfl _ _ _ w.heap.size #[.int .i64 0, .int .i64 0, .int .i64 0, .int .i64 0, .int .i64 0, .int .i64 0, .int .i64 0, .int .i64 0, .int .i64 0, .int .i64 0, .string ⟨#[]⟩, .slice none 0 0] rfl (ld_box (by rw [HW.out]; exact H0.out) rfl)) rfl (by exact DecE.zero HV.out (by rw [HW.out]; exact hB2))
end Go.Proofs.YtfmlkagcmkbebaaDoor

/- archive.readRecord. -/
namespace Go.Proofs.YtfmlkagcmkbebaaDoor
open Go.RowKit

theorem Bs.drop {w : World} {g n c : Nat} {xs : List UInt8} (h : Bs w (.slice (some ⟨g, 0, none⟩) n c) xs) (lo : Nat) (hlo : lo ≤ n) :
    Bs w (.slice (if c = lo then some ⟨g, 0, none⟩ else some ⟨g, lo, none⟩) (n - lo) (c - lo)) (xs.drop lo) := by
  obtain ⟨hn, hcap, hcm⟩ := h.len
  subst hn
  obtain ⟨A0, c0, e, hl, _, _, hr⟩ := h
  injection e with e1 e2 e3
  subst e1; subst e3
  have hlen : (xs.drop lo).length = xs.length - lo := List.length_drop
  refine ⟨_, _, by rw [hlen], by rw [bys_length]; omega, by omega, by omega, fun j u hj => ?_⟩
  have hj' : j < xs.length - lo := by
    have := (List.getElem?_eq_some_iff.1 hj).1
    rw [bys_length, hlen] at this; exact this
  have hu : (bys xs)[lo + j]? = some u := by
    rw [← hj]
    simp only [bys, List.getElem?_map, List.getElem?_drop]
  obtain ⟨b, o, e, hc⟩ := hr (lo + j) u hu
  injection e with e; injection e with e1 e2 _
  subst e1; subst e2
  rw [if_neg (by omega)]
  exact ⟨g, lo, rfl, by simpa using hc⟩

/-- The record at p, the code. -/
def rdRec (b : List UInt8) (p : Nat) : Rc × Int := if (rdFr b p).2.2 ≠ 0 then (rc0, (rdFr b p).2.2) else rdRecB (rdFr b p).1
/-- What readRecord answers. -/
def RecE (w : World) (y : Rc × Int) (q : Nat) (e : Ending) (w' : World) : Prop := ∃ dv nx, e = .returned (.tuple #[y.1.val dv, .int .i64 nx, .int .i64 y.2]) ∧ (y.2 = 0 → nx = (q : Int)) ∧ Ob w' w.heap.size dv y.1.da ∧ Below w.heap.size w w'
theorem RecE.zero {w w' : World} {c : Int} {q : Nat} {y : Rc × Int} (h : y = (rc0, c)) (hc : c ≠ 0) (hb : Below w.heap.size w w') : RecE w y q (.returned (.tuple #[.agg #[.int .i64 0, .int .i64 0, .int .i64 0, .int .i64 0, .int .i64 0, .int .i64 0, .int .i64 0, .int .i64 0, .int .i64 0, .int .i64 0, .string ⟨#[]⟩, .slice none 0 0], .int .i64 0, .int .i64 c])) w' :=
  ⟨.slice none 0 0, 0, by rw [h]; rfl, fun e => by rw [h] at e; exact absurd e hc, by rw [h]; exact Ob.nil _ _, hb⟩

set_option maxRecDepth 100000 in
set_option maxHeartbeats 8000000 in
theorem readRecord_any (v : Value) (b : List UInt8) (p : Nat) (hb : b.length ≤ 1099511627776) (hp : p ≤ 1099511627776) (w : World) (hT : Tab w) (hR : TabR w) (hM : TabM w) (hv : Bs w v b) :
    Calls Tryd.prog 57 #[v, .int .i64 (p : Int)] w (RecE w (rdRec b p) (rdFr b p).2.1) := by
  have HR := Lib.hid hR
  have HM := Lib.hid hM
  obtain ⟨W0, hW0⟩ : ∃ W0, w.alloc (.cells #[.int .i64 0, .int .i64 0, .int .i64 0, .int .i64 0, .int .i64 0, .int .i64 0, .int .i64 0, .int .i64 0, .int .i64 0, .int .i64 0, .string ⟨#[]⟩, .slice none 0 0] 62) = W0 := ⟨_, rfl⟩
  have hB0 : Below w.heap.size w W0 := by rw [← hW0]; exact (Below.refl _ w).alloc (Nat.le_refl _) _
  have hz0 : W0.heap.size = w.heap.size + 1 := by rw [← hW0]; simp
  have hn0 : W0.heap[w.heap.size]? = some (.cells #[.int .i64 0, .int .i64 0, .int .i64 0, .int .i64 0, .int .i64 0, .int .i64 0, .int .i64 0, .int .i64 0, .int .i64 0, .int .i64 0, .string ⟨#[]⟩, .slice none 0 0] 62 (0, 0)) := by rw [← hW0]; exact heap_alloc_new w _
  have HFR := Lib.hid (ReadFrame_any v b p hb hp W0 (hT.below hB0) (hv.below hB0))
  have hend := rdFr_end (b := b) (p := p)
  obtain ⟨A, c, rfl, hn, hc, -⟩ := hv.form
  have hdef : rdRec b p = if (rdFr b p).2.2 ≠ 0 then (rc0, (rdFr b p).2.2) else rdRecB (rdFr b p).1 := rfl
  generalize rdFr b p = y at HFR hend hdef
  obtain ⟨x, q, e⟩ := y
  simp only at HFR hend hdef
  have HW0 := Lib.hid hW0
  have HN0 := Lib.hid hn0
  clear hT hR hM hv hn0 hW0 hc
  by_cases he : e ≠ 0
  · have HV := Lib.hid (hdef.trans (if_pos he))
    have HE := Lib.hid he
    have t1 : (e != 0) = true := by rw [bne_iff_ne]; exact he
    clear he hend hdef
    go_enter Tryd.func57, Tryd.ntmps57
    go_wp2_with fail
    rw [HW0.out]
    refine HFR.out.mono ?_
    rintro ee w1 ⟨v1, rfl, HO1, hb1⟩
    have H0 := Lib.hid ((hb1.block w.heap.size (by omega)).trans HN0.out)
    have HB1 := Lib.hid (hB0.trans (hb1.mono (by omega)))
    clear hb1 HO1
    go_wp2_with (refine st_cs (by exact rfl) (by exact rfl) w.heap.size (by exact rfl) #[.int .i64 0, .int .i64 0, .int .i64 0, .int .i64 0, .int .i64 0, .int .i64 0, .int .i64 0, .int .i64 0, .int .i64 0, .int .i64 0, .string ⟨#[]⟩, .slice none 0 0] #[.int .i64 0, .int .i64 0, .int .i64 0, .int .i64 0, .int .i64 0, .int .i64 0, .int .i64 0, .int .i64 0, .int .i64 0, .int .i64 0, .string ⟨#[]⟩, .slice none 0 0] (by exact rfl) rfl rfl (by simp [Value.oneCell']) (by exact H0.out) ?_)
    refine bodyPost_ret (results_cell2 rfl _ _ _ w.heap.size #[.int .i64 0, .int .i64 0, .int .i64 0, .int .i64 0, .int .i64 0, .int .i64 0, .int .i64 0, .int .i64 0, .int .i64 0, .int .i64 0, .string ⟨#[]⟩, .slice none 0 0] rfl (ld_box (setRow_box _ _ _ _ H0.out) rfl)) rfl (by exact RecE.zero HV.out HE.out (below_setRow HB1.out))
  · have he0 : e = 0 := Classical.byContradiction he
    replace hdef := hdef.trans (if_neg he)
    subst he0
    obtain ⟨hx0, hx1, -, -⟩ := hend rfl
    clear he hend
    have hli : (0 : Int) < (x.length : Int) := by omega
    by_cases h82 : x.getD 0 0 = 82
    · by_cases hbad : x.length = 1 ∨ (x.getD 1 0).toNat < 1 ∨ 3 < (x.getD 1 0).toNat
      · have HV := Lib.hid (show rdRec b p = (rc0, 3) by rw [hdef]; unfold rdRecB; rw [if_neg (by simpa using h82), if_pos hbad])
        clear hdef
        by_cases h1 : x.length = 1
        · go_enter Tryd.func57, Tryd.ntmps57
          go_wp2_with fail
          rw [HW0.out]
          refine HFR.out.mono ?_
          rintro ee w1 ⟨v1, rfl, HO1, hb1⟩
          obtain ⟨g, cap, rfl, -, -, -⟩ := HO1.form hx0
          obtain ⟨g', o', e, hcell⟩ := HO1.bs.at0 hx0
          injection e with e; injection e with e1 e2 _
          subst e1; subst e2
          have c0 := hcell 0 hx0
          rw [h82] at c0
          replace c0 : w1.cell? ⟨g, 0, none⟩ = some (.int .u8 82) := c0
          have H0 := Lib.hid ((hb1.block w.heap.size (by omega)).trans HN0.out)
          have HB1 := Lib.hid (hB0.trans (hb1.mono (by omega)))
          have H1 := Lib.hid h1
          rw [H1.out]
          clear hb1 HO1 hcell h82 hbad h1
          go_wp2_with (refine st_cs (by exact rfl) (by exact rfl) w.heap.size (by exact rfl) #[.int .i64 0, .int .i64 0, .int .i64 0, .int .i64 0, .int .i64 0, .int .i64 0, .int .i64 0, .int .i64 0, .int .i64 0, .int .i64 0, .string ⟨#[]⟩, .slice none 0 0] #[.int .i64 0, .int .i64 0, .int .i64 0, .int .i64 0, .int .i64 0, .int .i64 0, .int .i64 0, .int .i64 0, .int .i64 0, .int .i64 0, .string ⟨#[]⟩, .slice none 0 0] (by exact rfl) rfl rfl (by simp [Value.oneCell']) (by exact H0.out) ?_)
          refine bodyPost_ret (results_cell2 rfl _ _ _ w.heap.size #[.int .i64 0, .int .i64 0, .int .i64 0, .int .i64 0, .int .i64 0, .int .i64 0, .int .i64 0, .int .i64 0, .int .i64 0, .int .i64 0, .string ⟨#[]⟩, .slice none 0 0] rfl (ld_box (setRow_box _ _ _ _ H0.out) rfl)) rfl (by exact RecE.zero HV.out (by omega) (below_setRow HB1.out))
        · have t1 : ((x.length : Int) == 1) = false := by rw [beq_eq_false_iff_ne]; omega
          have hl2 : (1 : Int) < (x.length : Int) := by omega
          have hx2 : 1 < x.length := by omega
          have hvb : (x.getD 1 0).toNat < 1 ∨ (¬ (x.getD 1 0).toNat < 1 ∧ 3 < (x.getD 1 0).toNat) := by omega
          clear hbad h1
          rcases hvb with hv0 | ⟨hv0, hv3⟩
          · go_enter Tryd.func57, Tryd.ntmps57
            go_wp2_with fail
            rw [HW0.out]
            refine HFR.out.mono ?_
            rintro ee w1 ⟨v1, rfl, HO1, hb1⟩
            obtain ⟨g, cap, rfl, -, -, -⟩ := HO1.form hx0
            obtain ⟨g', o', e, hcell⟩ := HO1.bs.at0 hx0
            injection e with e; injection e with e1 e2 _
            subst e1; subst e2
            have c0 := hcell 0 hx0
            rw [h82] at c0
            replace c0 : w1.cell? ⟨g, 0, none⟩ = some (.int .u8 82) := c0
            have c1 := hcell 1 hx2
            rw [Nat.zero_add] at c1
            have t2 : ((x.getD 1 0).toNat : Int) < 1 := by omega
            generalize (x.getD 1 0).toNat = V at c1 t2
            have H0 := Lib.hid ((hb1.block w.heap.size (by omega)).trans HN0.out)
            have HB1 := Lib.hid (hB0.trans (hb1.mono (by omega)))
            clear hb1 HO1 hcell h82 hv0
            go_wp2_with (refine st_cs (by exact rfl) (by exact rfl) w.heap.size (by exact rfl) #[.int .i64 0, .int .i64 0, .int .i64 0, .int .i64 0, .int .i64 0, .int .i64 0, .int .i64 0, .int .i64 0, .int .i64 0, .int .i64 0, .string ⟨#[]⟩, .slice none 0 0] #[.int .i64 0, .int .i64 0, .int .i64 0, .int .i64 0, .int .i64 0, .int .i64 0, .int .i64 0, .int .i64 0, .int .i64 0, .int .i64 0, .string ⟨#[]⟩, .slice none 0 0] (by exact rfl) rfl rfl (by simp [Value.oneCell']) (by exact H0.out) ?_)
            refine bodyPost_ret (results_cell2 rfl _ _ _ w.heap.size #[.int .i64 0, .int .i64 0, .int .i64 0, .int .i64 0, .int .i64 0, .int .i64 0, .int .i64 0, .int .i64 0, .int .i64 0, .int .i64 0, .string ⟨#[]⟩, .slice none 0 0] rfl (ld_box (setRow_box _ _ _ _ H0.out) rfl)) rfl (by exact RecE.zero HV.out (by omega) (below_setRow HB1.out))
          · go_enter Tryd.func57, Tryd.ntmps57
            go_wp2_with fail
            rw [HW0.out]
            refine HFR.out.mono ?_
            rintro ee w1 ⟨v1, rfl, HO1, hb1⟩
            obtain ⟨g, cap, rfl, -, -, -⟩ := HO1.form hx0
            obtain ⟨g', o', e, hcell⟩ := HO1.bs.at0 hx0
            injection e with e; injection e with e1 e2 _
            subst e1; subst e2
            have c0 := hcell 0 hx0
            rw [h82] at c0
            replace c0 : w1.cell? ⟨g, 0, none⟩ = some (.int .u8 82) := c0
            have c1 := hcell 1 hx2
            rw [Nat.zero_add] at c1
            have t2 : ¬ ((x.getD 1 0).toNat : Int) < 1 := by omega
            have t3 : 3 < ((x.getD 1 0).toNat : Int) := by omega
            generalize (x.getD 1 0).toNat = V at c1 t2 t3
            have H0 := Lib.hid ((hb1.block w.heap.size (by omega)).trans HN0.out)
            have HB1 := Lib.hid (hB0.trans (hb1.mono (by omega)))
            clear hb1 HO1 hcell h82 hv0 hv3
            go_wp2_with (refine st_cs (by exact rfl) (by exact rfl) w.heap.size (by exact rfl) #[.int .i64 0, .int .i64 0, .int .i64 0, .int .i64 0, .int .i64 0, .int .i64 0, .int .i64 0, .int .i64 0, .int .i64 0, .int .i64 0, .string ⟨#[]⟩, .slice none 0 0] #[.int .i64 0, .int .i64 0, .int .i64 0, .int .i64 0, .int .i64 0, .int .i64 0, .int .i64 0, .int .i64 0, .int .i64 0, .int .i64 0, .string ⟨#[]⟩, .slice none 0 0] (by exact rfl) rfl rfl (by simp [Value.oneCell']) (by exact H0.out) ?_)
            refine bodyPost_ret (results_cell2 rfl _ _ _ w.heap.size #[.int .i64 0, .int .i64 0, .int .i64 0, .int .i64 0, .int .i64 0, .int .i64 0, .int .i64 0, .int .i64 0, .int .i64 0, .int .i64 0, .string ⟨#[]⟩, .slice none 0 0] rfl (ld_box (setRow_box _ _ _ _ H0.out) rfl)) rfl (by exact RecE.zero HV.out (by omega) (below_setRow HB1.out))
      · have hV := hdef.trans (show rdRecB x = decC ((x.getD 1 0).toNat : Int) (x.drop 2) by unfold rdRecB; rw [if_neg (by simpa using h82), if_neg hbad])
        have hx2 : 1 < x.length := by omega
        have t1 : ((x.length : Int) == 1) = false := by rw [beq_eq_false_iff_ne]; omega
        have hl2 : (1 : Int) < (x.length : Int) := by omega
        have hvb : ¬ (x.getD 1 0).toNat < 1 ∧ ¬ 3 < (x.getD 1 0).toNat := by omega
        obtain ⟨hv0, hv3⟩ := hvb
        clear hbad hdef
        go_enter Tryd.func57, Tryd.ntmps57
        go_wp2_with fail
        rw [HW0.out]
        refine HFR.out.mono ?_
        rintro ee w1 ⟨v1, rfl, HO1, hb1⟩
        obtain ⟨g, cap, rfl, -, hgw, -⟩ := HO1.form hx0
        obtain ⟨g', o', e, hcell⟩ := HO1.bs.at0 hx0
        injection e with e; injection e with e1 e2 _
        subst e1; subst e2
        have c0 := hcell 0 hx0
        rw [h82] at c0
        replace c0 : w1.cell? ⟨g, 0, none⟩ = some (.int .u8 82) := c0
        have c1 := hcell 1 hx2
        rw [Nat.zero_add] at c1
        have t2 : ¬ ((x.getD 1 0).toNat : Int) < 1 := by omega
        have t3 : ¬ 3 < ((x.getD 1 0).toNat : Int) := by omega
        generalize (x.getD 1 0).toNat = V at c1 t2 t3 hV hv0 hv3
        have H0 := Lib.hid ((hb1.block w.heap.size (by omega)).trans HN0.out)
        have HB1 := Lib.hid (hB0.trans (hb1.mono (by omega)))
        have hs1 := hb1.size
        have hbd := HO1.bs.drop 2 (by omega)
        obtain ⟨A2, hA2⟩ : ∃ A2, (if cap = 2 then some (⟨g, 0, none⟩ : Addr) else some ⟨g, 2, none⟩) = A2 := ⟨_, rfl⟩
        obtain ⟨c2, hc2⟩ : ∃ c2, cap - 2 = c2 := ⟨_, rfl⟩
        rw [hA2, hc2] at hbd
        have HA2 := Lib.hid hA2
        have HC2 := Lib.hid hc2
        have hl2' : (2 : Int) ≤ (x.length : Int) := by omega
        clear hA2 hc2
        have HOB := Lib.hid HO1.bs
        have c1w := Lib.hid c1
        have HDT := Lib.hid (fun (W : World) (hbw : Below w1.heap.size w1 W) => Decode_any (V : Int) (.slice A2 (x.length - 2) c2) (x.drop 2) (by simp; omega) W (HR.out.below (HB1.out.trans (hbw.mono HB1.out.size))) (HM.out.below (HB1.out.trans (hbw.mono HB1.out.size))) (hbd.below hbw))
        obtain ⟨⟨r, ec⟩, hy⟩ : ∃ y, decC (V : Int) (x.drop 2) = y := ⟨_, rfl⟩
        have HV := Lib.hid (hV.trans hy)
        have HDY := Lib.hid hy
        have hwv : IntKind.i64.wrap (V : Int) = (V : Int) := by rw [IntKind.wrap_i64]; omega
        clear hb1 HO1 hcell h82 hv0 hV hy hbd
        go_wp2_with fail
        clear c0
        refine wp_region_noPanic ?_
        refine wp_region_held_drew (S := fun w' => w'.cell? ⟨g, 1, none⟩ = some (.int .u8 (V : Int)) ∧ Below w1.heap.size w1 w') (by kernel_rfl) ⟨by simpa using c1, (Below.refl _ _).drew⟩ (fun hHeld => ?_)
        refine takeO (i := 0) (d := some 47) (v := (.slice (some ⟨g, 0, none⟩) x.length cap)) (by simp only [List.getElem?_toArray, List.getElem?_cons_zero]; rfl) (by rfl) (by kernel_rfl) (by kernel_rfl) (by kernel_rfl) (fun _ _ _ h => h) (Or.inl ⟨by rfl, ?_⟩) hHeld ?_
        · intro wS hSw; obtain ⟨hS0, hS1⟩ := hSw; go_simp
        simp only [Act.put, List.setIfInBounds_toArray, List.set_cons_zero, List.set_cons_succ]
        refine takeO (i := 1) (d := some 48) (v := (.pointer (some ⟨g, 1, none⟩))) (by simp only [List.getElem?_toArray, List.getElem?_cons_succ, List.getElem?_cons_zero]; rfl) (by rfl) (by kernel_rfl) (by kernel_rfl) (by kernel_rfl) (fun _ _ _ h => h) (Or.inl ⟨by rfl, ?_⟩) hHeld ?_
        · intro wS hSw; obtain ⟨hS0, hS1⟩ := hSw; go_simp
        simp only [Act.put, List.setIfInBounds_toArray, List.set_cons_zero, List.set_cons_succ]
        refine takeO (i := 2) (d := some 49) (v := (.int .u8 (V : Int))) (by simp only [List.getElem?_toArray, List.getElem?_cons_succ, List.getElem?_cons_zero]; rfl) (by rfl) (by kernel_rfl) (by kernel_rfl) (by kernel_rfl) (fun _ _ _ h => h) (Or.inl ⟨by rfl, ?_⟩) hHeld ?_
        · intro wS hSw; obtain ⟨hS0, hS1⟩ := hSw; go_simp
        simp only [Act.put, List.setIfInBounds_toArray, List.set_cons_zero, List.set_cons_succ]
        refine takeO (i := 3) (d := some 50) (v := (.int .i64 (V : Int))) (by simp only [List.getElem?_toArray, List.getElem?_cons_succ, List.getElem?_cons_zero]; rfl) (by rfl) (by kernel_rfl) (by kernel_rfl) (by kernel_rfl) (fun _ _ _ h => h) (Or.inl ⟨by rfl, ?_⟩) hHeld ?_
        · intro wS hSw; obtain ⟨hS0, hS1⟩ := hSw; go_simp
        simp only [Act.put, List.setIfInBounds_toArray, List.set_cons_zero, List.set_cons_succ]
        refine takeO (i := 4) (d := some 51) (v := (.slice (some ⟨g, 0, none⟩) x.length cap)) (by simp only [List.getElem?_toArray, List.getElem?_cons_succ, List.getElem?_cons_zero]; rfl) (by rfl) (by kernel_rfl) (by kernel_rfl) (by kernel_rfl) (fun _ _ _ h => h) (Or.inl ⟨by rfl, ?_⟩) hHeld ?_
        · intro wS hSw; obtain ⟨hS0, hS1⟩ := hSw; go_simp
        simp only [Act.put, List.setIfInBounds_toArray, List.set_cons_zero, List.set_cons_succ]
        refine takeO (i := 5) (d := some 52) (v := (.slice A2 (x.length - 2) c2)) (by simp only [List.getElem?_toArray, List.getElem?_cons_succ, List.getElem?_cons_zero]; rfl) (by rfl) (by kernel_rfl) (by kernel_rfl) (by kernel_rfl) (fun _ _ _ h => h) (Or.inl ⟨by rfl, ?_⟩) hHeld ?_
        · intro wS hSw; obtain ⟨hS0, hS1⟩ := hSw; go_simp; exact ⟨HA2.out, HC2.out⟩
        simp only [Act.put, List.setIfInBounds_toArray, List.set_cons_zero, List.set_cons_succ]
        have hH1 := Lib.hid hHeld
        clear hHeld c1
        refine wpAnyH_ready (rs := [6, 10]) (by kernel_rfl) (by simp) (AllReadyH.cons rfl (fun K hK => ?_) (AllReadyH.cons rfl (fun K hK => ?_) AllReadyH.nil))
        · go_simp
          refine (HDT.out _ hH1.out.2).mono ?_
          rintro e w6 ⟨x6, rfl, HX6, hb6⟩
          rw [HDY.out] at HX6
          simp only at HX6
          obtain ⟨Ad, cd, rfl⟩ := HX6.slice
          have hB6 := hH1.out.2.trans (hb6.mono hH1.out.2.size)
          have hs6 := hb6.size
          have HX6 := Lib.hid HX6
          simp only [HDY.out]
          rw [val_eq]
          refine hK.out _ _ ⟨(hb6.cell (World.block_lt_of_cell? _ _ hH1.out.1)).trans hH1.out.1, hB6⟩ (fun hHeld => ?_)
          clear hK K
          refine takeO (i := 7) (d := some 46) (v := (.tuple #[.agg #[.int .i64 r.v, .int .i64 r.kd, .int .i64 r.sg, .int .i64 r.st, .int .i64 r.tr, .int .i64 r.tm, .int .i64 r.la, .int .i64 r.co, .int .i64 r.cn, .int .i64 r.pv, .string r.nm, .slice Ad r.da.length cd], .int .i64 ec])) (by simp only [List.getElem?_toArray, List.getElem?_cons_succ, List.getElem?_cons_zero]; rfl) (by rfl) (by kernel_rfl) (by kernel_rfl) (by kernel_rfl) (fun _ _ _ h => h) (Or.inl ⟨by rfl, ?_⟩) hHeld ?_
          · intro wS hSw; obtain ⟨hS0, hS1⟩ := hSw; go_simp
          simp only [Act.put, List.setIfInBounds_toArray, List.set_cons_zero, List.set_cons_succ]
          refine takeO (i := 8) (d := some 54) (v := (.agg #[.int .i64 r.v, .int .i64 r.kd, .int .i64 r.sg, .int .i64 r.st, .int .i64 r.tr, .int .i64 r.tm, .int .i64 r.la, .int .i64 r.co, .int .i64 r.cn, .int .i64 r.pv, .string r.nm, .slice Ad r.da.length cd])) (by simp only [List.getElem?_toArray, List.getElem?_cons_succ, List.getElem?_cons_zero]; rfl) (by rfl) (by kernel_rfl) (by kernel_rfl) (by kernel_rfl) (fun _ _ _ h => h) (Or.inl ⟨by rfl, ?_⟩) hHeld ?_
          · intro wS hSw; obtain ⟨hS0, hS1⟩ := hSw; go_simp
          simp only [Act.put, List.setIfInBounds_toArray, List.set_cons_zero, List.set_cons_succ]
          refine takeO (i := 9) (d := some 55) (v := (.int .i64 ec)) (by simp only [List.getElem?_toArray, List.getElem?_cons_succ, List.getElem?_cons_zero]; rfl) (by rfl) (by kernel_rfl) (by kernel_rfl) (by kernel_rfl) (fun _ _ _ h => h) (Or.inl ⟨by rfl, ?_⟩) hHeld ?_
          · intro wS hSw; obtain ⟨hS0, hS1⟩ := hSw; go_simp
          simp only [Act.put, List.setIfInBounds_toArray, List.set_cons_zero, List.set_cons_succ]
          refine wpAnyH_ready (rs := [10]) (by kernel_rfl) (by simp) (AllReadyH.cons rfl (fun K hK => ?_) AllReadyH.nil)
          go_simp
          have hA8 : Below w1.heap.size w1 (w6.alloc (.cells #[.int .i64 0, .int .i64 0, .int .i64 0, .int .i64 0, .int .i64 0, .int .i64 0, .int .i64 0, .int .i64 0, .int .i64 0, .int .i64 0, .string ⟨#[]⟩, .slice none 0 0] 62)) := hB6.alloc (by have := hB6.size; omega) _
          refine hK.out _ _ ⟨(hA8.cell (by simp only; omega)).trans c1w.out, hA8⟩ (fun hHeld => ?_)
          clear hK K
          have hB6' := hA8
          have HO6' := own_mono (HX6.out.below ((Below.refl _ w6).alloc (Nat.le_refl _) (.cells #[.int .i64 0, .int .i64 0, .int .i64 0, .int .i64 0, .int .i64 0, .int .i64 0, .int .i64 0, .int .i64 0, .int .i64 0, .int .i64 0, .string ⟨#[]⟩, .slice none 0 0] 62))) (show w1.heap.size ≤ _ by have := hH1.out.2.size; omega)
          have hn8 := heap_alloc_new w6 (.cells #[.int .i64 0, .int .i64 0, .int .i64 0, .int .i64 0, .int .i64 0, .int .i64 0, .int .i64 0, .int .i64 0, .int .i64 0, .int .i64 0, .string ⟨#[]⟩, .slice none 0 0] 62)
          have hs61 : w1.heap.size ≤ w6.heap.size := by have := hB6.size; omega
          refine wpAnyH_ready (rs := [11]) (by kernel_rfl) (by simp) (AllReadyH.cons rfl (fun K hK => ?_) AllReadyH.nil)
          rw [if_pos (by rfl)]
          have hH3 := Lib.hid hHeld
          clear hHeld
          refine wp_store_row 62 (.tmp 10) (.tmp 54) rfl (w6.heap.size) #[.int .i64 r.v, .int .i64 r.kd, .int .i64 r.sg, .int .i64 r.st, .int .i64 r.tr, .int .i64 r.tm, .int .i64 r.la, .int .i64 r.co, .int .i64 r.cn, .int .i64 r.pv, .string r.nm, .slice Ad r.da.length cd] rfl rfl 62 #[.int .i64 0, .int .i64 0, .int .i64 0, .int .i64 0, .int .i64 0, .int .i64 0, .int .i64 0, .int .i64 0, .int .i64 0, .int .i64 0, .string ⟨#[]⟩, .slice none 0 0] hn8 (by kernel_rfl) rfl (by simp [Value.oneCell']) ?_
          have hB7 : Below w1.heap.size w1 ((w6.alloc (.cells #[.int .i64 0, .int .i64 0, .int .i64 0, .int .i64 0, .int .i64 0, .int .i64 0, .int .i64 0, .int .i64 0, .int .i64 0, .int .i64 0, .string ⟨#[]⟩, .slice none 0 0] 62)).setRow (w6.heap.size) #[.int .i64 r.v, .int .i64 r.kd, .int .i64 r.sg, .int .i64 r.st, .int .i64 r.tr, .int .i64 r.tm, .int .i64 r.la, .int .i64 r.co, .int .i64 r.cn, .int .i64 r.pv, .string r.nm, .slice Ad r.da.length cd]) := hB6'.grown (grownBy_setRow _ _ _) (by have := hB6'.size; omega) (fun k e => by injection e with e; omega)
          have K7 := Lib.hid (setRow_box (w6.alloc (.cells #[.int .i64 0, .int .i64 0, .int .i64 0, .int .i64 0, .int .i64 0, .int .i64 0, .int .i64 0, .int .i64 0, .int .i64 0, .int .i64 0, .string ⟨#[]⟩, .slice none 0 0] 62)) (w6.heap.size) #[.int .i64 0, .int .i64 0, .int .i64 0, .int .i64 0, .int .i64 0, .int .i64 0, .int .i64 0, .int .i64 0, .int .i64 0, .int .i64 0, .string ⟨#[]⟩, .slice none 0 0] #[.int .i64 r.v, .int .i64 r.kd, .int .i64 r.sg, .int .i64 r.st, .int .i64 r.tr, .int .i64 r.tm, .int .i64 r.la, .int .i64 r.co, .int .i64 r.cn, .int .i64 r.pv, .string r.nm, .slice Ad r.da.length cd] hn8)
          have HO7 := Lib.hid (show Ob ((w6.alloc (.cells #[.int .i64 0, .int .i64 0, .int .i64 0, .int .i64 0, .int .i64 0, .int .i64 0, .int .i64 0, .int .i64 0, .int .i64 0, .int .i64 0, .string ⟨#[]⟩, .slice none 0 0] 62)).setRow (w6.heap.size) #[.int .i64 r.v, .int .i64 r.kd, .int .i64 r.sg, .int .i64 r.st, .int .i64 r.tr, .int .i64 r.tm, .int .i64 r.la, .int .i64 r.co, .int .i64 r.cn, .int .i64 r.pv, .string r.nm, .slice Ad r.da.length cd]) w1.heap.size (.slice Ad r.da.length cd) r.da from own_mono (own_kp HO6' (Kp.of_grown (grownBy_setRow _ _ _)) (fun j hj e => by have := HO6'.lt j hj; have := HX6.out.lt j hj; injection e with e; omega)) (by omega))
          have HB7 := Lib.hid hB7
          refine hK.out _ _ ⟨(Kp.of_grown (grownBy_setRow _ _ _)).cell hH3.out.1 (fun e => by injection e with e; simp only at e; omega), hB7⟩ (fun hHeld => ?_)
          clear hK K
          refine wpAnyH_ready (rs := [12]) (by kernel_rfl) (by simp) (AllReadyH.cons rfl (fun K hK => ?_) AllReadyH.nil)
          go_simp
          refine hK.out _ _ hHeld (fun hHeld => ?_)
          clear hK K
          refine wpAnyH_done (by kernel_rfl) ?_ _
          refine NoPanic.normal ?_
          clear hB7 hH3 hHeld HO6' hB6'
          generalize (w6.alloc (.cells #[.int .i64 0, .int .i64 0, .int .i64 0, .int .i64 0, .int .i64 0, .int .i64 0, .int .i64 0, .int .i64 0, .int .i64 0, .int .i64 0, .string ⟨#[]⟩, .slice none 0 0] 62)).setRow (w6.heap.size) #[.int .i64 r.v, .int .i64 r.kd, .int .i64 r.sg, .int .i64 r.st, .int .i64 r.tr, .int .i64 r.tm, .int .i64 r.la, .int .i64 r.co, .int .i64 r.cn, .int .i64 r.pv, .string r.nm, .slice Ad r.da.length cd] = w7 at K7 HO7 HB7
          have K07 := Lib.hid ((HB7.out.block w.heap.size (by omega)).trans H0.out)
          have HB77 := Lib.hid (HB1.out.trans (HB7.out.mono HB1.out.size))
          go_wp2_with (first
            | (refine ld_cs (by exact rfl) (by exact rfl) (w6.heap.size) (by exact rfl) #[.int .i64 r.v, .int .i64 r.kd, .int .i64 r.sg, .int .i64 r.st, .int .i64 r.tr, .int .i64 r.tm, .int .i64 r.la, .int .i64 r.co, .int .i64 r.cn, .int .i64 r.pv, .string r.nm, .slice Ad r.da.length cd] rfl (by exact K7.out) ?_)
            | (refine st_cs (by exact rfl) (by exact rfl) w.heap.size (by exact rfl) #[.int .i64 r.v, .int .i64 r.kd, .int .i64 r.sg, .int .i64 r.st, .int .i64 r.tr, .int .i64 r.tm, .int .i64 r.la, .int .i64 r.co, .int .i64 r.cn, .int .i64 r.pv, .string r.nm, .slice Ad r.da.length cd] #[.int .i64 0, .int .i64 0, .int .i64 0, .int .i64 0, .int .i64 0, .int .i64 0, .int .i64 0, .int .i64 0, .int .i64 0, .int .i64 0, .string ⟨#[]⟩, .slice none 0 0] (by exact rfl) rfl rfl (by simp [Value.oneCell']) (by exact K07.out) ?_))
          refine bodyPost_ret (results_cell2 rfl _ _ _ w.heap.size #[.int .i64 r.v, .int .i64 r.kd, .int .i64 r.sg, .int .i64 r.st, .int .i64 r.tr, .int .i64 r.tm, .int .i64 r.la, .int .i64 r.co, .int .i64 r.cn, .int .i64 r.pv, .string r.nm, .slice Ad r.da.length cd] rfl (ld_box (setRow_box _ _ _ _ K07.out) rfl)) rfl (by exact ⟨.slice Ad r.da.length cd, _, by rw [HV.out]; rfl, fun _ => rfl, by rw [HV.out]; exact own_mono (own_kp HO7.out (Kp.of_grown (grownBy_setRow _ _ _)) (fun j hj e => by have := (HO7.out.lt j hj).1; injection e with e; omega)) (by omega), below_setRow HB77.out⟩)
        · go_simp
          have hA8 : Below w1.heap.size w1 (w1.alloc (.cells #[.int .i64 0, .int .i64 0, .int .i64 0, .int .i64 0, .int .i64 0, .int .i64 0, .int .i64 0, .int .i64 0, .int .i64 0, .int .i64 0, .string ⟨#[]⟩, .slice none 0 0] 62)).drew := ((Below.refl _ w1).alloc (Nat.le_refl _) _).drew
          have hn8 : (w1.alloc (.cells #[.int .i64 0, .int .i64 0, .int .i64 0, .int .i64 0, .int .i64 0, .int .i64 0, .int .i64 0, .int .i64 0, .int .i64 0, .int .i64 0, .string ⟨#[]⟩, .slice none 0 0] 62)).drew.heap[w1.heap.size]? = some (.cells #[.int .i64 0, .int .i64 0, .int .i64 0, .int .i64 0, .int .i64 0, .int .i64 0, .int .i64 0, .int .i64 0, .int .i64 0, .int .i64 0, .string ⟨#[]⟩, .slice none 0 0] 62 (0, 0)) := heap_alloc_new w1 (.cells #[.int .i64 0, .int .i64 0, .int .i64 0, .int .i64 0, .int .i64 0, .int .i64 0, .int .i64 0, .int .i64 0, .int .i64 0, .int .i64 0, .string ⟨#[]⟩, .slice none 0 0] 62)
          have hz8 : (w1.alloc (.cells #[.int .i64 0, .int .i64 0, .int .i64 0, .int .i64 0, .int .i64 0, .int .i64 0, .int .i64 0, .int .i64 0, .int .i64 0, .int .i64 0, .string ⟨#[]⟩, .slice none 0 0] 62)).drew.heap.size = w1.heap.size + 1 := World.size_alloc _ _
          refine hK.out _ _ ⟨(hA8.cell (by simp only; omega)).trans c1w.out, hA8⟩ (fun hHeld => ?_)
          clear hK K
          refine wpAnyH_ready (rs := [6]) (by kernel_rfl) (by simp) (AllReadyH.cons rfl (fun K hK => ?_) AllReadyH.nil)
          have hH2 := Lib.hid hHeld
          clear hHeld
          go_simp
          refine (HDT.out _ hA8).mono ?_
          rintro e w6 ⟨x6, rfl, HX6, hb6⟩
          rw [HDY.out] at HX6
          simp only at HX6
          obtain ⟨Ad, cd, rfl⟩ := HX6.slice
          have hB6 := hA8.trans (hb6.mono hA8.size)
          have hs6 := hb6.size
          have HX6 := Lib.hid HX6
          simp only [HDY.out]
          rw [val_eq]
          refine hK.out _ _ ⟨(hB6.cell (by simp only; omega)).trans c1w.out, hB6⟩ (fun hHeld => ?_)
          clear hK K
          refine takeO (i := 7) (d := some 46) (v := (.tuple #[.agg #[.int .i64 r.v, .int .i64 r.kd, .int .i64 r.sg, .int .i64 r.st, .int .i64 r.tr, .int .i64 r.tm, .int .i64 r.la, .int .i64 r.co, .int .i64 r.cn, .int .i64 r.pv, .string r.nm, .slice Ad r.da.length cd], .int .i64 ec])) (by simp only [List.getElem?_toArray, List.getElem?_cons_succ, List.getElem?_cons_zero]; rfl) (by rfl) (by kernel_rfl) (by kernel_rfl) (by kernel_rfl) (fun _ _ _ h => h) (Or.inl ⟨by rfl, ?_⟩) hHeld ?_
          · intro wS hSw; obtain ⟨hS0, hS1⟩ := hSw; go_simp
          simp only [Act.put, List.setIfInBounds_toArray, List.set_cons_zero, List.set_cons_succ]
          refine takeO (i := 8) (d := some 54) (v := (.agg #[.int .i64 r.v, .int .i64 r.kd, .int .i64 r.sg, .int .i64 r.st, .int .i64 r.tr, .int .i64 r.tm, .int .i64 r.la, .int .i64 r.co, .int .i64 r.cn, .int .i64 r.pv, .string r.nm, .slice Ad r.da.length cd])) (by simp only [List.getElem?_toArray, List.getElem?_cons_succ, List.getElem?_cons_zero]; rfl) (by rfl) (by kernel_rfl) (by kernel_rfl) (by kernel_rfl) (fun _ _ _ h => h) (Or.inl ⟨by rfl, ?_⟩) hHeld ?_
          · intro wS hSw; obtain ⟨hS0, hS1⟩ := hSw; go_simp
          simp only [Act.put, List.setIfInBounds_toArray, List.set_cons_zero, List.set_cons_succ]
          refine takeO (i := 9) (d := some 55) (v := (.int .i64 ec)) (by simp only [List.getElem?_toArray, List.getElem?_cons_succ, List.getElem?_cons_zero]; rfl) (by rfl) (by kernel_rfl) (by kernel_rfl) (by kernel_rfl) (fun _ _ _ h => h) (Or.inl ⟨by rfl, ?_⟩) hHeld ?_
          · intro wS hSw; obtain ⟨hS0, hS1⟩ := hSw; go_simp
          simp only [Act.put, List.setIfInBounds_toArray, List.set_cons_zero, List.set_cons_succ]
          have hB6' := hB6
          have HO6' := own_mono HX6.out (show w1.heap.size ≤ _ by omega)
          have hn9 := (hb6.block w1.heap.size (by omega)).trans hn8
          have hs61 : w1.heap.size + 1 ≤ w6.heap.size := by omega
          refine wpAnyH_ready (rs := [11]) (by kernel_rfl) (by simp) (AllReadyH.cons rfl (fun K hK => ?_) AllReadyH.nil)
          rw [if_pos (by rfl)]
          have hH3 := Lib.hid hHeld
          clear hHeld
          refine wp_store_row 62 (.tmp 10) (.tmp 54) rfl (w1.heap.size) #[.int .i64 r.v, .int .i64 r.kd, .int .i64 r.sg, .int .i64 r.st, .int .i64 r.tr, .int .i64 r.tm, .int .i64 r.la, .int .i64 r.co, .int .i64 r.cn, .int .i64 r.pv, .string r.nm, .slice Ad r.da.length cd] rfl rfl 62 #[.int .i64 0, .int .i64 0, .int .i64 0, .int .i64 0, .int .i64 0, .int .i64 0, .int .i64 0, .int .i64 0, .int .i64 0, .int .i64 0, .string ⟨#[]⟩, .slice none 0 0] hn9 (by kernel_rfl) rfl (by simp [Value.oneCell']) ?_
          have hB7 : Below w1.heap.size w1 ((w6).setRow (w1.heap.size) #[.int .i64 r.v, .int .i64 r.kd, .int .i64 r.sg, .int .i64 r.st, .int .i64 r.tr, .int .i64 r.tm, .int .i64 r.la, .int .i64 r.co, .int .i64 r.cn, .int .i64 r.pv, .string r.nm, .slice Ad r.da.length cd]) := hB6'.grown (grownBy_setRow _ _ _) (by have := hB6'.size; omega) (fun k e => by injection e with e; omega)
          have K7 := Lib.hid (setRow_box (w6) (w1.heap.size) #[.int .i64 0, .int .i64 0, .int .i64 0, .int .i64 0, .int .i64 0, .int .i64 0, .int .i64 0, .int .i64 0, .int .i64 0, .int .i64 0, .string ⟨#[]⟩, .slice none 0 0] #[.int .i64 r.v, .int .i64 r.kd, .int .i64 r.sg, .int .i64 r.st, .int .i64 r.tr, .int .i64 r.tm, .int .i64 r.la, .int .i64 r.co, .int .i64 r.cn, .int .i64 r.pv, .string r.nm, .slice Ad r.da.length cd] hn9)
          have HO7 := Lib.hid (show Ob ((w6).setRow (w1.heap.size) #[.int .i64 r.v, .int .i64 r.kd, .int .i64 r.sg, .int .i64 r.st, .int .i64 r.tr, .int .i64 r.tm, .int .i64 r.la, .int .i64 r.co, .int .i64 r.cn, .int .i64 r.pv, .string r.nm, .slice Ad r.da.length cd]) w1.heap.size (.slice Ad r.da.length cd) r.da from own_mono (own_kp HO6' (Kp.of_grown (grownBy_setRow _ _ _)) (fun j hj e => by have := HO6'.lt j hj; have := HX6.out.lt j hj; injection e with e; omega)) (by omega))
          have HB7 := Lib.hid hB7
          refine hK.out _ _ ⟨(Kp.of_grown (grownBy_setRow _ _ _)).cell hH3.out.1 (fun e => by injection e with e; simp only at e; omega), hB7⟩ (fun hHeld => ?_)
          clear hK K
          refine wpAnyH_ready (rs := [12]) (by kernel_rfl) (by simp) (AllReadyH.cons rfl (fun K hK => ?_) AllReadyH.nil)
          go_simp
          refine hK.out _ _ hHeld (fun hHeld => ?_)
          clear hK K
          refine wpAnyH_done (by kernel_rfl) ?_ _
          refine NoPanic.normal ?_
          clear hB7 hH3 hHeld HO6' hB6'
          generalize (w6).setRow (w1.heap.size) #[.int .i64 r.v, .int .i64 r.kd, .int .i64 r.sg, .int .i64 r.st, .int .i64 r.tr, .int .i64 r.tm, .int .i64 r.la, .int .i64 r.co, .int .i64 r.cn, .int .i64 r.pv, .string r.nm, .slice Ad r.da.length cd] = w7 at K7 HO7 HB7
          have K07 := Lib.hid ((HB7.out.block w.heap.size (by omega)).trans H0.out)
          have HB77 := Lib.hid (HB1.out.trans (HB7.out.mono HB1.out.size))
          go_wp2_with (first
            | (refine ld_cs (by exact rfl) (by exact rfl) (w1.heap.size) (by exact rfl) #[.int .i64 r.v, .int .i64 r.kd, .int .i64 r.sg, .int .i64 r.st, .int .i64 r.tr, .int .i64 r.tm, .int .i64 r.la, .int .i64 r.co, .int .i64 r.cn, .int .i64 r.pv, .string r.nm, .slice Ad r.da.length cd] rfl (by exact K7.out) ?_)
            | (refine st_cs (by exact rfl) (by exact rfl) w.heap.size (by exact rfl) #[.int .i64 r.v, .int .i64 r.kd, .int .i64 r.sg, .int .i64 r.st, .int .i64 r.tr, .int .i64 r.tm, .int .i64 r.la, .int .i64 r.co, .int .i64 r.cn, .int .i64 r.pv, .string r.nm, .slice Ad r.da.length cd] #[.int .i64 0, .int .i64 0, .int .i64 0, .int .i64 0, .int .i64 0, .int .i64 0, .int .i64 0, .int .i64 0, .int .i64 0, .int .i64 0, .string ⟨#[]⟩, .slice none 0 0] (by exact rfl) rfl rfl (by simp [Value.oneCell']) (by exact K07.out) ?_))
          refine bodyPost_ret (results_cell2 rfl _ _ _ w.heap.size #[.int .i64 r.v, .int .i64 r.kd, .int .i64 r.sg, .int .i64 r.st, .int .i64 r.tr, .int .i64 r.tm, .int .i64 r.la, .int .i64 r.co, .int .i64 r.cn, .int .i64 r.pv, .string r.nm, .slice Ad r.da.length cd] rfl (ld_box (setRow_box _ _ _ _ K07.out) rfl)) rfl (by exact ⟨.slice Ad r.da.length cd, _, by rw [HV.out]; rfl, fun _ => rfl, by rw [HV.out]; exact own_mono (own_kp HO7.out (Kp.of_grown (grownBy_setRow _ _ _)) (fun j hj e => by have := (HO7.out.lt j hj).1; injection e with e; omega)) (by omega), below_setRow HB77.out⟩)
    · have HV := Lib.hid (show rdRec b p = (rc0, 171) by rw [hdef]; unfold rdRecB; rw [if_pos h82])
      have hz : (((x.getD 0 0).toNat : Int) != 82) = true := by
        rw [bne_iff_ne]; intro e; exact h82 (UInt8.toNat_inj.1 (by show _ = 82; omega))
      clear hdef
      go_enter Tryd.func57, Tryd.ntmps57
      go_wp2_with fail
      rw [HW0.out]
      refine HFR.out.mono ?_
      rintro ee w1 ⟨v1, rfl, HO1, hb1⟩
      obtain ⟨g, cap, rfl, -, -, -⟩ := HO1.form hx0
      obtain ⟨g', o', e, hcell⟩ := HO1.bs.at0 hx0
      injection e with e; injection e with e1 e2 _
      subst e1; subst e2
      have c0 := hcell 0 hx0
      rw [Nat.zero_add] at c0
      generalize (x.getD 0 0).toNat = z0 at c0 hz
      have H0 := Lib.hid ((hb1.block w.heap.size (by omega)).trans HN0.out)
      have HB1 := Lib.hid (hB0.trans (hb1.mono (by omega)))
      clear hb1 HO1 hcell h82
      go_wp2_with (refine st_cs (by exact rfl) (by exact rfl) w.heap.size (by exact rfl) #[.int .i64 0, .int .i64 0, .int .i64 0, .int .i64 0, .int .i64 0, .int .i64 0, .int .i64 0, .int .i64 0, .int .i64 0, .int .i64 0, .string ⟨#[]⟩, .slice none 0 0] #[.int .i64 0, .int .i64 0, .int .i64 0, .int .i64 0, .int .i64 0, .int .i64 0, .int .i64 0, .int .i64 0, .int .i64 0, .int .i64 0, .string ⟨#[]⟩, .slice none 0 0] (by exact rfl) rfl rfl (by simp [Value.oneCell']) (by exact H0.out) ?_)
      refine bodyPost_ret (results_cell2 rfl _ _ _ w.heap.size #[.int .i64 0, .int .i64 0, .int .i64 0, .int .i64 0, .int .i64 0, .int .i64 0, .int .i64 0, .int .i64 0, .int .i64 0, .int .i64 0, .string ⟨#[]⟩, .slice none 0 0] rfl (ld_box (setRow_box _ _ _ _ H0.out) rfl)) rfl (by exact RecE.zero HV.out (by omega) (below_setRow HB1.out))
end Go.Proofs.YtfmlkagcmkbebaaDoor
