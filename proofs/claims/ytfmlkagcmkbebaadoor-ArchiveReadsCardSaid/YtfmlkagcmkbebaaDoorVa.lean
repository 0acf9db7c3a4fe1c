/- A record's bytes, plainly. -/
import Derived.Test.YtfmlkagcmkbebaaDoorUa
import Derived.Test.YtfmlkagcmkbebaaDoorTe
import Derived.Test.YtfmlkagcmkbebaaDoorPa
namespace Go.Proofs.YtfmlkagcmkbebaaDoor
open Go.RowKit

/-- A signed number as an unsigned one. -/
def zig (v : Int) : Nat := if 0 ≤ v then (2 * v).toNat else (-2 * v - 1).toNat
def valB (r : Rc) (t : Nat) : List UInt8 :=
  if t = 7 then uvar (zig r.co) else if t = 10 then uvar r.nm.data.toList.length ++ r.nm.data.toList else if t = 11 then uvar r.da.length ++ r.da else uvar (r.num t).toNat
def encF (r : Rc) : Nat → Nat → List UInt8
  | 0, _ => []
  | f + 1, t => if zeroB r t then encF r f (t + 1) else [UInt8.ofNat t] ++ valB r t ++ encF r f (t + 1)
/-- The bytes of a valid record. -/
def encB (r : Rc) : List UInt8 := encF r 11 1

/-! What a record that passes Check is like. -/
theorem ckF_all {r : Rc} {m : Nat} : ∀ (f t : Nat), ckF r m f t = 0 → ∀ j, t ≤ j → j < t + f → (bitB m j = true ∧ boundsC r j = 0) ∨ (bitB m j = false ∧ zeroB r j = true)
  | 0, t, _, j, h1, h2 => by omega
  | f + 1, t, h, j, h1, h2 => by
    unfold ckF at h
    split at h
    · rename_i hb
      split at h
      · rename_i hc
        rcases Nat.lt_or_eq_of_le h1 with h3 | h3
        · exact ckF_all f (t + 1) h j h3 (by omega)
        · subst h3; exact .inl ⟨hb, hc⟩
      · rename_i hc; exact absurd h hc
    · rename_i hb
      split at h
      · rename_i hz
        rcases Nat.lt_or_eq_of_le h1 with h3 | h3
        · exact ckF_all f (t + 1) h j h3 (by omega)
        · subst h3; exact .inr ⟨by simpa using hb, hz⟩
      · omega
structure Rc.Good (r : Rc) : Prop where
  ck : checkC r = 0
theorem Rc.Good.all {r : Rc} (h : r.Good) : (1 ≤ r.v ∧ r.v ≤ 3) ∧ (1 ≤ r.kd ∧ r.kd ≤ 7) ∧ 1 ≤ r.sg ∧ ∀ j, 3 ≤ j → j ≤ 11 → boundsC r j = 0 ∨ zeroB r j = true := by
  have h := h.ck
  unfold checkC at h
  split at h
  · omega
  · split at h
    · omega
    · split at h
      · omega
      · refine ⟨by omega, by omega, by omega, fun j h1 h2 => ?_⟩
        rcases ckF_all 9 3 h j h1 (by omega) with h3 | h3
        · exact .inl h3.2
        · exact .inr h3.2
theorem withinC_lo {n lo hi : Int} (h : withinC n lo hi = 0) : lo ≤ n ∧ n ≤ hi := by
  unfold withinC at h; split at h <;> omega
/-- Numbers of a valid record are not negative, but its code. -/
theorem Rc.Good.num {r : Rc} (h : r.Good) {t : Nat} (h1 : 1 ≤ t) (h9 : t ≤ 9) (h7 : t ≠ 7) : 0 ≤ r.num t := by
  obtain ⟨hv, hk, hs, ha⟩ := h.all
  rcases (by omega : t = 1 ∨ t = 2 ∨ t = 3 ∨ t = 4 ∨ t = 5 ∨ t = 6 ∨ t = 8 ∨ t = 9) with rfl | rfl | rfl | rfl | rfl | rfl | rfl | rfl
  · show 0 ≤ r.kd; omega
  · show 0 ≤ r.sg; omega
  · rcases ha 3 (by omega) (by omega) with h2 | h2
    · rw [show boundsC r 3 = if oldB r then withinC r.st 1 32 else withinC r.st 0 31 from rfl] at h2
      show 0 ≤ r.st
      split at h2 <;> have := withinC_lo h2 <;> omega
    · have : (r.num 3 == 0) = true := h2
      rw [beq_iff_eq] at this; omega
  · rcases ha 4 (by omega) (by omega) with h2 | h2
    · have := withinC_lo (show withinC r.tr 1 1000 = 0 from h2); show 0 ≤ r.tr; omega
    · have : (r.num 4 == 0) = true := h2
      rw [beq_iff_eq] at this; omega
  · rcases ha 5 (by omega) (by omega) with h2 | h2
    · have := withinC_lo (show withinC r.tm 0 _ = 0 from h2); show 0 ≤ r.tm; omega
    · have : (r.num 5 == 0) = true := h2
      rw [beq_iff_eq] at this; omega
  · rcases ha 6 (by omega) (by omega) with h2 | h2
    · have := withinC_lo (show withinC r.la 0 1 = 0 from h2); show 0 ≤ r.la; omega
    · have : (r.num 6 == 0) = true := h2
      rw [beq_iff_eq] at this; omega
  · rcases ha 8 (by omega) (by omega) with h2 | h2
    · have := withinC_lo (show withinC r.cn 1 32 = 0 from h2); show 0 ≤ r.cn; omega
    · have : (r.num 8 == 0) = true := h2
      rw [beq_iff_eq] at this; omega
  · rcases ha 9 (by omega) (by omega) with h2 | h2
    · have := withinC_lo (show withinC r.pv 0 r.cn = 0 from h2); show 0 ≤ r.pv; omega
    · have : (r.num 9 == 0) = true := h2
      rw [beq_iff_eq] at this; omega
theorem nameF_size {s : ByteArray} : ∀ (f i k : Nat), nameF s f i k = true → s.size ≤ i + f → k ≤ 48 → s.size ≤ i + 4 * (48 - k)
  | 0, i, k, _, hf, _ => by omega
  | f + 1, i, k, h, hf, hk => by
    unfold nameF at h
    split at h
    · rename_i hlt
      simp only [Bool.and_eq_true, decide_eq_true_eq] at h
      obtain ⟨⟨⟨h1, _⟩, _⟩, h2⟩ := h
      have hw := decode_width s i hlt
      have hw4 := decode_w4 s i
      have := nameF_size f _ _ h2 (by omega) (by omega)
      omega
    · omega
theorem Rc.Good.da {r : Rc} (h : r.Good) : r.da.length ≤ 16384 := by
  obtain ⟨_, _, _, ha⟩ := h.all
  rcases ha 11 (by omega) (by omega) with h2 | h2
  · rw [show boundsC r 11 = if 16384 < r.da.length then 36 else if oldB r then labelC ⟨r.da.toArray⟩ else 0 from rfl] at h2
    split at h2 <;> omega
  · have : ((r.da.length : Int) == 0) = true := h2
    rw [beq_iff_eq] at this; omega
theorem Rc.Good.nm {r : Rc} (h : r.Good) : r.nm.size ≤ 192 := by
  obtain ⟨_, _, _, ha⟩ := h.all
  rcases ha 10 (by omega) (by omega) with h2 | h2
  · have h3 : labelC r.nm = 0 := h2
    unfold labelC at h3
    split at h3
    · rename_i hn
      have := nameF_size r.nm.size 0 0 hn (by omega) (by omega)
      omega
    · omega
  · have h3 : r.nm.toList.isEmpty = true := h2
    have h4 : r.nm.data.toList = [] := by
      have e : r.nm.toList = r.nm.data.toList := Lib.toList_data r.nm
      rw [e] at h3; simpa using h3
    have : r.nm.size = r.nm.data.toList.length := by rw [Array.length_toList]; rfl
    rw [this, h4]; simp
theorem valB_len {r : Rc} (h : r.Good) (hf : ∀ t, t ≤ 9 → -9223372036854775808 ≤ r.num t ∧ r.num t ≤ 9223372036854775807) {t : Nat} (ht : t ≤ 11) : (valB r t).length ≤ 16394 := by
  have hn := h.nm
  have hd := h.da
  have e : r.nm.size = r.nm.data.toList.length := by rw [Array.length_toList]; rfl
  unfold valB
  split
  · have := hf 7 (by omega)
    have h2 : r.num 7 = r.co := rfl
    have := uvar_len10 (n := zig r.co) (by unfold zig; split <;> omega)
    omega
  · split
    · have := uvar_len10 (n := r.nm.data.toList.length) (by omega)
      rw [List.length_append]; omega
    · split
      · have := uvar_len10 (n := r.da.length) (by omega)
        rw [List.length_append]; omega
      · have := hf t (by omega)
        have := uvar_len10 (n := (r.num t).toNat) (by omega)
        omega
theorem encF_len {r : Rc} (h : r.Good) (hf : ∀ t, t ≤ 9 → -9223372036854775808 ≤ r.num t ∧ r.num t ≤ 9223372036854775807) : ∀ (f t : Nat), t + f ≤ 12 → (encF r f t).length ≤ 16395 * f
  | 0, _, _ => by simp [encF]
  | f + 1, t, ht => by
    have := encF_len h hf f (t + 1) (by omega)
    unfold encF
    split
    · omega
    · have := valB_len h hf (t := t) (by omega)
      simp only [List.length_append, List.length_cons, List.length_nil]; omega
theorem encB_len {r : Rc} (h : r.Good) (hf : ∀ t, t ≤ 9 → -9223372036854775808 ≤ r.num t ∧ r.num t ≤ 9223372036854775807) : (encB r).length ≤ 180345 := encF_len h hf 11 1 (by omega)
end Go.Proofs.YtfmlkagcmkbebaaDoor
