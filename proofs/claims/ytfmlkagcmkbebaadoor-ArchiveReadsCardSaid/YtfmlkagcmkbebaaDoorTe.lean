/- A piece of a text, as the document's answer reads it, is what the decoder reads. -/
import Derived.Test.YtfmlkagcmkbebaaDoorTa
namespace Go.Proofs.YtfmlkagcmkbebaaDoor

/-- The class of a first byte: how many bytes, what it bears, the least rune. -/
def cls (b : Nat) : Option (Nat × Nat × Nat) :=
  if 192 ≤ b ∧ b < 224 then some (2, b - 192, 128) else if 224 ≤ b ∧ b < 240 then some (3, b - 224, 2048) else if 240 ≤ b ∧ b < 248 then some (4, b - 240, 65536) else none
/-- Behind k continuing bytes. -/
def acc (s : ByteArray) (i r0 : Nat) : Nat → Nat
  | 0 => r0
  | k + 1 => acc s i r0 k * 64 + (b0 s (i + (k + 1)) - 128)
theorem cont_iff (s : ByteArray) (i : Nat) : cont s i = true ↔ i < s.size ∧ 128 ≤ b0 s i ∧ b0 s i < 192 := by
  unfold cont; simp only [Bool.and_eq_true, decide_eq_true_eq, beq_iff_eq]; omega
theorem b0_lt (s : ByteArray) (i : Nat) : b0 s i < 256 := (s.get! i).toNat_lt
theorem valid_iff (r : Nat) : Utf8.valid (r : Int) = true ↔ r < 55296 ∨ (57344 ≤ r ∧ r ≤ 1114111) := by
  unfold Utf8.valid; simp only [Bool.and_eq_true, Bool.or_eq_true, decide_eq_true_eq]; omega
theorem beq_ff {a b : Nat} (h : a ≠ b) : (a == b) = false := by rw [beq_eq_false_iff_ne]; exact h
theorem piece_low {s : ByteArray} {i : Nat} (h : b0 s i < 128) : Utf8.decode s i = (b0 s i, 1) := by rw [decode_eq, if_pos h]
theorem piece_none {s : ByteArray} {i : Nat} (h : 128 ≤ b0 s i) (hc : cls (b0 s i) = none) : Utf8.decode s i = (65533, 1) := by
  have hn : ¬ (192 ≤ b0 s i ∧ b0 s i < 224) ∧ ¬ (224 ≤ b0 s i ∧ b0 s i < 240) ∧ ¬ (240 ≤ b0 s i ∧ b0 s i < 248) := by
    unfold cls at hc
    refine ⟨fun h1 => ?_, fun h1 => ?_, fun h1 => ?_⟩
    · rw [if_pos h1] at hc; cases hc
    · rw [if_neg (by omega), if_pos h1] at hc; cases hc
    · rw [if_neg (by omega), if_neg (by omega), if_pos h1] at hc; cases hc
  have hb := b0_lt s i
  rw [decode_eq, if_neg (by omega), beq_ff (by omega : b0 s i / 32 ≠ 6), beq_ff (by omega : b0 s i / 16 ≠ 14), beq_ff (by omega : b0 s i / 8 ≠ 30)]
  rfl
theorem cls_cases {b n r0 l : Nat} (h : cls b = some (n, r0, l)) : (n = 2 ∧ r0 = b - 192 ∧ l = 128 ∧ 192 ≤ b ∧ b < 224) ∨ (n = 3 ∧ r0 = b - 224 ∧ l = 2048 ∧ 224 ≤ b ∧ b < 240) ∨ (n = 4 ∧ r0 = b - 240 ∧ l = 65536 ∧ 240 ≤ b ∧ b < 248) := by
  unfold cls at h
  split at h
  · injection h with h; injection h with h1 h2; injection h2 with h2 h3; omega
  · split at h
    · injection h with h; injection h with h1 h2; injection h2 with h2 h3; omega
    · split at h
      · injection h with h; injection h with h1 h2; injection h2 with h2 h3; omega
      · cases h
set_option maxRecDepth 50000 in
theorem piece_bad {s : ByteArray} {i n r0 l : Nat} (hc : cls (b0 s i) = some (n, r0, l)) {j : Nat} (h1 : 1 ≤ j) (hj : j < n) (hn : cont s (i + j) = false) : Utf8.decode s i = (65533, 1) := by
  rw [decode_eq]
  rcases cls_cases hc with ⟨rfl, -, -, h2, h3⟩ | ⟨rfl, -, -, h2, h3⟩ | ⟨rfl, -, -, h2, h3⟩
  · obtain rfl : j = 1 := by omega
    rw [if_neg (by omega), hn, beq_ff (by omega : b0 s i / 16 ≠ 14), beq_ff (by omega : b0 s i / 8 ≠ 30)]
    simp
  · rw [if_neg (by omega), beq_ff (by omega : b0 s i / 32 ≠ 6), beq_ff (by omega : b0 s i / 8 ≠ 30)]
    rcases (by omega : j = 1 ∨ j = 2) with rfl | rfl
    · rw [hn]; simp
    · rw [hn]; simp
  · rw [if_neg (by omega), beq_ff (by omega : b0 s i / 32 ≠ 6), beq_ff (by omega : b0 s i / 16 ≠ 14)]
    rcases (by omega : j = 1 ∨ j = 2 ∨ j = 3) with rfl | rfl | rfl
    · rw [hn]; simp
    · rw [hn]; simp
    · rw [hn]; simp
set_option maxRecDepth 50000 in
theorem piece_fit {s : ByteArray} {i n r0 l : Nat} (hc : cls (b0 s i) = some (n, r0, l)) (h : ∀ j, 1 ≤ j → j < n → cont s (i + j) = true) :
    Utf8.decode s i = if l ≤ acc s i r0 (n - 1) ∧ Utf8.valid ((acc s i r0 (n - 1) : Nat) : Int) = true then (acc s i r0 (n - 1), n) else (65533, 1) := by
  rw [decode_eq]
  rcases cls_cases hc with ⟨rfl, rfl, rfl, h2, h3⟩ | ⟨rfl, rfl, rfl, h2, h3⟩ | ⟨rfl, rfl, rfl, h2, h3⟩
  · have c1 := h 1 (by omega) (by omega)
    have d1 := (cont_iff _ _).1 c1
    have e : (b0 s i % 32) * 64 + b0 s (i + 1) % 64 = acc s i (b0 s i - 192) (2 - 1) := by
      show _ = (b0 s i - 192) * 64 + (b0 s (i + 1) - 128); omega
    have h8 : acc s i (b0 s i - 192) (2 - 1) < 2048 := by rw [← e]; omega
    rw [if_neg (by omega), c1, (by rw [beq_iff_eq]; omega : (b0 s i / 32 == 6) = true), e]
    generalize acc s i (b0 s i - 192) (2 - 1) = a at *
    have hv : Utf8.valid (a : Int) = true := (valid_iff a).2 (by omega)
    rw [hv]
    by_cases ha : 128 ≤ a
    · rw [if_pos (by rfl : (true && true) = true), if_pos ha, if_pos ⟨ha, rfl⟩]
    · rw [if_pos (by rfl : (true && true) = true), if_neg ha, if_neg (fun x => ha x.1)]
  · have c1 := h 1 (by omega) (by omega)
    have c2 := h 2 (by omega) (by omega)
    have d1 := (cont_iff _ _).1 c1
    have d2 := (cont_iff _ _).1 c2
    have e : (b0 s i % 16) * 4096 + (b0 s (i + 1) % 64) * 64 + b0 s (i + 2) % 64 = acc s i (b0 s i - 224) (3 - 1) := by
      show _ = ((b0 s i - 224) * 64 + (b0 s (i + 1) - 128)) * 64 + (b0 s (i + 2) - 128); omega
    rw [if_neg (by omega), beq_ff (by omega : b0 s i / 32 ≠ 6), c1, c2, (by rw [beq_iff_eq]; omega : (b0 s i / 16 == 14) = true), e]
    generalize acc s i (b0 s i - 224) (3 - 1) = a at *
    by_cases ha : 2048 ≤ a
    · cases hv : Utf8.valid (a : Int) <;> simp [ha, hv]
    · simp [ha]
  · have c1 := h 1 (by omega) (by omega)
    have c2 := h 2 (by omega) (by omega)
    have c3 := h 3 (by omega) (by omega)
    have d1 := (cont_iff _ _).1 c1
    have d2 := (cont_iff _ _).1 c2
    have d3 := (cont_iff _ _).1 c3
    have e : (b0 s i % 8) * 262144 + (b0 s (i + 1) % 64) * 4096 + (b0 s (i + 2) % 64) * 64 + b0 s (i + 3) % 64 = acc s i (b0 s i - 240) (4 - 1) := by
      show _ = (((b0 s i - 240) * 64 + (b0 s (i + 1) - 128)) * 64 + (b0 s (i + 2) - 128)) * 64 + (b0 s (i + 3) - 128); omega
    rw [if_neg (by omega), beq_ff (by omega : b0 s i / 32 ≠ 6), beq_ff (by omega : b0 s i / 16 ≠ 14), c1, c2, c3, (by rw [beq_iff_eq]; omega : (b0 s i / 8 == 30) = true), e]
    generalize acc s i (b0 s i - 240) (4 - 1) = a at *
    by_cases ha : 65536 ≤ a
    · cases hv : Utf8.valid (a : Int) <;> simp [ha, hv]
    · simp [ha]
theorem decode_w4 (s : ByteArray) (i : Nat) : (Utf8.decode s i).2 ≤ 4 := by
  rw [decode_eq]
  split
  · omega
  · split
    · split <;> simp
    · split
      · split <;> simp
      · split
        · split <;> simp
        · simp
end Go.Proofs.YtfmlkagcmkbebaaDoor
