/- Plain laws: numbers written seven bits a byte, the sum of bytes, frames. No program in sight. -/
namespace Go.Proofs.YtfmlkagcmkbebaaDoor

/-! The sum -/
def poly : UInt32 := 3988292384
def bitStep (r : UInt32) : UInt32 := if r.toNat % 2 = 1 then (r >>> 1) ^^^ poly else r >>> 1
def byteStep (r : UInt32) (x : UInt8) : UInt32 := bitStep (bitStep (bitStep (bitStep (bitStep (bitStep (bitStep (bitStep (r ^^^ x.toUInt32))))))))
def crcFrom (r : UInt32) (xs : List UInt8) : UInt32 := xs.foldl byteStep r
def crc (xs : List UInt8) : UInt32 := ~~~(crcFrom 4294967295 xs)
theorem crcFrom_append (r : UInt32) (xs ys : List UInt8) : crcFrom r (xs ++ ys) = crcFrom (crcFrom r xs) ys := by simp [crcFrom]
theorem crcFrom_nil (r : UInt32) : crcFrom r [] = r := rfl
theorem crcFrom_snoc (r : UInt32) (xs : List UInt8) (x : UInt8) : crcFrom r (xs ++ [x]) = byteStep (crcFrom r xs) x := by simp [crcFrom]

def nibTab : List UInt32 := [0, 498536548, 997073096, 651767980, 1994146192, 1802195444, 1303535960, 1342533948, 3988292384, 4027552580, 3604390888, 3412177804, 2607071920, 2262029012, 2685067896, 3183342108]
def nib (i : UInt32) : UInt32 := nibTab.getD i.toNat 0
def nibStep (c : UInt32) : UInt32 := nib (c &&& 15) ^^^ (c >>> 4)

theorem odd_iff (r : UInt32) : r.toNat % 2 = 1 ↔ r.toBitVec.getLsbD 0 = true := by
  rw [BitVec.getLsbD, Nat.testBit_zero, UInt32.toNat_toBitVec]; simp

theorem bitStep_bv (r : UInt32) : (bitStep r).toBitVec = (r.toBitVec >>> 1) ^^^ (if r.toBitVec.getLsbD 0 then poly.toBitVec else 0#32) := by
  unfold bitStep
  by_cases h : r.toNat % 2 = 1
  · rw [if_pos h, if_pos ((odd_iff r).1 h)]; rfl
  · rw [if_neg h, if_neg (fun k => h ((odd_iff r).2 k))]
    show r.toBitVec >>> 1 = _
    simp

theorem bitStep_xor (a b : UInt32) : bitStep (a ^^^ b) = bitStep a ^^^ bitStep b := by
  apply UInt32.toBitVec_inj.1
  show _ = (bitStep a).toBitVec ^^^ (bitStep b).toBitVec
  rw [bitStep_bv, bitStep_bv, bitStep_bv]
  have e : (a ^^^ b).toBitVec = a.toBitVec ^^^ b.toBitVec := rfl
  rw [e, BitVec.ushiftRight_xor_distrib, BitVec.getLsbD_xor]
  generalize a.toBitVec >>> 1 = x
  generalize b.toBitVec >>> 1 = y
  cases a.toBitVec.getLsbD 0 <;> cases b.toBitVec.getLsbD 0 <;> simp [BitVec.xor_assoc]
  · exact BitVec.xor_comm _ _
  · rw [BitVec.xor_comm y, ← BitVec.xor_assoc, BitVec.xor_self, BitVec.zero_xor]

theorem bitStep_even {r : UInt32} (h : r.toBitVec.getLsbD 0 = false) : (bitStep r).toBitVec = r.toBitVec >>> 1 := by
  rw [bitStep_bv, h]; simp

theorem nib_small : ∀ i : Fin 16, bitStep (bitStep (bitStep (bitStep (UInt32.ofNat i.val)))) = nibTab.getD i.val 0 := by decide

theorem nibStep_eq (c : UInt32) : nibStep c = bitStep (bitStep (bitStep (bitStep c))) := by
  have hlo : (c &&& 15).toNat < 16 := by
    have : (c &&& 15).toNat = c.toNat &&& 15 := by simp
    rw [this]; have := @Nat.and_lt_two_pow c.toNat 15 4 (by decide); omega
  have hsplit : c = (c &&& 4294967280) ^^^ (c &&& 15) := by
    apply UInt32.toBitVec_inj.1
    show c.toBitVec = (c.toBitVec &&& 4294967280#32) ^^^ (c.toBitVec &&& 15#32)
    apply BitVec.eq_of_getLsbD_eq
    intro i hi
    rw [BitVec.getLsbD_xor, BitVec.getLsbD_and, BitVec.getLsbD_and]
    have : ∀ i : Fin 32, (4294967280#32).getLsbD i.val = !(15#32).getLsbD i.val := by decide
    rw [this ⟨i, hi⟩]
    cases c.toBitVec.getLsbD i <;> cases (15#32).getLsbD i <;> rfl
  have hhi : bitStep (bitStep (bitStep (bitStep (c &&& 4294967280)))) = c >>> 4 := by
    have e0 : (c &&& 4294967280).toBitVec = c.toBitVec &&& 4294967280#32 := rfl
    have b0 : ∀ k, k < 4 → ((c &&& 4294967280).toBitVec >>> k).getLsbD 0 = false := by
      intro k hk
      rw [BitVec.getLsbD_ushiftRight, e0, BitVec.getLsbD_and]
      have : (4294967280#32).getLsbD (k + 0) = false := by
        match k, hk with
        | 0, _ => decide
        | 1, _ => decide
        | 2, _ => decide
        | 3, _ => decide
      rw [this, Bool.and_false]
    have h1 := bitStep_even (r := c &&& 4294967280) (by simp)
    have h2 := bitStep_even (r := bitStep (c &&& 4294967280)) (by rw [h1]; exact b0 1 (by omega))
    have h3 := bitStep_even (r := bitStep (bitStep (c &&& 4294967280))) (by rw [h2, h1, ← BitVec.shiftRight_add]; exact b0 2 (by omega))
    have h4 := bitStep_even (r := bitStep (bitStep (bitStep (c &&& 4294967280)))) (by rw [h3, h2, h1, ← BitVec.shiftRight_add, ← BitVec.shiftRight_add]; exact b0 3 (by omega))
    apply UInt32.toBitVec_inj.1
    rw [h4, h3, h2, h1, e0]
    rw [← BitVec.shiftRight_add, ← BitVec.shiftRight_add, ← BitVec.shiftRight_add]
    show _ = c.toBitVec >>> 4
    rw [BitVec.ushiftRight_and_distrib]
    show (c.toBitVec >>> 4) &&& ((4294967280#32) >>> 4) = _
    apply BitVec.eq_of_getLsbD_eq
    intro i hi
    rw [BitVec.getLsbD_and, BitVec.getLsbD_ushiftRight, BitVec.getLsbD_ushiftRight]
    by_cases h : 4 + i < 32
    · have : (4294967280#32).getLsbD (4 + i) = true := by
        have h' : i < 28 := by omega
        have : ∀ i : Fin 28, (4294967280#32).getLsbD (4 + i.val) = true := by decide
        exact this ⟨i, h'⟩
      rw [this, Bool.and_true]
    · rw [BitVec.getLsbD_of_ge _ _ (by omega)]; simp
  have hsm : bitStep (bitStep (bitStep (bitStep (c &&& 15)))) = nib (c &&& 15) := by
    have := nib_small ⟨(c &&& 15).toNat, hlo⟩
    simp only [UInt32.ofNat_toNat] at this
    exact this
  unfold nibStep
  conv => rhs; rw [hsplit, bitStep_xor, bitStep_xor, bitStep_xor, bitStep_xor, hhi, hsm]
  exact UInt32.xor_comm _ _

theorem byteStep_nib (r : UInt32) (x : UInt8) : byteStep r x = nibStep (nibStep (r ^^^ x.toUInt32)) := by
  rw [nibStep_eq, nibStep_eq]; rfl

/-! Numbers, seven bits a byte -/
theorem or128 (m : Nat) (h : m < 256) : m ||| 128 = 128 + m % 128 := by
  have : ∀ k : Fin 256, k.val ||| 128 = 128 + k.val % 128 := by decide +kernel
  exact this ⟨m, h⟩
def uvar (n : Nat) : List UInt8 := if h : n < 128 then [UInt8.ofNat n] else UInt8.ofNat (128 + n % 128) :: uvar (n / 128)
decreasing_by omega
theorem uvar_lt {n : Nat} (h : n < 128) : uvar n = [UInt8.ofNat n] := by rw [uvar, dif_pos h]
theorem uvar_ge {n : Nat} (h : 128 ≤ n) : uvar n = UInt8.ofNat (128 + n % 128) :: uvar (n / 128) := by rw [uvar, dif_neg (by omega)]
theorem uvar_len (n : Nat) (k : Nat) (hk : 0 < k) (h : n < 128 ^ k) : (uvar n).length ≤ k := by
  induction k generalizing n with
  | zero => omega
  | succ k ih =>
    by_cases hn : n < 128
    · rw [uvar_lt hn]; simp
    · rw [uvar_ge (by omega)]
      rcases Nat.eq_zero_or_pos k with rfl | hk0
      · simp at h; omega
      · have := ih (n / 128) hk0 (by rw [Nat.pow_succ] at h; omega)
        simpa using this
theorem uvar_len10 {n : Nat} (h : n < 18446744073709551616) : (uvar n).length ≤ 10 := uvar_len n 10 (by omega) (Nat.lt_trans h (by decide))
theorem uvar_pos (n : Nat) : 0 < (uvar n).length := by
  by_cases h : n < 128
  · rw [uvar_lt h]; simp
  · rw [uvar_ge (by omega)]; simp

/-! Four bytes, the lowest first; frames -/
def le32 (s : UInt32) : List UInt8 := [UInt8.ofNat s.toNat, UInt8.ofNat (s.toNat / 256), UInt8.ofNat (s.toNat / 65536), UInt8.ofNat (s.toNat / 16777216)]
def frame (body : List UInt8) : List UInt8 := uvar body.length ++ body ++ le32 (crc (uvar body.length ++ body)) ++ [165]
end Go.Proofs.YtfmlkagcmkbebaaDoor
