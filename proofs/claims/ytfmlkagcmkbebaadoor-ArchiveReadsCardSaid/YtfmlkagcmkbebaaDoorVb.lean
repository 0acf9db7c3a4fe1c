/- wire.Int, wire.Bytes, annalsref1.Int; '[]byte(s)'. -/
import Derived.Test.YtfmlkagcmkbebaaDoorVa
import Derived.Test.YtfmlkagcmkbebaaDoorLc
import Derived.Lib.ConvBytes
namespace Go.Proofs.YtfmlkagcmkbebaaDoor
open Go.RowKit

/-- '[]byte(s)'. -/
theorem conv_sb (w : World) (s : ByteArray) (hs : s.size ≤ maxLen) : ∃ c, (convert 9 22 (.string s)).run Tryd.prog w = .ok (.slice (some ⟨w.heap.size, 0, none⟩) s.size c) (Lib.bytesWorld w 5 s) ∧
    Bs (Lib.bytesWorld w 5 s) (.slice (some ⟨w.heap.size, 0, none⟩) s.size c) s.data.toList ∧ Below w.heap.size w (Lib.bytesWorld w 5 s) := by
  have e : s.size = s.data.toList.length := by rw [Array.length_toList]; rfl
  refine ⟨_, Lib.run_convert_string_bytes w 9 22 5 s Tryd.underlying9 Tryd.underlying22 Tryd.underlying5, ?_, ?_⟩
  · refine ⟨_, _, by rw [e], by rw [bys_length]; omega, by rw [← e]; exact grownCap_ge w _ _ _, grownCap_le_maxLen w _ _ _ hs, fun j u hj => ⟨w.heap.size, 0, rfl, ?_⟩⟩
    have hj' : j < s.data.toList.length := by have := (List.getElem?_eq_some_iff.1 hj).1; rwa [bys_length] at this
    rw [Nat.zero_add, Lib.bytesWorld_cell w _ s j (by omega), ← hj]
    simp only [bys, List.getElem?_map, List.getElem?_eq_getElem hj', List.getD_eq_getElem?_getD, Option.getD_some, Option.map_some]
    rfl
  · exact ⟨rfl, rfl, rfl, by rw [Lib.bytesWorld_size]; omega, fun j hj => Lib.bytesWorld_at_old w _ s j hj⟩

set_option maxRecDepth 100000 in
theorem Bytes_any (v : Value) (xs : List UInt8) (hx : xs.length ≤ 1099511627776) (w : World) (hp : Bs w v xs) : Calls Tryd.prog 80 #[v] w (Gives w (uvar xs.length ++ xs)) := by
  obtain ⟨A, c, rfl, hn, hc, _⟩ := hp.form
  have HP := Lib.hid hp
  have hun := uvar_len10 (n := xs.length) (by omega)
  clear hp
  go_enter Tryd.func80, Tryd.ntmps80
  go_wp2_with fail
  refine (Uint_any xs.length (by omega) w).mono ?_
  rintro e w1 ⟨x1, rfl, HX, HB⟩
  have s1 := HB.size
  have HP1 := HP.out.below HB
  go_wp2_with (at_builtin; refine appB w.heap.size rfl (.tmp 6) _ rfl _ (uvar xs.length) _ xs rfl rfl HX HP1 (by omega) HB s1 ?_; intro v1 w2 HO2 HB2 _ _)
  go_ret
  exact ⟨_, rfl, HO2, HB2⟩

set_option maxRecDepth 100000 in
theorem rInt_any (v : Int) (hv : -9223372036854775808 ≤ v ∧ v ≤ 9223372036854775807) (w : World) : Calls Tryd.prog 115 #[.int .i64 v] w (Gives w (uvar (zig v))) := by
  obtain ⟨h1, h2⟩ := hv
  by_cases h0 : 0 ≤ v
  · have hz := Lib.hid (show zig v = (2 * v).toNat by unfold zig; rw [if_pos h0])
    obtain ⟨n, rfl⟩ := Int.eq_ofNat_of_zero_le h0
    go_enter Tryd.func115, Tryd.ntmps115
    go_wp2_with fail
    rw [show (n : Int) * 2 = ((2 * n : Nat) : Int) by omega]
    refine (rUint_any (2 * n) (by omega) w).mono ?_
    rintro e w1 ⟨x1, rfl, HX, HB⟩
    go_wp2_with fail
    go_ret
    exact ⟨_, rfl, by rw [hz.out, show (2 * (n : Int)).toNat = 2 * n by omega]; exact HX, HB⟩
  · obtain ⟨m, rfl⟩ : ∃ m : Nat, v = -(m : Int) - 1 := ⟨(-v - 1).toNat, by omega⟩
    have hz := Lib.hid (show zig (-(m : Int) - 1) = 2 * m + 1 by unfold zig; rw [if_neg h0]; omega)
    have e1 : IntKind.i64.wrap (-(m : Int) - 1 + 1) = -(m : Int) := by rw [IntKind.wrap_i64]; omega
    go_enter Tryd.func115, Tryd.ntmps115
    go_wp2_with fail
    clear e1
    rw [show (m : Int) * 2 + 1 = ((2 * m + 1 : Nat) : Int) by omega]
    refine (rUint_any (2 * m + 1) (by omega) w).mono ?_
    rintro e w1 ⟨x1, rfl, HX, HB⟩
    go_wp2_with fail
    go_ret
    exact ⟨_, rfl, by rw [hz.out]; exact HX, HB⟩

theorem xor_pos (n : Nat) (h : n < 9223372036854775808) : bits .xor .u64 ((n : Int) * 2) ((n : Int) / 9223372036854775808) = ((2 * n : Nat) : Int) := by
  have e1 : (n : Int) * 2 = ((2 * n : Nat) : Int) := by omega
  have e2 : (n : Int) / 9223372036854775808 = ((0 : Nat) : Int) := by omega
  rw [e1, e2, u64_xor_nat (2 * n) 0 (by omega) (by omega), Nat.xor_zero]
theorem nat_not (x : Nat) (h : x < 18446744073709551616) : x ^^^ 18446744073709551615 = 18446744073709551615 - x := by
  have h1 : (BitVec.ofNat 64 x ^^^ BitVec.allOnes 64).toNat = (~~~ (BitVec.ofNat 64 x)).toNat := by rw [BitVec.xor_allOnes]
  rw [BitVec.toNat_xor, BitVec.toNat_not, BitVec.toNat_ofNat, Nat.mod_eq_of_lt (by exact h)] at h1
  exact h1
theorem xor_neg (m : Nat) (h : m < 9223372036854775808) : bits .xor .u64 (IntKind.u64.wrap (IntKind.u64.wrap (-(m : Int) - 1) * 2)) (IntKind.u64.wrap ((-(m : Int) - 1) / 9223372036854775808)) = ((2 * m + 1 : Nat) : Int) := by
  have e0 : IntKind.u64.wrap (-(m : Int) - 1) = 18446744073709551616 - ((m : Int) + 1) := by rw [IntKind.wrap_u64]; omega
  have e1 : IntKind.u64.wrap (IntKind.u64.wrap (-(m : Int) - 1) * 2) = ((18446744073709551615 - (2 * m + 1) : Nat) : Int) := by rw [e0, IntKind.wrap_u64]; omega
  have e2 : IntKind.u64.wrap ((-(m : Int) - 1) / 9223372036854775808) = ((18446744073709551615 : Nat) : Int) := by rw [IntKind.wrap_u64]; omega
  rw [e1, e2, u64_xor_nat _ _ (by omega) (by omega), nat_not _ (by omega)]
  congr 1; omega

set_option maxRecDepth 100000 in
theorem Int_any (v : Int) (hv : -9223372036854775808 ≤ v ∧ v ≤ 9223372036854775807) (w : World) : Calls Tryd.prog 79 #[.int .i64 v] w (Gives w (uvar (zig v))) := by
  obtain ⟨h1, h2⟩ := hv
  by_cases h0 : 0 ≤ v
  · have hz := Lib.hid (show zig v = (2 * v).toNat by unfold zig; rw [if_pos h0])
    obtain ⟨n, rfl⟩ := Int.eq_ofNat_of_zero_le h0
    go_enter Tryd.func79, Tryd.ntmps79
    go_wp2_with fail
    rw [xor_pos n (by omega)]
    refine (Uint_any (2 * n) (by omega) w).mono ?_
    rintro e w1 ⟨x1, rfl, HX, HB⟩
    go_wp2_with fail
    go_ret
    exact ⟨_, rfl, by rw [hz.out, show (2 * (n : Int)).toNat = 2 * n by omega]; exact HX, HB⟩
  · obtain ⟨m, rfl⟩ : ∃ m : Nat, v = -(m : Int) - 1 := ⟨(-v - 1).toNat, by omega⟩
    have hz := Lib.hid (show zig (-(m : Int) - 1) = 2 * m + 1 by unfold zig; rw [if_neg h0]; omega)
    go_enter Tryd.func79, Tryd.ntmps79
    go_wp2_with fail
    rw [xor_neg m (by omega)]
    refine (Uint_any (2 * m + 1) (by omega) w).mono ?_
    rintro e w1 ⟨x1, rfl, HX, HB⟩
    go_wp2_with fail
    go_ret
    exact ⟨_, rfl, by rw [hz.out]; exact HX, HB⟩
end Go.Proofs.YtfmlkagcmkbebaaDoor
