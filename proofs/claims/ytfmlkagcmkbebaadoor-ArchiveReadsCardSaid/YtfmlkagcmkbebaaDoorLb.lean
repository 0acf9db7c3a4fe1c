/- Walks: numbers written, sums, of the program and of the reference. -/
import Derived.Test.YtfmlkagcmkbebaaDoorLa
import Derived.Test.YtfmlkagcmkbebaaDoorPa
namespace Go.Proofs.YtfmlkagcmkbebaaDoor
open Go.RowKit

/-- The table of the sum lies in its variable. -/
def Tab (w : World) : Prop := ∀ i, i < 16 → w.cell? ⟨0, i, none⟩ = some (.int .u32 ((nibTab.getD i 0).toNat : Int))
theorem Tab.below {w w' : World} (h : Tab w) (hb : Below w.heap.size w w') : Tab w' := fun i hi => (hb.cell (World.block_lt_of_cell? w _ (h i hi))).trans (h i hi)

/-- What comes back is new memory that holds xs; all else stands. -/
def Gives (w : World) (xs : List UInt8) (e : Ending) (w' : World) : Prop := ∃ v, e = .returned v ∧ Ob w' w.heap.size v xs ∧ Below w.heap.size w w'

theorem u8_ofNat (m : Nat) : Value.int .u8 ((m : Int) % 256) = byt (UInt8.ofNat m) := by simp [byt]
theorem u8_def (x : UInt8) : Value.int .u8 (x.toNat : Int) = byt x := rfl

theorem Gives.mk_lit {w : World} {xs : List UInt8} {n : Nat} (hn : n = xs.length) (hl : xs.length ≤ 9223372036854775807) {cs : Array Value} (hc : cs.toList = bys xs) :
    Gives w xs (.returned (.slice (some ⟨w.heap.size, 0, none⟩) n n)) (w.alloc (.cells cs 5)) := by
  subst hn
  refine ⟨_, rfl, ⟨by simp [bys], .inr ⟨w.heap.size, xs.length, cs, rfl, Nat.le_refl _, heap_alloc_new w _, Nat.le_refl _, by simpa [maxLen] using hl, ?_, ?_⟩⟩, (Below.refl _ w).alloc (Nat.le_refl _) _⟩
  · have := congrArg List.length hc; simpa [bys] using this
  · rw [hc, List.take_of_length_le]; simp [bys]

theorem low4_any (s : UInt32) (w : World) : Calls Tryd.prog 38 #[.int .u32 (s.toNat : Int)] w (Gives w (le32 s)) := by
  have hb : s.toNat < 4294967296 := s.toNat_lt
  obtain ⟨n, hn⟩ : ∃ n : Nat, n = s.toNat := ⟨_, rfl⟩
  have hlit : (#[.int .u8 ((n : Int) % 256), .int .u8 ((n : Int) / 256 % 256), .int .u8 ((n : Int) / 65536 % 256), .int .u8 ((n : Int) / 16777216)] : Array Value).toList = bys (le32 s) := by
    rw [hn]
    simp [bys, le32, byt]
    omega
  have H := Lib.hid hlit
  clear hlit
  rw [← hn] at hb ⊢
  have HN := Lib.hid hn
  clear hn
  go_enter Tryd.func38, Tryd.ntmps38
  go_wp2
  go_ret
  exact Gives.mk_lit (by simp [le32]) (by simp [le32]) H.out

set_option maxRecDepth 100000 in
/-- wire.Uint -/
theorem Uint_any (n : Nat) (hb : n < 18446744073709551616) (w : World) : Calls Tryd.prog 47 #[.int .u64 (n : Int)] w (Gives w (uvar n)) := by
  have hun := uvar_len10 hb
  clear hb
  go_enter Tryd.func47, Tryd.ntmps47
  have hmk : ∀ w, (Instr.makeSlice 22 (.int .i64 0) (.int .i64 10)).run Tryd.prog w = .ok (.slice (some ⟨w.heap.size, 0, none⟩) 0 10) (w.alloc (.cells #[.int .u8 0, .int .u8 0, .int .u8 0, .int .u8 0, .int .u8 0, .int .u8 0, .int .u8 0, .int .u8 0, .int .u8 0, .int .u8 0] 5)) := fun _ => by kernel_rfl
  go_wp2
  clear hmk
  go_loopw [0, 3] (fun v s wr => ∃ (m : Nat) (xs : List UInt8), v = .int .u64 (m : Int) ∧ uvar n = xs ++ uvar m ∧ Ob wr w.heap.size s xs ∧ Below w.heap.size w wr) (fun v _ _ => (intOf v).toNat)
  case atStart => exact ⟨n, [], rfl, rfl, World.ownsRow_made w _ 10 (Nat.le_refl _) (by unfold maxLen; omega) (by rfl), (Below.refl _ w).alloc (Nat.le_refl _) _⟩
  case round =>
    obtain ⟨m, xs, rfl, hx, HO, HB⟩ := hrel
    have hxl : xs.length ≤ 10 := by have h2 := congrArg List.length hx; simp only [List.length_append] at h2; omega
    have HX := Lib.hid hx
    clear hx
    have hsz := HB.size
    by_cases hlt : 128 ≤ m
    · have e1 : bits .or .u8 ((m : Int) % 256) 128 = ((128 + m % 128 : Nat) : Int) := by
        rw [show ((m : Int) % 256) = ((m % 256 : Nat) : Int) by omega, show (128 : Int) = ((128 : Nat) : Int) by rfl, u8_or_nat _ _ (by omega) (by omega)]
        rw [or128 _ (by omega)]; congr 1; omega
      go_wp2_with (at_builtin; refine appB w.heap.size rfl _ _ rfl _ xs _ [UInt8.ofNat (128 + m % 128)] rfl rfl (HO.below ((Below.refl _ _).alloc (Nat.le_refl _) _)) (Bs.lit _ _ [UInt8.ofNat (128 + m % 128)] (lit1 (by omega) (by omega)) (by simp)) (by simp; omega) (HB.alloc hsz _) (by simp; omega) ?_; intro v1 w1 HO1 HB1 _ _)
      go_roundw
      case rel => exact ⟨m / 128, xs ++ [UInt8.ofNat (128 + m % 128)], by go_num, by rw [HX.out, uvar_ge hlt]; simp, HO1, HB1⟩
      case measure => simp [intOf]; omega
    · go_wp2_with (at_builtin; refine appB w.heap.size rfl _ _ rfl _ xs _ [UInt8.ofNat m] rfl rfl (HO.below ((Below.refl _ _).alloc (Nat.le_refl _) _)) (Bs.lit _ _ [UInt8.ofNat m] (lit1 (by omega) (by omega)) (by simp)) (by simp; omega) (HB.alloc hsz _) (by simp; omega) ?_; intro v1 w1 HO1 HB1 _ _)
      go_ret
      exact ⟨_, rfl, by rw [HX.out, uvar_lt (by omega)]; exact HO1, HB1⟩

theorem u64_div (m k : Nat) (h : Hid (m < 18446744073709551616)) : IntKind.u64.wrap ((m : Int) / (k : Int)) = ((m / k : Nat) : Int) := by
  have h1 : m / k < 18446744073709551616 := Nat.lt_of_le_of_lt (Nat.div_le_self _ _) h.out
  rw [show ((m : Int) / (k : Int)) = ((m / k : Nat) : Int) by simp]
  simp only [IntKind.wrap, IntKind.bits, IntKind.signed]
  generalize m / k = q at h1
  simp
  omega

set_option maxRecDepth 100000 in
/-- annalsref1.Uint -/
theorem rUint_any (n : Nat) (hb : n < 18446744073709551616) (w : World) : Calls Tryd.prog 33 #[.int .u64 (n : Int)] w (Gives w (uvar n)) := by
  have hun := uvar_len10 hb
  have HBD := Lib.hid hb
  clear hb
  go_enter Tryd.func33, Tryd.ntmps33
  go_wp2
  go_loopw [0, 3] (fun v s wr => ∃ (m : Nat) (xs : List UInt8), v = .int .u64 (m : Int) ∧ Hid (m < 18446744073709551616) ∧ uvar n = xs ++ uvar m ∧ Ob wr w.heap.size s xs ∧ Below w.heap.size w wr) (fun v _ _ => (intOf v).toNat)
  case atStart => exact ⟨n, [], rfl, HBD, rfl, Ob.nil _ _, Below.refl _ w⟩
  case round =>
    obtain ⟨m, xs, rfl, hmb, hx, HO, HB⟩ := hrel
    have hxl : xs.length ≤ 10 := by have h2 := congrArg List.length hx; simp only [List.length_append] at h2; omega
    have HX := Lib.hid hx
    clear hx
    have hsz := HB.size
    by_cases hlt : 128 ≤ m
    · have ew : IntKind.u64.wrap ((m : Int) / (128 : Int)) = ((m / 128 : Nat) : Int) := u64_div m 128 hmb
      go_wp2_with (at_builtin; refine appB w.heap.size rfl _ _ rfl _ xs _ [UInt8.ofNat (128 + m % 128)] rfl rfl (HO.below ((Below.refl _ _).alloc (Nat.le_refl _) _)) (Bs.lit _ _ [UInt8.ofNat (128 + m % 128)] (lit1 (by omega) (by omega)) (by simp)) (by simp; omega) (HB.alloc hsz _) (by simp; omega) ?_; intro v1 w1 HO1 HB1 _ _)
      go_roundw
      case rel => exact ⟨m / 128, xs ++ [UInt8.ofNat (128 + m % 128)], by go_num, Lib.hid (Nat.lt_of_le_of_lt (Nat.div_le_self _ _) hmb.out), by rw [HX.out, uvar_ge hlt]; simp, HO1, HB1⟩
      case measure => simp [intOf]; omega
    · go_wp2_with (at_builtin; refine appB w.heap.size rfl _ _ rfl _ xs _ [UInt8.ofNat m] rfl rfl (HO.below ((Below.refl _ _).alloc (Nat.le_refl _) _)) (Bs.lit _ _ [UInt8.ofNat m] (lit1 (by omega) (by omega)) (by simp)) (by simp; omega) (HB.alloc hsz _) (by simp; omega) ?_; intro v1 w1 HO1 HB1 _ _)
      go_ret
      exact ⟨_, rfl, by rw [HX.out, uvar_lt (by omega)]; exact HO1, HB1⟩

theorem xor_u32 (a b : UInt32) : bits .xor .u32 (a.toNat : Int) (b.toNat : Int) = ((a ^^^ b).toNat : Int) := by
  rw [u32_xor_nat _ _ a.toNat_lt b.toNat_lt, UInt32.toNat_xor]
theorem not_u32 (z : UInt32) : bits .xor .u32 IntKind.u32.max (z.toNat : Int) = ((~~~ z).toNat : Int) := by
  rw [show IntKind.u32.max = ((4294967295 : UInt32).toNat : Int) by rfl, xor_u32]; congr 2
theorem u32_lt (z : UInt32) : z.toNat < 4294967296 := z.toNat_lt
theorem and15_u32 (a : UInt32) : bits .and .u32 (a.toNat : Int) 15 = ((a &&& 15).toNat : Int) := by
  rw [show (15 : Int) = ((15 : UInt32).toNat : Int) by rfl, u32_and_nat _ _ a.toNat_lt (by decide), UInt32.toNat_and]
theorem shr4_u32 (a : UInt32) : (a.toNat : Int) / (16 : Int) = ((a >>> 4).toNat : Int) := by
  rw [UInt32.toNat_shiftRight]; show _ = ((a.toNat >>> 4 : Nat) : Int); rw [Nat.shiftRight_eq_div_pow]; rfl
theorem shr1_u32 (a : UInt32) : (a.toNat : Int) / (2 : Int) = ((a >>> 1).toNat : Int) := by
  rw [UInt32.toNat_shiftRight]; show _ = ((a.toNat >>> 1 : Nat) : Int); rw [Nat.shiftRight_eq_div_pow]; rfl
theorem w8_u32 (x : UInt8) : (x.toNat : Int) % (4294967296 : Int) = (x.toUInt32.toNat : Int) := by
  have := x.toNat_lt; rw [UInt8.toNat_toUInt32]; omega
theorem and15_lt (c : UInt32) : (c &&& 15).toNat < 16 := by
  rw [UInt32.toNat_and]; exact Nat.lt_of_le_of_lt Nat.and_le_right (by decide)

theorem nib_facts (w : World) (ht : Tab w) (c : UInt32) : ∃ (i : Nat) (t d : UInt32), i < 16 ∧ bits .and .u32 (c.toNat : Int) 15 = (i : Int) ∧ w.cell? ⟨0, i, none⟩ = some (.int .u32 (t.toNat : Int)) ∧
    bits .xor .u32 (t.toNat : Int) ((c.toNat : Int) / (16 : Int)) = (d.toNat : Int) ∧ Hid (d = nibStep c) :=
  ⟨(c &&& 15).toNat, nib (c &&& 15), nibStep c, and15_lt c, and15_u32 c, ht _ (and15_lt c), by rw [shr4_u32, xor_u32]; rfl, Lib.hid rfl⟩

set_option maxRecDepth 100000 in
set_option maxHeartbeats 400000 in
/-- wire.Sum -/
theorem Sum_any (v : Value) (xss : List (List UInt8)) (w : World) (ht : Tab w) (hp : Bss w v xss) :
    Calls Tryd.prog 39 #[v] w fun e w' => e = .returned (.int .u32 ((crc xss.flatten).toNat : Int)) ∧ w = w' := by
  obtain ⟨A, c, rfl, hn, hc, hr⟩ := hp.form
  have hm : xss.length ≤ 9223372036854775807 := by unfold maxLen at hc; omega
  have HR := Lib.hid hr
  have HT := Lib.hid ht
  clear hr ht hc hp
  go_enter Tryd.func39, Tryd.ntmps39
  go_wp2
  go_loop [3, 10] (fun s i => ∃ k : Nat, k ≤ xss.length ∧ i = .int .i64 k ∧ s = .int .u32 ((crcFrom 4294967295 (xss.take k).flatten).toNat : Int)) (fun _ i => xss.length - (intOf i).toNat)
  case atStart => exact ⟨0, Nat.zero_le _, rfl, rfl⟩
  case round =>
    obtain ⟨k, hk, rfl, rfl⟩ := hrel
    by_cases hlt : k < xss.length
    · obtain ⟨b, o, u, rfl, hcell, hu⟩ := HR.out k hlt
      obtain ⟨A2, c2, rfl, hn2, hc2, hr2⟩ := hu.form
      have hm2 : xss[k].length ≤ 9223372036854775807 := by unfold maxLen at hc2; omega
      have hstep : crcFrom 4294967295 (xss.take (k + 1)).flatten = crcFrom (crcFrom 4294967295 (xss.take k).flatten) xss[k] := by
        rw [List.take_succ_eq_append_getElem hlt, List.flatten_append, crcFrom_append]; simp
      have HS := Lib.hid hstep
      have HR2 := Lib.hid hr2
      clear hstep hr2 hu hc2
      generalize crcFrom 4294967295 (xss.take k).flatten = r0 at HS ⊢
      generalize hy : xss[k] = ys at HR2 HS hcell hm2 hn2
      clear hy
      go_wp2
      go_loop [3, 16] (fun s i => ∃ j : Nat, j ≤ ys.length ∧ i = .int .i64 j ∧ s = .int .u32 ((crcFrom r0 (ys.take j)).toNat : Int)) (fun _ i => ys.length - (intOf i).toNat)
      case atStart => exact ⟨0, Nat.zero_le _, rfl, rfl⟩
      case round =>
        obtain ⟨j, hj, rfl, rfl⟩ := hrel
        by_cases hlt2 : j < ys.length
        · obtain ⟨b2, o2, rfl, hcell2⟩ := HR2.out j hlt2
          have hst : crcFrom r0 (ys.take (j + 1)) = byteStep (crcFrom r0 (ys.take j)) ys[j] := by rw [List.take_succ_eq_append_getElem hlt2, crcFrom_snoc]
          have HST := Lib.hid hst
          clear hst
          generalize crcFrom r0 (ys.take j) = r1 at HST ⊢
          generalize ys[j] = x at HST hcell2
          obtain ⟨c3, h3⟩ : ∃ c3, c3 = r1 ^^^ x.toUInt32 := ⟨_, rfl⟩
          have e1 : bits .xor .u32 (r1.toNat : Int) ((x.toNat : Int) % (4294967296 : Int)) = (c3.toNat : Int) := by rw [w8_u32, xor_u32, h3]
          have H3 := Lib.hid h3
          clear h3
          obtain ⟨i4, t4, c4, hi4, e4, k4, f4, H4⟩ := nib_facts w HT.out c3
          obtain ⟨i5, t5, c5, hi5, e5, k5, f5, H5⟩ := nib_facts w HT.out c4
          unfold byt at hcell2
          go_wp2
          go_round
          case rel => exact ⟨j + 1, by omega, by go_num, by rw [HST.out, byteStep_nib, ← H3.out, ← H4.out, ← H5.out]⟩
          case measure => simp [intOf]; omega
        · obtain rfl : ys.length = j := by omega
          rw [List.take_length]
          go_wp2
          go_round
          case rel => exact ⟨k + 1, by omega, by go_num, by rw [HS.out]⟩
          case measure => simp [intOf]; omega
    · obtain rfl : xss.length = k := by omega
      rw [List.take_length]
      go_wp2
      go_ret
      exact ⟨congrArg (fun z => Ending.returned (.int .u32 z)) (not_u32 _), rfl⟩

theorem not_u32' (z : UInt32) : (4294967295 : Int) - (z.toNat : Int) = ((~~~ z).toNat : Int) := by
  have h : (~~~ z).toNat = 4294967295 - z.toNat := by
    show (~~~ z.toBitVec).toNat = _
    rw [BitVec.toNat_not]; rfl
  have := z.toNat_lt
  rw [h]; omega

theorem bit_facts (c : UInt32) : ∃ d : UInt32, Hid (d = bitStep c) ∧
    ((c.toNat % 2 = 1 ∧ (((c.toNat : Int) % (2 : Int)) == 1) = true ∧ bits .xor .u32 ((c.toNat : Int) / (2 : Int)) 3988292384 = (d.toNat : Int)) ∨
     (c.toNat % 2 = 0 ∧ (((c.toNat : Int) % (2 : Int)) == 1) = false ∧ (c.toNat : Int) / (2 : Int) = (d.toNat : Int))) := by
  refine ⟨bitStep c, Lib.hid rfl, ?_⟩
  by_cases h : c.toNat % 2 = 1
  · refine .inl ⟨h, by rw [beq_iff_eq]; omega, ?_⟩
    rw [shr1_u32, show (3988292384 : Int) = (poly.toNat : Int) by rfl, xor_u32]
    unfold bitStep; rw [if_pos h]
  · refine .inr ⟨by omega, by rw [beq_eq_false_iff_ne]; omega, ?_⟩
    rw [shr1_u32]
    unfold bitStep; rw [if_neg h]

def bitSteps : Nat → UInt32 → UInt32
  | 0, c => c
  | n + 1, c => bitStep (bitSteps n c)

set_option maxRecDepth 100000 in
set_option maxHeartbeats 400000 in
/-- annalsref1.Sum -/
theorem rSum_any (v : Value) (xs : List UInt8) (w : World) (hp : Bs w v xs) :
    Calls Tryd.prog 32 #[v] w fun e w' => e = .returned (.int .u32 ((crc xs).toNat : Int)) ∧ w = w' := by
  obtain ⟨A, c, rfl, hn, hc, hr⟩ := hp.form
  have hm : xs.length ≤ 9223372036854775807 := by unfold maxLen at hc; omega
  have HR := Lib.hid hr
  clear hr hc hp
  go_enter Tryd.func32, Tryd.ntmps32
  go_wp2
  go_loop [3, 4] (fun s i => ∃ k : Nat, k ≤ xs.length ∧ i = .int .i64 k ∧ s = .int .u32 ((crcFrom 4294967295 (xs.take k)).toNat : Int)) (fun _ i => xs.length - (intOf i).toNat)
  case atStart => exact ⟨0, Nat.zero_le _, rfl, rfl⟩
  case round =>
    obtain ⟨k, hk, rfl, rfl⟩ := hrel
    by_cases hlt : k < xs.length
    · obtain ⟨b, o, rfl, hcell⟩ := HR.out k hlt
      have hst : crcFrom 4294967295 (xs.take (k + 1)) = byteStep (crcFrom 4294967295 (xs.take k)) xs[k] := by rw [List.take_succ_eq_append_getElem hlt, crcFrom_snoc]
      have HST := Lib.hid hst
      clear hst
      generalize crcFrom 4294967295 (xs.take k) = r1 at HST ⊢
      generalize xs[k] = x at HST hcell
      obtain ⟨c3, h3⟩ : ∃ c3, c3 = r1 ^^^ x.toUInt32 := ⟨_, rfl⟩
      have e1 : bits .xor .u32 (r1.toNat : Int) ((x.toNat : Int) % (4294967296 : Int)) = (c3.toNat : Int) := by rw [w8_u32, xor_u32, h3]
      have H3 := Lib.hid h3
      clear h3
      unfold byt at hcell
      go_wp2
      go_loop [3, 5] (fun s i => ∃ j : Nat, j ≤ 8 ∧ i = .int .i64 j ∧ s = .int .u32 ((bitSteps j c3).toNat : Int)) (fun _ i => 8 - (intOf i).toNat)
      case atStart => exact ⟨0, Nat.zero_le _, rfl, rfl⟩
      case round =>
        obtain ⟨j, hj, rfl, rfl⟩ := hrel
        by_cases hlt2 : j < 8
        · have hst : bitSteps (j + 1) c3 = bitStep (bitSteps j c3) := rfl
          have HS := Lib.hid hst
          clear hst
          generalize bitSteps j c3 = q at HS ⊢
          obtain ⟨d, hd, ⟨h1, h2, h3⟩ | ⟨h1, h2, h3⟩⟩ := bit_facts q
          all_goals
            clear h1
            have hq := u32_lt q
            go_wp2
            go_round
            case rel => exact ⟨j + 1, by omega, by go_num, by rw [HS.out, ← hd.out]⟩
            case measure => simp [intOf]; omega
        · obtain rfl : j = 8 := by omega
          go_wp2
          go_round
          case rel => exact ⟨k + 1, by omega, by go_num, by rw [HST.out]; unfold byteStep; rw [← H3.out]; rfl⟩
          case measure => simp [intOf]; omega
    · obtain rfl : xs.length = k := by omega
      rw [List.take_length]
      have hq := u32_lt (crcFrom 4294967295 xs)
      go_wp2
      go_ret
      exact ⟨congrArg (fun z => Ending.returned (.int .u32 z)) (not_u32' _), rfl⟩
end Go.Proofs.YtfmlkagcmkbebaaDoor
