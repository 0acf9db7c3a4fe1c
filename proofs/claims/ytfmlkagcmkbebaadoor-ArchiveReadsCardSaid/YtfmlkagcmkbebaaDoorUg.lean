/- annalsref3: the fields that may stand; Check. -/
import Derived.Test.YtfmlkagcmkbebaaDoorUf
namespace Go.Proofs.YtfmlkagcmkbebaaDoor
open Go.RowKit

theorem tagsIn_succ (s : ByteArray) (n : Nat) : tagsIn s (n + 1) = tagsIn s n ++ [((b0 s n : Nat) : Int) - 96] := by simp [tagsIn, List.range_succ]
theorem tagsIn_len (s : ByteArray) (n : Nat) : (tagsIn s n).length = n := by simp [tagsIn]
set_option maxRecDepth 100000 in
set_option maxHeartbeats 4000000 in
theorem rFields_any (v k : Nat) (hv : v < 3) (hk : k < 7) (s : ByteArray) (hs : s.size ≤ 11) (ha : ∀ i, i < s.size → 97 ≤ b0 s i ∧ b0 s i ≤ 122) (w : World) (hc : w.cell? ⟨3, k * 3 + v, none⟩ = some (.string s)) :
    Calls Tryd.prog 92 #[.int .i64 ((v : Int) + 1), .int .i64 ((k : Int) + 1)] w fun e w' => ∃ x, e = .returned x ∧ Oi w' w.heap.size x (tagsIn s s.size) ∧ Below w.heap.size w w' := by
  have g1 : (v : Int) < 3 := by omega
  have g2 : (k : Int) < 7 := by omega
  have g5 : (0 : Int) ≤ (v : Int) := by omega
  have g6 : (0 : Int) ≤ (k : Int) := by omega
  have HA := Lib.hid ha
  clear ha
  go_enter Tryd.func92, Tryd.ntmps92
  go_wp2
  clear g1 g2 g5 g6 hc
  go_loopw [6, 7] (fun o i wr => ∃ j : Nat, j ≤ s.size ∧ i = .int .i64 (j : Int) ∧ Oi wr w.heap.size o (tagsIn s j) ∧ Below w.heap.size w wr) (fun _ i _ => s.size - (intOf i).toNat)
  case atStart => exact ⟨0, Nat.zero_le _, rfl, World.ownsRow_nil _ _ _ _, Below.refl _ _⟩
  case round =>
    obtain ⟨j, hj, rfl, HO, HB⟩ := hrel
    have hss : s.size ≤ 9223372036854775807 := by omega
    obtain ⟨Ao, co, rfl⟩ := HO.slice
    have htl := tagsIn_len s j
    have HTS := Lib.hid (tagsIn_succ s j)
    rw [htl]
    unfold Oi at HO
    rw [htl] at HO
    generalize hL : tagsIn s j = L at HO htl
    have HL := Lib.hid hL
    clear hL
    by_cases hlt : j < s.size
    · have hx := idx_b0 hlt
      obtain ⟨ha1, ha2⟩ := HA.out j hlt
      generalize hbb : b0 s j = b at hx ha1 ha2
      have HBB := Lib.hid hbb
      clear hbb
      have sB := HB.size
      obtain ⟨W2, hW2⟩ : ∃ W2, wr.alloc (.cells #[.int .i64 ((b : Int) - 97 + 1)] 3) = W2 := ⟨_, rfl⟩
      have hal : Below wr.heap.size wr W2 := by rw [← hW2]; exact (Below.refl _ _).alloc (Nat.le_refl _) _
      have HO2 : W2.ownsRow w.heap.size 3 1 (.slice Ao j co) j (L.map (Value.int .i64)) := own_below HO hal
      have HR2 : Rd W2 1 (.slice (some ⟨wr.heap.size, 0, none⟩) 1 1) 1 [.int .i64 ((b : Int) - 97 + 1)] := by
        rw [← hW2]; exact Rd.lits wr 3 #[.int .i64 ((b : Int) - 97 + 1)] 1 1 rfl (by omega) wr.heap.size rfl
      have HBx := HB.trans (hal.mono sB)
      have hzW : W2.heap.size = wr.heap.size + 1 := by rw [← hW2]; simp
      have HW2 := Lib.hid hW2
      clear hW2
      go_wp2_with (at_builtin; rw [HW2.out]; refine wpList_app w.heap.size rfl (.tmp 35) (.tmp 42) 43 3 (.int .i64 0) 1 8 rfl Tryd.underlying43 info_int rfl (by decide) _ j (L.map (Value.int .i64)) _ 1 [.int .i64 ((b : Int) - 97 + 1)] rfl rfl HO2 HR2 (fun u hu => by rw [List.mem_singleton] at hu; subst hu; rfl) (by unfold maxLen; omega) (by omega) (by omega) ?_; intro v3 w3 g1 g2 g3 _ _; have hB3 : Below w.heap.size w w3 := HBx.grown g2 (by omega) (fun k e => (HO2.lt k e).1))
      go_roundw
      case rel =>
        refine ⟨j + 1, by omega, by go_num, ?_, hB3⟩
        rw [HTS.out, HL.out, HBB.out]
        unfold Oi
        rw [List.length_append, htl, List.map_append]
        have e : (b : Int) - 97 + 1 = (b : Int) - 96 := by omega
        rw [e] at g1
        exact g1
      case measure => simp [intOf]; omega
    · obtain rfl : j = s.size := by omega
      go_wp2
      go_ret
      exact ⟨_, rfl, by rw [HL.out]; unfold Oi; rw [htl]; exact HO, HB⟩

def hasTag (l : List Int) (t : Nat) : Bool := l.any fun x => x == (t : Int)
set_option maxRecDepth 100000 in
set_option maxHeartbeats 2000000 in
theorem rstands_any (v k t : Nat) (hv : v < 3) (hk : k < 7) (s : ByteArray) (hs : s.size ≤ 11) (ha : ∀ i, i < s.size → 97 ≤ b0 s i ∧ b0 s i ≤ 122) (w : World) (hc : w.cell? ⟨3, k * 3 + v, none⟩ = some (.string s)) :
    Calls Tryd.prog 63 #[.int .i64 ((v : Int) + 1), .int .i64 ((k : Int) + 1), .int .i64 (t : Int)] w fun e w' => e = .returned (.bool (hasTag (tagsIn s s.size) t)) ∧ Below w.heap.size w w' := by
  have HF := Lib.hid (rFields_any v k hv hk s hs ha w hc)
  clear ha hc
  go_enter Tryd.func63, Tryd.ntmps63
  go_wp2_with fail
  refine HF.out.mono ?_
  rintro e w1 ⟨x, rfl, HO, HB⟩
  have hlen := tagsIn_len s s.size
  generalize htg : tagsIn s s.size = L at HO hlen
  have HTG := Lib.hid htg
  clear htg
  obtain ⟨A, c, rfl⟩ := HO.slice
  have hlm : L.length ≤ 11 := by omega
  have HO1 := Lib.hid HO
  clear HO hlen HF
  go_wp2_with fail
  go_loop [8] (fun i => ∃ j : Nat, j ≤ L.length ∧ i = .int .i64 (j : Int) ∧ ∀ q (h : q < L.length), q < j → ((L[q]'h) == (t : Int)) = false) (fun i => L.length - (intOf i).toNat)
  case atStart => exact ⟨0, Nat.zero_le _, rfl, fun q _ h => by omega⟩
  case round =>
    obtain ⟨j, hj, rfl, hq⟩ := hrel
    have HQ := Lib.hid hq
    clear hq
    by_cases hlt : j < L.length
    · obtain ⟨g, rfl, hcell⟩ := HO1.out.cell hlt
      generalize hx : L[j]'hlt = x at hcell
      have HX := Lib.hid hx
      clear hx
      cases hb : (x == (t : Int)) with
      | true =>
        have hr := Lib.hid (show hasTag L t = true by
          unfold hasTag; rw [List.any_eq_true]; exact ⟨x, by rw [← HX.out]; exact List.getElem_mem hlt, hb⟩)
        go_wp2
        go_ret
        exact ⟨by rw [HTG.out, hr.out]; rfl, HB⟩
      | false =>
        go_wp2
        go_round
        case rel =>
          refine ⟨j + 1, by omega, by go_num, fun q h hqj => ?_⟩
          rcases Nat.lt_or_eq_of_le (Nat.le_of_lt_succ hqj) with h1 | h1
          · exact HQ.out q h h1
          · subst h1; rw [HX.out]; exact hb
        case measure => simp [intOf]; omega
    · obtain rfl : j = L.length := by omega
      have hr := Lib.hid (show hasTag L t = false by
        cases h : hasTag L t with
        | false => rfl
        | true =>
          unfold hasTag at h
          rw [List.any_eq_true] at h
          obtain ⟨y, hy, hyb⟩ := h
          obtain ⟨q, hql, rfl⟩ := List.getElem_of_mem hy
          rw [HQ.out q hql hql] at hyb; cases hyb)
      go_wp2
      go_ret
      exact ⟨by rw [HTG.out, hr.out]; rfl, HB⟩

/-- The two tables say the same. -/
theorem rows_fit : ∀ (v : Fin 3) (k : Fin 7), let s : ByteArray := ⟨(rowsTab.getD (k.val * 3 + v.val) []).toArray⟩
    s.size ≤ 11 ∧ (∀ i : Fin 11, i.val < s.size → 97 ≤ b0 s i.val ∧ b0 s i.val ≤ 122) ∧ ∀ t : Fin 12, hasTag (tagsIn s s.size) t.val = bitB (mayTab.getD (v.val * 7 + k.val) 0) t.val := by decide +kernel
theorem rstands_is {v k t : Nat} {c : Bool} (h : Hid (bitB (tagsOf (v + 1) (k + 1)) t = c)) (hv : v < 3) (hk : k < 7) (ht : t ≤ 11) (w : World) (hT : TabF w) :
    Calls Tryd.prog 63 #[.int .i64 ((v : Int) + 1), .int .i64 ((k : Int) + 1), .int .i64 (t : Int)] w fun e w' => e = .returned (.bool c) ∧ Below w.heap.size w w' := by
  obtain ⟨h1, h2, h3⟩ := rows_fit ⟨v, hv⟩ ⟨k, hk⟩
  have h4 := h3 ⟨t, by omega⟩
  have hx := rstands_any v k t hv hk _ h1 (fun i hi => h2 ⟨i, by omega⟩ hi) w (hT (k * 3 + v) (by omega))
  rw [h4] at hx
  have e : mayTab.getD (v * 7 + k) 0 = tagsOf (v + 1) (k + 1) := rfl
  rw [e, h.out] at hx
  exact hx
end Go.Proofs.YtfmlkagcmkbebaaDoor
