/- archive.Read of the empty archive. -/
import Derived.Test.YtfmlkagcmkbebaaDoorXf
import Derived.Test.YtfmlkagcmkbebaaDoorWh
namespace Go.Proofs.YtfmlkagcmkbebaaDoor
open Go.RowKit

def none0 : List UInt8 := [65, 78, 65, 82, 1, 3, 84, 0, 0, 158, 246, 68, 88, 165, 5, 69, 203, 178, 39, 168, 239, 61, 66, 20, 165]
theorem none0_eq : packB 0 [] = none0 := by
  have c1 : le32 (crc [3, 84, 0, 0]) = [158, 246, 68, 88] := by decide +kernel
  have h1 : topF 0 0 = [3, 84, 0, 0, 158, 246, 68, 88, 165] := by
    unfold topF frame
    rw [uvar_lt (by omega : (0 : Nat) < 128)]
    have e : uvar ([84] ++ [UInt8.ofNat 0] ++ [UInt8.ofNat 0]).length = [3] := by rw [uvar_lt (by decide)]; rfl
    rw [e]
    show [3, 84, 0, 0] ++ le32 (crc [3, 84, 0, 0]) ++ [165] = _
    rw [c1]; rfl
  have h2 : bodyP 0 0 [] = [65, 78, 65, 82, 1, 3, 84, 0, 0, 158, 246, 68, 88, 165] := by
    unfold bodyP; rw [h1]; rfl
  have c2 : le32 (crc [65, 78, 65, 82, 1, 3, 84, 0, 0, 158, 246, 68, 88, 165]) = [203, 178, 39, 168] := by decide +kernel
  have c3 : le32 (crc [5, 69, 203, 178, 39, 168]) = [239, 61, 66, 20] := by decide +kernel
  unfold packB
  show bodyP 0 0 [] ++ lastF (bodyP 0 0 []) = _
  rw [h2]
  unfold lastF frame
  rw [c2]
  have e : uvar ([69] ++ [203, 178, 39, 168] : List UInt8).length = [5] := by rw [uvar_lt (by decide)]; rfl
  rw [e]
  show _ ++ ([5, 69, 203, 178, 39, 168] ++ le32 (crc [5, 69, 203, 178, 39, 168]) ++ [165]) = _
  rw [c3]; rfl
theorem none0_fr : rdFr none0 5 = ([84, 0, 0], 14, 0) := by decide +kernel
theorem none0_two : rdTwo [84, 0, 0] 1 = (0, 0, true) := by decide +kernel
theorem none0_last : rdLast none0 14 = (25, 0) := by
  have c2 : le32 (crc (none0.take 14)) = [203, 178, 39, 168] := by decide +kernel
  have h : rdFr none0 14 = ([69, 203, 178, 39, 168], 25, 0) := by decide +kernel
  unfold rdLast
  rw [h, c2]; decide

theorem ld_arch {ops : Array Oper} {rest : List Oper} {o : Oper} {a : Act} {W : World} {Q : Exit → Act → World → Prop} {x : Operand} {fr : Nat × Nat} (ho : o.op = .load 53 x) (hgd : o.guard = none) (b : Nat)
    (hx : a.eval x = .pointer (some ⟨b, 0, none⟩)) (cs : Array Value) (hs : cs.size = 2) (hg : W.heap[b]? = some (.cells cs 53 fr))
    (h : wpList Tryd.prog ops Q rest (a.put o.dst (.agg cs)) W) : wpList Tryd.prog ops Q (o :: rest) a W :=
  wpList_load_row hgd 53 x ho b hx 53 _ _ _ hg Tryd.underlying53 rfl (by rw [hs]; kernel_rfl) h
theorem st_arch {ops : Array Oper} {rest : List Oper} {o : Oper} {a : Act} {W : World} {Q : Exit → Act → World → Prop} {x y : Operand} (ho : o.op = .store 53 x y) (hgd : o.guard = none) (b : Nat)
    (hx : a.eval x = .pointer (some ⟨b, 0, none⟩)) (cs old : Array Value) (hy : a.eval y = .agg cs) (hs : cs.size = 2) (hold : old.size = cs.size) (h1 : cs.all (·.oneCell') = true) (hg : W.heap[b]? = some (.cells old 53 (0, 0)))
    (h : wpList Tryd.prog ops Q rest (a.put o.dst undef) (W.setRow b cs)) : wpList Tryd.prog ops Q (o :: rest) a W :=
  wpList_store_row hgd 53 x y ho b cs hx hy 53 old hg (by rw [hs]; kernel_rfl) hold h1 h
theorem results_cell2 {fn : Func} {p u x : Tmp} {ty : TypeId} (h : fn.results = #[.cell p ty, .tmp u, .tmp x]) (tmps : Array Value) (P : Program) (w : World) (g : Nat) (cs : Array Value)
    (hp : tmps.getD p undef = .pointer (some ⟨g, 0, none⟩)) (hl : (loadVar ty ⟨g, 0, none⟩).run P w = .ok (.agg cs) w) :
    (results fn tmps).run P w = .ok (.tuple #[.agg cs, tmps.getD u undef, tmps.getD x undef]) w := by
  have hp' : tmps[p]?.getD undef = .pointer (some ⟨g, 0, none⟩) := by simpa using hp
  simp [results, h, hp', asAddr, hl, Sem.run_bind, Result.andThen]

set_option maxRecDepth 100000 in
set_option maxHeartbeats 4000000 in
theorem Read_none (v : Value) (w : World) (hT : Tab w) (hv : Bs w v none0) :
    Calls Tryd.prog 27 #[v] w fun e w' => e = .returned (.tuple #[.agg #[.int .i64 0, .slice none 0 0], .int .i64 0, .int .i64 0]) ∧ Below w.heap.size w w' := by
  have hl : none0.length = 25 := rfl
  obtain ⟨A, c, rfl, hn, hc, hr⟩ := hv.form
  rw [hl] at hv hn ⊢
  have hcv := fun W (hb : Below w.heap.size w W) => conv_bs ((hv.below hb).take (m := 5) (by decide))
  rw [show none0.take 5 = [65, 78, 65, 82, 1] from rfl] at hcv
  obtain ⟨g, o, rfl, _⟩ := hr 0 (by decide)
  have HP := Lib.hid hv
  have HT := Lib.hid hT
  clear hr hv hT hc
  have hcv0 := hcv _ (((Below.refl _ w).alloc (Nat.le_refl _) (.cells #[.int .i64 0, .slice none 0 0] 53)).alloc (by simp) (.cells #[.int .i64 0, .slice none 0 0] 53))
  have HA := Lib.hid (((Below.refl _ w).alloc (Nat.le_refl _) (.cells #[.int .i64 0, .slice none 0 0] 53)).alloc (by simp) (.cells #[.int .i64 0, .slice none 0 0] 53))
  clear hcv
  go_enter Tryd.func27, Tryd.ntmps27
  go_wp2_with fail
  have hTA := HT.out.below HA.out
  have hPA := HP.out.below HA.out
  have hRF := ReadFrame_any _ none0 5 (by decide) (by omega) _ hTA hPA
  rw [none0_fr] at hRF
  simp only at hRF
  have b2 : ((w.alloc (.cells #[.int .i64 0, .slice none 0 0] 53)).alloc (.cells #[.int .i64 0, .slice none 0 0] 53)).heap[w.heap.size]? = some (.cells #[.int .i64 0, .slice none 0 0] 53 (0, 0)) := (Below.heap_alloc _ _ _ (by simp)).trans (heap_alloc_new w _)
  have b5 : ((w.alloc (.cells #[.int .i64 0, .slice none 0 0] 53)).alloc (.cells #[.int .i64 0, .slice none 0 0] 53)).heap[w.heap.size + 1]? = some (.cells #[.int .i64 0, .slice none 0 0] 53 (0, 0)) := by
    have := heap_alloc_new (w.alloc (.cells #[.int .i64 0, .slice none 0 0] 53)) (.cells #[.int .i64 0, .slice none 0 0] 53); simpa using this
  have hzA : ((w.alloc (.cells #[.int .i64 0, .slice none 0 0] 53)).alloc (.cells #[.int .i64 0, .slice none 0 0] 53)).heap.size = w.heap.size + 2 := by simp
  generalize (w.alloc (.cells #[.int .i64 0, .slice none 0 0] 53)).alloc (.cells #[.int .i64 0, .slice none 0 0] 53) = W2 at *
  refine hRF.mono ?_
  rintro e w1 ⟨v1, rfl, HO1, hb1⟩
  obtain ⟨gb, cap, rfl, _, _, _⟩ := HO1.form (by simp)
  have hcell := (HO1.cell (k := 0) (by simp)).1
  simp only [List.getElem_cons_zero] at hcell
  replace hcell : w1.cell? ⟨gb, 0, none⟩ = some (.int .u8 84) := hcell
  have hTW := two_any _ [84, 0, 0] 1 (by simp) (by omega) w1 HO1.bs
  rw [none0_two] at hTW
  have HTW := Lib.hid hTW
  have c2 := (hb1.block w.heap.size (by omega)).trans b2
  have c5 := (hb1.block (w.heap.size + 1) (by omega)).trans b5
  have hk0 : w1.cell? ⟨w.heap.size + 1, 0, none⟩ = some (.int .i64 0) := by rw [cell_of_row w1 _ 0 _ _ _ c5]; rfl
  have hf0 : w1.frozen? ⟨w.heap.size + 1, 0, none⟩ = false := by simp [World.frozen?, c5]
  have hS := setCell_eq_setRow w1 (w.heap.size + 1) 0 _ _ _ (.int .i64 0) c5
  have d5 : (w1.setCell ⟨w.heap.size + 1, 0, none⟩ (.int .i64 0)).heap[w.heap.size + 1]? = some (.cells #[.int .i64 0, .slice none 0 0] 53 (0, 0)) := by
    rw [hS, setRow_heap _ _ _ _ _ _ c5]; rfl
  have d2 : (w1.setCell ⟨w.heap.size + 1, 0, none⟩ (.int .i64 0)).heap[w.heap.size]? = some (.cells #[.int .i64 0, .slice none 0 0] 53 (0, 0)) := by
    rw [hS, setRow_other _ _ _ _ (by omega)]; exact c2
  have s1 := hb1.size
  have hB1 : Below w.heap.size w (w1.setCell ⟨w.heap.size + 1, 0, none⟩ (.int .i64 0)) := (HA.out.trans (hb1.mono (by omega))).setCell (by simp) _
  have hz3 : (w1.setCell ⟨w.heap.size + 1, 0, none⟩ (.int .i64 0)).heap.size = w1.heap.size := by simp [World.setCell]
  clear hRF HO1 hS c2 c5 b2 b5 hTA hPA hTW hb1
  have HB1 := Lib.hid hB1
  have D2 := Lib.hid d2
  have D5 := Lib.hid d5
  clear hB1 d2 d5
  go_wp2_with fail
  refine HTW.out.mono ?_
  rintro e wz ⟨rfl, rfl⟩
  go_wp2_with fail
  generalize w1.setCell ⟨w.heap.size + 1, 0, none⟩ (.int .i64 0) = w3 at HB1 D2 D5 hz3
  have hT3 := HT.out.below HB1.out
  have hP3 := HP.out.below HB1.out
  have HRL := Lib.hid (readLast_any _ none0 14 (by decide) (by decide) w3 hT3 hP3)
  rw [none0_last] at HRL
  clear hT3 hP3 hk0 hf0 hcell
  go_loopw [7, 10, 12, 13, 14] (fun p n _ _ _ wr => p = .int .i64 14 ∧ n = .int .u64 0 ∧ w3 = wr) (fun _ _ _ _ _ _ => 0)
  case atStart => exact ⟨rfl, rfl, rfl⟩
  case round =>
    obtain ⟨rfl, rfl, rfl⟩ := hrel
    go_wp2_with fail
    refine HRL.out.mono ?_
    rintro e w5 ⟨rfl, hb5⟩
    have k2 := Lib.hid ((hb5.block w.heap.size (by omega)).trans D2.out)
    have k5 := Lib.hid ((hb5.block (w.heap.size + 1) (by omega)).trans D5.out)
    have HB5 := Lib.hid (HB1.out.trans (hb5.mono HB1.out.size))
    clear hb5
    go_wp2_with (first
      | (refine ld_arch (by exact rfl) (by exact rfl) (w.heap.size + 1) (by exact rfl) _ rfl (by exact k5.out) ?_)
      | (refine st_arch (by exact rfl) (by exact rfl) w.heap.size (by exact rfl) #[.int .i64 0, .slice none 0 0] #[.int .i64 0, .slice none 0 0] (by exact rfl) rfl rfl (by simp [Value.oneCell']) (by exact k2.out) ?_))
    try simp only [Exit.inBlock, Exit.then]
    refine bodyPost_ret (results_cell2 rfl _ _ _ w.heap.size #[.int .i64 0, .slice none 0 0] rfl (run_loadVar_row _ w.heap.size 53 53 _ _ _ (setRow_heap _ _ _ _ _ _ k2.out) Tryd.underlying53 rfl (by kernel_rfl))) rfl ⟨rfl, HB5.out.grown (grownBy_setRow _ _ _) HB5.out.size (fun k e => by injection e with e; omega)⟩
end Go.Proofs.YtfmlkagcmkbebaaDoor
