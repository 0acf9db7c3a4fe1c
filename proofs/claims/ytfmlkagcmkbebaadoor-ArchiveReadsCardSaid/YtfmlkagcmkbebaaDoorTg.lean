/- annalsref2: all pieces of a text. -/
import Derived.Test.YtfmlkagcmkbebaaDoorTf
import Derived.Test.YtfmlkagcmkbebaaDoorLa
namespace Go.Proofs.YtfmlkagcmkbebaaDoor
open Go.RowKit

theorem flat_get {sz : Nat} : ∀ {rows : List (List Value)} (_ : ∀ r ∈ rows, r.length = sz) {k j : Nat} (hk : k < rows.length) (_ : j < sz), rows.flatten[k * sz + j]? = (rows[k]'hk)[j]?
  | r :: rows, h, 0, j, _, hj => by
    rw [Nat.zero_mul, Nat.zero_add, List.flatten_cons, List.getElem?_append_left (by rw [h r (List.mem_cons_self ..)]; exact hj)]
    rfl
  | r :: rows, h, k + 1, j, hk, hj => by
    have hr := h r (List.mem_cons_self ..)
    rw [List.flatten_cons, List.getElem?_append_right (by rw [hr, Nat.succ_mul]; omega), hr, show (k + 1) * sz + j - sz = k * sz + j by rw [Nat.succ_mul]; omega]
    exact flat_get (fun x hx => h x (List.mem_cons_of_mem _ hx)) (by simpa using hk) hj
theorem flat_len {sz : Nat} : ∀ {rows : List (List Value)} (_ : ∀ r ∈ rows, r.length = sz), rows.flatten.length = rows.length * sz
  | [], _ => by simp
  | r :: rows, h => by
    rw [List.flatten_cons, List.length_append, h r (List.mem_cons_self ..), flat_len (fun x hx => h x (List.mem_cons_of_mem _ hx)), List.length_cons, Nat.succ_mul]; omega

/-- One element just laid. -/
theorem Rd.lits (W : World) (t : TypeId) (cs : Array Value) (sz n : Nat) (h : cs.size = n * sz) (hn : n ≤ 9223372036854775807) (b : Nat) (hb : b = W.heap.size) : Rd (W.alloc (.cells cs t)) sz (.slice (some ⟨b, 0, none⟩) n n) n cs.toList := by
  subst hb
  refine ⟨_, _, rfl, by simpa using h, Nat.le_refl _, by unfold maxLen; omega, fun j u hj => ⟨_, 0, rfl, ?_⟩⟩
  rw [cell_of_row _ _ _ _ _ _ (heap_alloc_new W _), Nat.zero_add, ← Array.getElem?_toList]; exact hj
/-- A piece's three cells. -/
def pieceC (p : Int × Nat × Nat) : List Value := [.int .i64 p.1, .int .i64 (p.2.1 : Int), .int .i64 (p.2.2 : Int)]
def pieceCs (l : List (Int × Nat × Nat)) : List Value := (l.map pieceC).flatten
/-- A list of pieces of the call's own. -/
def Opc (w : World) (B : Nat) (v : Value) (l : List (Int × Nat × Nat)) : Prop := w.ownsRow B 192 3 v l.length (pieceCs l)
theorem info_pc : (Tryd.prog.info? 192).map (fun i => (i.zero, i.size, i.bytes)) = some (some (.agg #[.int .i64 0, .int .i64 0, .int .i64 0]), 3, 24) := by kernel_rfl
theorem Opc.slice {w : World} {B : Nat} {v : Value} {l : List (Int × Nat × Nat)} (h : Opc w B v l) : ∃ A c, v = .slice A l.length c := by
  obtain ⟨A, c, e, _⟩ := Rd.of_own h; exact ⟨A, c, e⟩
theorem Opc.cells {w : World} {B : Nat} {A : Option Addr} {n c : Nat} {l : List (Int × Nat × Nat)} (h : Opc w B (.slice A n c) l) {k : Nat} (hk : k < l.length) :
    ∃ g, A = some ⟨g, 0, none⟩ ∧ w.cell? ⟨g, k * 3, none⟩ = some (.int .i64 (l[k]'hk).1) ∧ w.cell? ⟨g, k * 3 + 1, none⟩ = some (.int .i64 ((l[k]'hk).2.1 : Int)) ∧ w.cell? ⟨g, k * 3 + 2, none⟩ = some (.int .i64 ((l[k]'hk).2.2 : Int)) := by
  have hall : ∀ r ∈ l.map pieceC, r.length = 3 := fun r hr => by obtain ⟨p, _, rfl⟩ := List.mem_map.1 hr; rfl
  have hk' : k < (l.map pieceC).length := by simpa using hk
  rcases h.2 with ⟨e6, e7⟩ | ⟨g, cap, cur, e6, _⟩
  · omega
  · injection e6 with e6
    subst e6
    refine ⟨g, rfl, ?_, ?_, ?_⟩
    · have := World.ownsRow.cells h (g := g) rfl (k * 3 + 0) (.int .i64 (l[k]'hk).1) (by unfold pieceCs; rw [flat_get hall hk' (by omega)]; simp [pieceC])
      rw [add_plain] at this; simpa using this
    · have := World.ownsRow.cells h (g := g) rfl (k * 3 + 1) (.int .i64 ((l[k]'hk).2.1 : Int)) (by unfold pieceCs; rw [flat_get hall hk' (by omega)]; simp [pieceC])
      rw [add_plain] at this; simpa using this
    · have := World.ownsRow.cells h (g := g) rfl (k * 3 + 2) (.int .i64 ((l[k]'hk).2.2 : Int)) (by unfold pieceCs; rw [flat_get hall hk' (by omega)]; simp [pieceC])
      rw [add_plain] at this; simpa using this

set_option maxRecDepth 100000 in
set_option maxHeartbeats 2000000 in
theorem rPieces_any (s : ByteArray) (hs : s.size ≤ 1099511627776) (w : World) :
    Calls Tryd.prog 128 #[.string s] w fun e w' => ∃ v, e = .returned v ∧ Opc w' w.heap.size v (piecesF s s.size 0) ∧ Below w.heap.size w w' := by
  go_enter Tryd.func128, Tryd.ntmps128
  go_wp2
  go_loopw [3, 4] (fun o i wr => ∃ (L : List (Int × Nat × Nat)) (p f : Nat), i = .int .i64 (p : Int) ∧ Opc wr w.heap.size o L ∧ piecesF s s.size 0 = L ++ piecesF s f p ∧ s.size ≤ p + f ∧ L.length ≤ p ∧ p ≤ s.size + 4 ∧ Below w.heap.size w wr) (fun _ i _ => s.size - (intOf i).toNat)
  case atStart => exact ⟨[], 0, s.size, rfl, World.ownsRow_nil _ _ _ _, rfl, by omega, Nat.le_refl _, by omega, Below.refl _ _⟩
  case round =>
    obtain ⟨L, p, f, rfl, HO, hL, hf, hLp, hp4, HB⟩ := hrel
    obtain ⟨Ao, co, rfl⟩ := HO.slice
    have HL := Lib.hid hL
    clear hL
    by_cases hlt : p < s.size
    · obtain ⟨f', HF, hpf⟩ : ∃ f', Hid (f = f' + 1) ∧ piecesF s f p = (runeAt s p, p, (Utf8.decode s p).2) :: piecesF s f' (p + (Utf8.decode s p).2) := by
        cases f with
        | zero => omega
        | succ f => exact ⟨f, Lib.hid rfl, by simp [piecesF, hlt]⟩
      have HPF := Lib.hid hpf
      clear hpf
      have hwd := decode_width s p hlt
      have hw4 : (Utf8.decode s p).2 ≤ 4 := decode_w4 s p
      go_wp2_with fail
      refine (rpiece_any s p hlt (by omega) _).mono ?_
      rintro e w1 ⟨rfl, hb1⟩
      have s1 := hb1.size
      have sB := HB.size
      generalize hr : runeAt s p = r at *
      generalize hn : (Utf8.decode s p).2 = n at *
      clear hr hn
      unfold pieceV
      obtain ⟨W2, hW2⟩ : ∃ W2, (w1.alloc (.cells #[.int .i64 r, .int .i64 (p : Int), .int .i64 (n : Nat)] 192)).alloc (.cells #[.int .i64 r, .int .i64 (p : Int), .int .i64 (n : Nat)] 192) = W2 := ⟨_, rfl⟩
      have hal : Below w1.heap.size w1 W2 := by rw [← hW2]; exact ((Below.refl _ w1).alloc (Nat.le_refl _) _).alloc (by simp) _
      have HO2 : W2.ownsRow w.heap.size 192 3 (.slice Ao L.length co) L.length (pieceCs L) := own_below (own_below HO hb1) hal
      have HR2 : Rd W2 3 (.slice (some ⟨w1.heap.size + 1, 0, none⟩) 1 1) 1 (pieceC (r, p, n)) := by
        rw [← hW2]; exact Rd.lits _ 192 #[.int .i64 r, .int .i64 (p : Int), .int .i64 (n : Nat)] 3 1 rfl (by omega) (w1.heap.size + 1) (by simp)
      have HC2 := Lib.hid (fun (w3 : World) (g : W2.grownBy w3 (Value.slice Ao L.length co).ownBlock) =>
        (show w3.cell? ⟨w1.heap.size, 2, none⟩ = some (.int .i64 (n : Nat)) from g.cell (by rw [← hW2, cell_of_row _ w1.heap.size 2 _ _ (0, 0) ((Below.heap_alloc _ _ _ (by simp)).trans (heap_alloc_new w1 _))]; rfl) (fun e => by have := (own_below HO hb1).lt _ e.symm; simp at this)))
      have HBx := (HB.trans (hb1.mono sB)).trans (hal.mono (by omega))
      have hzW : W2.heap.size = w1.heap.size + 2 := by rw [← hW2]; simp
      have HW2 := Lib.hid hW2
      clear hW2
      go_wp2_with (at_builtin; rw [HW2.out]; refine wpList_app w.heap.size rfl (.tmp 13) (.tmp 15) 189 192 (.agg #[.int .i64 0, .int .i64 0, .int .i64 0]) 3 24 rfl Tryd.underlying189 info_pc rfl (by decide) _ L.length (pieceCs L) _ 1 (pieceC (r, p, n)) rfl rfl HO2 HR2 (fun u hu => by simp [pieceC] at hu; rcases hu with rfl | rfl | rfl <;> rfl) (by unfold maxLen; omega) (by omega) (by omega) ?_; intro v3 w3 g1 g2 g3 _ _; have hc2 := HC2.out _ g2; obtain ⟨A3, c3, e3, _⟩ := Rd.of_own g1; subst e3; have hB3 : Below w.heap.size w w3 := HBx.grown g2 (by omega) (fun k e => (HO2.lt k e).1))
      go_roundw
      case rel =>
        refine ⟨L ++ [(r, p, n)], p + n, f', by go_num, ?_, ?_, by have := HF.out; omega, by simp; omega, by omega, hB3⟩
        · unfold Opc
          have e : pieceCs (L ++ [(r, p, n)]) = pieceCs L ++ pieceC (r, p, n) := by simp [pieceCs]
          rw [e, List.length_append]; exact g1
        · rw [HL.out, HPF.out]; simp
      case measure => simp [intOf]; omega
    · have he : piecesF s f p = [] := by
        cases f with
        | zero => rfl
        | succ f => simp [piecesF, hlt]
      have HE := Lib.hid he
      clear he
      go_wp2
      go_ret
      exact ⟨_, rfl, by rw [HL.out, HE.out, List.append_nil]; exact HO, HB⟩
end Go.Proofs.YtfmlkagcmkbebaaDoor
