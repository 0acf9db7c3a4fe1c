/- Of these: Wb Wc Wd We Wf. -/
import Derived.Test.YtfmlkagcmkbebaaDoorLc
import Derived.Test.YtfmlkagcmkbebaaDoorUd
import Derived.Test.YtfmlkagcmkbebaaDoorTg
import Derived.Test.YtfmlkagcmkbebaaDoorLh
import Derived.Deep.MidRow
import Derived.Deep.WholeRow
import Derived.Test.YtfmlkagcmkbebaaDoorLd
import Derived.Test.YtfmlkagcmkbebaaDoorUe
import Derived.Test.YtfmlkagcmkbebaaDoorUf
import Derived.Deep.RegionHeld3

/- annalsref1.Part, annalsref3.Clone. -/
namespace Go.Proofs.YtfmlkagcmkbebaaDoor
open Go.RowKit

theorem rec_one (r : Rc) (A : Option Addr) (n c : Nat) : (r.cells (.slice A n c)).all (·.oneCell') = true := by
  simp [Rc.cells, Value.oneCell']
theorem grownBy_setRow (w : World) (g : Nat) (cs : Array Value) : w.grownBy (w.setRow g cs) (some g) :=
  ⟨rfl, rfl, rfl, by simp, fun i _ hne => setRow_other _ _ _ _ (fun e => hne (by rw [e]))⟩
theorem u8_id (x : UInt8) : UInt8.ofNat x.toNat = x := by simp

set_option maxRecDepth 100000 in
set_option maxHeartbeats 1000000 in
/-- annalsref1.Part: the bytes from lo to hi in new memory. -/
theorem rPart_any (v : Value) (xs : List UInt8) (lo hi : Nat) (hlh : lo ≤ hi) (hh : hi ≤ xs.length) (hx : xs.length ≤ 1099511627776) (w : World) (hp : Bs w v xs) :
    Calls Tryd.prog 87 #[v, .int .i64 (lo : Int), .int .i64 (hi : Int)] w (Gives w ((xs.take hi).drop lo)) := by
  obtain ⟨A, c, rfl, hn, hc, hr⟩ := hp.form
  have HR := Lib.hid hr
  clear hr hc hp
  go_enter Tryd.func87, Tryd.ntmps87
  go_wp2_with fail
  go_loopw [7, 8] (fun l i wr => ∃ k : Nat, lo ≤ k ∧ k ≤ hi ∧ i = .int .i64 (k : Int) ∧ Ob wr w.heap.size l ((xs.take k).drop lo) ∧ Below w.heap.size w wr) (fun _ i _ => hi - (intOf i).toNat)
  case atStart => exact ⟨lo, Nat.le_refl _, hlh, rfl, by rw [List.drop_of_length_le (by simp; omega)]; exact Ob.nil _ _, Below.refl _ _⟩
  case round =>
    obtain ⟨k, h1, h2, rfl, HO, HB⟩ := hrel
    have sB := HB.size
    by_cases hlt : k < hi
    · obtain ⟨b, o, rfl, hcell⟩ := HR.out k (by omega)
      have hcell2 := (HB.cell (World.block_lt_of_cell? w _ hcell)).trans hcell
      have HS := Lib.hid (show (xs.take (k + 1)).drop lo = (xs.take k).drop lo ++ [xs[k]'(by omega)] by
        rw [List.take_succ_eq_append_getElem (by omega), List.drop_append_of_le_length (by simp; omega)])
      have hl : ((xs.take k).drop lo).length ≤ 1099511627776 := by simp; omega
      generalize xs[k]'(by omega) = z at hcell hcell2 HS
      generalize (xs.take k).drop lo = dn at HO HS hl
      unfold byt at hcell2
      clear hcell
      obtain ⟨Ao, co, rfl⟩ := HO.slice
      have hlt2 : (k : Int) < (hi : Int) := by omega
      have hlt3 : (k : Int) < (xs.length : Int) := by omega
      go_wp2_with (at_builtin; refine appB w.heap.size rfl (.tmp 15) _ rfl _ dn _ [z] rfl rfl (HO.below ((Below.refl _ _).alloc (Nat.le_refl _) _)) (Bs.litn _ _ [z] 1 _ rfl rfl (by omega) (by simp)) (by simp; omega) (HB.alloc sB _) (by simp; omega) ?_; intro v1 w1 HO1 HB1 _ _)
      go_roundw
      case rel => exact ⟨k + 1, by omega, by omega, by go_num, by rw [HS.out]; exact HO1, HB1⟩
      case measure => simp [intOf]; omega
    · have he : k = hi := by omega
      subst he
      go_wp2_with fail
      go_ret
      exact ⟨_, rfl, HO, HB⟩

set_option maxRecDepth 100000 in
set_option maxHeartbeats 1000000 in
/-- annalsref3.Clone. -/
theorem rClone_any (r : Rc) (dv : Value) (hx : r.da.length ≤ 1099511627776) (w : World) (hd : Bs w dv r.da) :
    Calls Tryd.prog 75 #[r.val dv] w fun e w' => ∃ dv', e = .returned (r.val dv') ∧ Ob w' w.heap.size dv' r.da ∧ Below w.heap.size w w' := by
  obtain ⟨A, c, rfl, _⟩ := hd.form
  rw [val_eq]
  have HP := Lib.hid hd
  clear hd
  go_enter Tryd.func75, Tryd.ntmps75
  go_wp2_with fail
  obtain ⟨W2, hW2⟩ : ∃ W2, (w.alloc (.cells #[.int .i64 r.v, .int .i64 r.kd, .int .i64 r.sg, .int .i64 r.st, .int .i64 r.tr, .int .i64 r.tm, .int .i64 r.la, .int .i64 r.co, .int .i64 r.cn, .int .i64 r.pv, .string r.nm, .slice A r.da.length c] 62)).alloc
      (.cells #[.int .i64 0, .int .i64 0, .int .i64 0, .int .i64 0, .int .i64 0, .int .i64 0, .int .i64 0, .int .i64 0, .int .i64 0, .int .i64 0, .string ⟨#[]⟩, .slice none 0 0] 62) = W2 := ⟨_, rfl⟩
  have hB2 : Below w.heap.size w W2 := by rw [← hW2]; exact ((Below.refl _ w).alloc (Nat.le_refl _) _).alloc (by simp) _
  have hz : W2.heap.size = w.heap.size + 2 := by rw [← hW2]; simp
  have hb0 : W2.heap[w.heap.size]? = some (.cells #[.int .i64 r.v, .int .i64 r.kd, .int .i64 r.sg, .int .i64 r.st, .int .i64 r.tr, .int .i64 r.tm, .int .i64 r.la, .int .i64 r.co, .int .i64 r.cn, .int .i64 r.pv, .string r.nm, .slice A r.da.length c] 62 (0, 0)) := by
    rw [← hW2]; exact (Below.heap_alloc _ _ _ (by simp)).trans (heap_alloc_new w _)
  have hb1 : W2.heap[w.heap.size + 1]? = some (.cells #[.int .i64 0, .int .i64 0, .int .i64 0, .int .i64 0, .int .i64 0, .int .i64 0, .int .i64 0, .int .i64 0, .int .i64 0, .int .i64 0, .string ⟨#[]⟩, .slice none 0 0] 62 (0, 0)) := by
    rw [← hW2]; have := heap_alloc_new (w.alloc (.cells #[.int .i64 r.v, .int .i64 r.kd, .int .i64 r.sg, .int .i64 r.st, .int .i64 r.tr, .int .i64 r.tm, .int .i64 r.la, .int .i64 r.co, .int .i64 r.cn, .int .i64 r.pv, .string r.nm, .slice A r.da.length c] 62)) (.cells #[.int .i64 0, .int .i64 0, .int .i64 0, .int .i64 0, .int .i64 0, .int .i64 0, .int .i64 0, .int .i64 0, .int .i64 0, .int .i64 0, .string ⟨#[]⟩, .slice none 0 0] 62); simpa using this
  rw [hW2]
  clear hW2
  refine (rPart_any _ r.da 0 r.da.length (by omega) (Nat.le_refl _) hx W2 (HP.out.below hB2)).mono ?_
  rintro e w1 ⟨x, rfl, HX, hb⟩
  rw [List.take_length, List.drop_zero] at HX
  have s1 := hb.size
  have hc0 := (hb.block _ (by omega)).trans hb0
  have hc1 := (hb.block _ (by omega)).trans hb1
  have hz1 : w.heap.size + 1 < w1.heap.size := by omega
  have hBw1 := hB2.trans (hb.mono (by omega))
  have HXm : Ob w1 (w.heap.size + 2) x r.da := by rw [← hz]; exact HX
  obtain ⟨A2, c2, rfl⟩ := HX.slice
  clear hb0 hb1 HX
  have hf0 : w1.frozen? ⟨w.heap.size, 11, none⟩ = false := by simp [World.frozen?, hc0]
  have hk0 : w1.cell? ⟨w.heap.size, 11, none⟩ = some (.slice A r.da.length c) := by rw [cell_of_row w1 _ 11 _ _ _ hc0]; rfl
  have hS := setCell_eq_setRow w1 w.heap.size 11 _ _ _ (.slice A2 r.da.length c2) hc0
  have hd0 : (w1.setCell ⟨w.heap.size, 11, none⟩ (.slice A2 r.da.length c2)).heap[w.heap.size]? = some (.cells (r.cells (.slice A2 r.da.length c2)) 62 (0, 0)) := by
    rw [hS, setRow_heap _ _ _ _ _ _ hc0]; rfl
  have hd1 : (w1.setCell ⟨w.heap.size, 11, none⟩ (.slice A2 r.da.length c2)).heap[w.heap.size + 1]? = some (.cells #[.int .i64 0, .int .i64 0, .int .i64 0, .int .i64 0, .int .i64 0, .int .i64 0, .int .i64 0, .int .i64 0, .int .i64 0, .int .i64 0, .string ⟨#[]⟩, .slice none 0 0] 62 (0, 0)) := by
    rw [hS, setRow_other _ _ _ _ (by omega)]; exact hc1
  have hBs : Below w.heap.size w (w1.setCell ⟨w.heap.size, 11, none⟩ (.slice A2 r.da.length c2)) := hBw1.setCell (Nat.le_refl _) _
  have HXs : Ob (w1.setCell ⟨w.heap.size, 11, none⟩ (.slice A2 r.da.length c2)) (w.heap.size + 2) (.slice A2 r.da.length c2) r.da := own_kp HXm (Kp.set _ _) (fun k hk e => by have := (HXm.lt k hk).1; simp at e; omega)
  clear hS
  obtain ⟨w3, hw3⟩ : ∃ w3, w1.setCell ⟨w.heap.size, 11, none⟩ (.slice A2 r.da.length c2) = w3 := ⟨_, rfl⟩
  rw [hw3] at hd0 hd1 hBs HXs
  have HW := Lib.hid hw3
  clear hw3 hBw1 hc0 hc1
  have H0 := Lib.hid hd0
  have H1 := Lib.hid hd1
  clear hd0 hd1
  go_wp2_with (first
    | (rw [HW.out]; refine wpList_load_row rfl 62 _ rfl w.heap.size rfl 62 _ _ _ H0.out Tryd.underlying62 rfl (by kernel_rfl) ?_)
    | (refine wpList_store_row rfl 62 _ _ rfl (w.heap.size + 1) _ rfl rfl 62 _ H1.out (by kernel_rfl) rfl (rec_one _ _ _ _) ?_))
  refine bodyPost_ret (results_cell_row rfl _ _ (w.heap.size + 1) 62 _ _ _ rfl (setRow_heap _ _ _ _ _ _ H1.out) Tryd.underlying62 rfl (by kernel_rfl)) rfl ⟨_, rfl, ?_, hBs.grown (grownBy_setRow _ _ _) hBs.size (fun k e => by injection e with e; omega)⟩
  exact own_mono (own_kp HXs (Kp.of_grown (grownBy_setRow _ _ _)) (fun k hk e => by have := (HXm.lt k hk).1; injection e with e; omega)) (by omega)
end Go.Proofs.YtfmlkagcmkbebaaDoor

/- Lists of records; annalsref3.CloneAll. -/
namespace Go.Proofs.YtfmlkagcmkbebaaDoor
open Go.RowKit

/-- A record and its data's slice. -/
abbrev Rec := Rc × Value
def recC (p : Rec) : List Value := (p.1.cells p.2).toList
def recCs (l : List Rec) : List Value := (l.map recC).flatten
theorem recC_len (p : Rec) : (recC p).length = 12 := rfl
theorem recCs_snoc (l : List Rec) (p : Rec) : recCs (l ++ [p]) = recCs l ++ recC p := by simp [recCs]
theorem recC_one (r : Rc) (A : Option Addr) (n c : Nat) : ∀ u ∈ recC (r, .slice A n c), u.oneCell' = true := by
  intro u hu
  exact Array.all_eq_true_iff_forall_mem.1 (rec_one r A n c) u (by simpa [recC] using hu)
/-- A slice of records. -/
structure Rs (w : World) (v : Value) (l : List Rec) : Prop where
  rd : Rd w 12 v l.length (recCs l)
  da : ∀ p, p ∈ l → Bs w p.2 p.1.da
theorem Rs.below {w w' : World} {v : Value} {l : List Rec} (h : Rs w v l) (hb : Below w.heap.size w w') : Rs w' v l := ⟨h.rd.below hb, fun p hp => (h.da p hp).below hb⟩
theorem recCs_at {l : List Rec} {k j : Nat} (hk : k < l.length) (hj : j < 12) : (recCs l)[k * 12 + j]? = (recC (l[k]'hk))[j]? := by
  have hall : ∀ r ∈ l.map recC, r.length = 12 := fun r hr => by obtain ⟨p, _, rfl⟩ := List.mem_map.1 hr; rfl
  have := flat_get hall (k := k) (j := j) (by simpa using hk) hj
  rw [List.getElem_map] at this; exact this
theorem Rs.form {w : World} {v : Value} {l : List Rec} (h : Rs w v l) : ∃ A c, v = .slice A l.length c ∧ l.length ≤ c ∧ c ≤ maxLen ∧
    ∀ k (hk : k < l.length), ∃ b o, A = some ⟨b, o, none⟩ ∧ w.rangeAt b (o + k * 12) (recC (l[k]'hk)) := by
  obtain ⟨A, c, rfl, _, hn, hc, hr⟩ := h.rd
  refine ⟨A, c, rfl, hn, hc, fun k hk => ?_⟩
  obtain ⟨b, o, hA, _⟩ := hr (k * 12 + 0) _ ((recCs_at hk (j := 0) (by omega)).trans (by rfl))
  refine ⟨b, o, hA, fun j u hj => ?_⟩
  have hj12 : j < 12 := by have := (List.getElem?_eq_some_iff.1 hj).1; rwa [recC_len] at this
  obtain ⟨b2, o2, hA2, h2⟩ := hr (k * 12 + j) u ((recCs_at hk hj12).trans hj)
  rw [hA] at hA2; injection hA2 with e; injection e with e1 e2; subst e1; subst e2
  rw [show o + k * 12 + j = o + (k * 12 + j) by omega]; exact h2
/-- A list of records of the call's own, their data too. -/
structure Ow (w : World) (B : Nat) (v : Value) (l : List Rec) : Prop where
  own : w.ownsRow B 62 12 v l.length (recCs l)
  da : ∀ p, p ∈ l → Ob w B p.2 p.1.da
theorem Ow.rs {w : World} {B : Nat} {v : Value} {l : List Rec} (h : Ow w B v l) : Rs w v l := ⟨Rd.of_own h.own, fun p hp => (h.da p hp).bs⟩
theorem Ow.nil (w : World) (B : Nat) : Ow w B (.slice none 0 0) [] := ⟨World.ownsRow_nil _ _ _ _, fun p hp => by simp at hp⟩
theorem Ow.below {w w' : World} {B : Nat} {v : Value} {l : List Rec} (h : Ow w B v l) (hb : Below w.heap.size w w') : Ow w' B v l := ⟨own_below h.own hb, fun p hp => (h.da p hp).below hb⟩
theorem Ow.slice {w : World} {B : Nat} {v : Value} {l : List Rec} (h : Ow w B v l) : ∃ A c, v = .slice A l.length c := by
  obtain ⟨A, c, e, _⟩ := Rd.of_own h.own; exact ⟨A, c, e⟩
/-- One record more. -/
theorem Ow.snoc {w w' : World} {B : Nat} {v v' : Value} {l : List Rec} {p : Rec} (h : Ow w B v l) (hg : w.grownBy w' v.ownBlock) (ho : w'.ownsRow B 62 12 v' (l.length + 1) (recCs l ++ recC p)) (hp : Ob w B p.2 p.1.da) : Ow w' B v' (l ++ [p]) := by
  refine ⟨by rw [List.length_append, recCs_snoc]; exact ho, fun q hq => ?_⟩
  have key : ∀ (q : Rec), Ob w B q.2 q.1.da → Ob w' B q.2 q.1.da := fun q hq => own_kp hq (Kp.of_grown hg) (fun k hk e => own_type_ne hq h.own (by decide) k hk e.symm)
  rcases List.mem_append.1 hq with hq | hq
  · exact key q (h.da q hq)
  · rw [List.mem_singleton] at hq; subst hq; exact key q hp
theorem rangeAt_below {w w' : World} {b o : Nat} {cs : List Value} (h : w.rangeAt b o cs) (hb : Below w.heap.size w w') : w'.rangeAt b o cs := fun j v hv => (hb.cell (World.block_lt_of_cell? w _ (h j v hv))).trans (h j v hv)
theorem info_rec : (Tryd.prog.info? 62).map (fun i => (i.zero, i.size, i.bytes)) = some (some (.agg #[.int .i64 0, .int .i64 0, .int .i64 0, .int .i64 0, .int .i64 0, .int .i64 0, .int .i64 0, .int .i64 0, .int .i64 0, .int .i64 0, .string ⟨#[]⟩, .slice none 0 0]), 12, 120) := by kernel_rfl

/-- A record out of a block that holds just it. -/
theorem ld_row {ops : Array Oper} {rest : List Oper} {o : Oper} {a : Act} {W : World} {Q : Exit → Act → World → Prop} {x : Operand} {fr : Nat × Nat} (ho : o.op = .load 62 x) (hgd : o.guard = none) (b : Nat)
    (hx : a.eval x = .pointer (some ⟨b, 0, none⟩)) (r : Rc) (dv : Value) (hg : W.heap[b]? = some (.cells (r.cells dv) 62 fr))
    (h : wpList Tryd.prog ops Q rest (a.put o.dst (.agg (r.cells dv))) W) : wpList Tryd.prog ops Q (o :: rest) a W :=
  wpList_load_row hgd 62 x ho b hx 62 _ _ _ hg Tryd.underlying62 rfl (by kernel_rfl) h
/-- A record out of a list. -/
theorem ld_mid {ops : Array Oper} {rest : List Oper} {o : Oper} {a : Act} {W : World} {Q : Exit → Act → World → Prop} {x : Operand} (ho : o.op = .load 62 x) (hgd : o.guard = none) (b i : Nat)
    (hx : a.eval x = .pointer (some ⟨b, i, none⟩)) (r : Rc) (dv : Value) (hg : W.rangeAt b i (recC (r, dv)))
    (h : wpList Tryd.prog ops Q rest (a.put o.dst (.agg (r.cells dv))) W) : wpList Tryd.prog ops Q (o :: rest) a W :=
  wpList_load_mid hgd 62 x ho b i hx (recC (r, dv)) _ hg Tryd.underlying62 rfl (by kernel_rfl) h
/-- A record into the block that was made last. -/
theorem st_new {ops : Array Oper} {rest : List Oper} {o : Oper} {a : Act} {W : World} {Q : Exit → Act → World → Prop} {x y : Operand} {old : Array Value} (ho : o.op = .store 62 x y) (hgd : o.guard = none) (b : Nat) (hb : b = W.heap.size)
    (hx : a.eval x = .pointer (some ⟨b, 0, none⟩)) (r : Rc) (A : Option Addr) (n c : Nat) (hy : a.eval y = .agg (r.cells (.slice A n c))) (hold : old.size = 12)
    (h : wpList Tryd.prog ops Q rest (a.put o.dst undef) (W.alloc (.cells (r.cells (.slice A n c)) 62))) : wpList Tryd.prog ops Q (o :: rest) a (W.alloc (.cells old 62)) := by
  subst hb
  refine wpList_store_row hgd 62 x y ho W.heap.size _ hx hy 62 old (heap_alloc_new _ _) (by kernel_rfl) hold (rec_one _ _ _ _) ?_
  rw [World.setRow_alloc_new]; exact h

set_option maxRecDepth 100000 in
set_option maxHeartbeats 2000000 in
theorem rCloneAll_any (v : Value) (l : List Rec) (hl : l.length ≤ 1048576) (hx : ∀ p, p ∈ l → p.1.da.length ≤ 1099511627776) (w : World) (hp : Rs w v l) :
    Calls Tryd.prog 48 #[v] w fun e w' => ∃ v' l', e = .returned v' ∧ Ow w' w.heap.size v' l' ∧ l'.map Prod.fst = l.map Prod.fst ∧ Below w.heap.size w w' := by
  obtain ⟨A, c, rfl, hn, hc, hr⟩ := hp.form
  have HR := Lib.hid hr
  have HP := Lib.hid hp
  have HX := Lib.hid hx
  clear hr hp hc hx
  go_enter Tryd.func48, Tryd.ntmps48
  go_wp2_with fail
  go_loopw [3, 4] (fun m i wr => ∃ (k : Nat) (lk : List Rec), k ≤ l.length ∧ i = .int .i64 (k : Int) ∧ lk.map Prod.fst = (l.take k).map Prod.fst ∧ Ow wr w.heap.size m lk ∧ Below w.heap.size w wr) (fun _ i _ => l.length - (intOf i).toNat)
  case atStart => exact ⟨0, [], Nat.zero_le _, rfl, rfl, Ow.nil _ _, Below.refl _ _⟩
  case round =>
    obtain ⟨k, lk, hk, rfl, he, HO, HB⟩ := hrel
    have HE := Lib.hid he
    have hlk : lk.length = k := by have := congrArg List.length he; simpa [Nat.min_eq_left hk] using this
    clear he
    have sB := HB.size
    obtain ⟨Am, cm, e⟩ := HO.slice
    rw [hlk] at e
    subst e
    by_cases hlt : k < l.length
    · obtain ⟨b, o, rfl, hcell⟩ := HR.out k hlt
      have hcw := rangeAt_below hcell HB
      have HDA := (HP.out.da _ (List.getElem_mem hlt)).below HB
      have HXA := HX.out _ (List.getElem_mem hlt)
      have HQ := Lib.hid (show (l.take (k + 1)).map Prod.fst = (l.take k).map Prod.fst ++ [(l[k]'hlt).1] by rw [List.take_succ_eq_append_getElem hlt, List.map_append]; rfl)
      generalize l[k]'hlt = p at hcw HDA HXA HQ
      obtain ⟨r, dv⟩ := p
      clear hcell
      have hlt2 : (k : Int) < (l.length : Int) := by omega
      have HC := Lib.hid hcw
      clear hcw
      go_wp2_with (first
        | (refine ld_mid (by exact rfl) (by exact rfl) b (o + k * 12) (by exact rfl) r dv (by exact HC.out) ?_))
      refine (rClone_any r dv HXA wr HDA).mono ?_
      rintro e w1 ⟨dv2, rfl, HO2, hb1⟩
      obtain ⟨A2, c2, rfl⟩ := HO2.slice
      have s1 := hb1.size
      obtain ⟨W2, hW2⟩ : ∃ W2, (w1.alloc (.cells #[.int .i64 r.v, .int .i64 r.kd, .int .i64 r.sg, .int .i64 r.st, .int .i64 r.tr, .int .i64 r.tm, .int .i64 r.la, .int .i64 r.co, .int .i64 r.cn, .int .i64 r.pv, .string r.nm, .slice A2 r.da.length c2] 62)).alloc (.cells #[.int .i64 r.v, .int .i64 r.kd, .int .i64 r.sg, .int .i64 r.st, .int .i64 r.tr, .int .i64 r.tm, .int .i64 r.la, .int .i64 r.co, .int .i64 r.cn, .int .i64 r.pv, .string r.nm, .slice A2 r.da.length c2] 62) = W2 := ⟨_, rfl⟩
      have hal : Below w1.heap.size w1 W2 := by rw [← hW2]; exact ((Below.refl _ w1).alloc (Nat.le_refl _) _).alloc (by simp) _
      have HOW := (HO.below hb1).below hal
      have HOw := HOW.own
      rw [hlk] at HOw
      have HR2 : Rd W2 12 (.slice (some ⟨w1.heap.size + 1, 0, none⟩) 1 1) 1 (recC (r, .slice A2 r.da.length c2)) := by
        rw [← hW2]; exact Rd.lits _ 62 #[.int .i64 r.v, .int .i64 r.kd, .int .i64 r.sg, .int .i64 r.st, .int .i64 r.tr, .int .i64 r.tm, .int .i64 r.la, .int .i64 r.co, .int .i64 r.cn, .int .i64 r.pv, .string r.nm, .slice A2 r.da.length c2] 12 1 rfl (by omega) (w1.heap.size + 1) (by simp)
      have HBx := (HB.trans (hb1.mono sB)).trans (hal.mono (by omega))
      have hB1x := hb1.trans (hal.mono s1)
      have hzW : W2.heap.size = w1.heap.size + 2 := by rw [← hW2]; simp
      have HOb := own_mono (HO2.below hal) sB
      have HW2 := Lib.hid hW2
      clear hW2
      rw [val_eq]
      go_wp2_with (at_builtin; rw [HW2.out]; refine wpList_app w.heap.size rfl (.tmp 17) (.tmp 19) 49 62 _ 12 120 rfl Tryd.underlying49 info_rec rfl (by decide) _ k (recCs lk) _ 1 (recC (r, .slice A2 r.da.length c2)) rfl rfl HOw HR2 (recC_one _ _ _ _) (by unfold maxLen; omega) (by omega) (by omega) ?_; intro v3 w3 g1 g2 g3 _ _; obtain ⟨A3, c3, e3, _⟩ := Rd.of_own g1; subst e3; have HF := HOW.snoc (p := (r, .slice A2 r.da.length c2)) g2 (by rw [hlk]; exact g1) HOb; have hB3 : Below w.heap.size w w3 := HBx.grown g2 (by omega) (fun k e => (HOw.lt k e).1))
      go_roundw
      case rel =>
        exact ⟨k + 1, _, by omega, by go_num, by rw [HQ.out, List.map_append, HE.out]; rfl, HF, hB3⟩
      case measure => simp [intOf]; omega
    · have he : k = l.length := by omega
      go_wp2_with fail
      go_ret
      exact ⟨_, lk, rfl, HO, by rw [HE.out, he, List.take_length], HB⟩
end Go.Proofs.YtfmlkagcmkbebaaDoor

/- cutRecs, laidRecs of the law. -/
namespace Go.Proofs.YtfmlkagcmkbebaaDoor
open Go.RowKit

theorem Rs.take {w : World} {A : Option Addr} {n c m : Nat} {l : List Rec} (h : Rs w (.slice A n c) l) (hm : m ≤ l.length) : Rs w (.slice A m c) (l.take m) := by
  obtain ⟨A', c', e, hl, hn, hc, hr⟩ := h.rd
  injection e with e1 e2 e3
  subst e1; subst e2; subst e3
  have hl2 : (l.take m).length = m := by rw [List.length_take]; omega
  have hpre : recCs l = recCs (l.take m) ++ recCs (l.drop m) := by
    unfold recCs; rw [← List.flatten_append, ← List.map_append, List.take_append_drop]
  refine ⟨⟨A, c, by rw [hl2], ?_, by omega, hc, fun j u hj => hr j u ?_⟩, fun p hp => h.da p (List.mem_of_mem_take hp)⟩
  · have hall : ∀ r ∈ (l.take m).map recC, r.length = 12 := fun r hr => by obtain ⟨p, _, rfl⟩ := List.mem_map.1 hr; rfl
    have := flat_len hall; rw [List.length_map] at this; exact this
  · rw [hpre, List.getElem?_append_left (List.getElem?_eq_some_iff.1 hj).1]; exact hj

set_option maxRecDepth 100000 in
theorem cutRecs_any (v : Value) (l : List Rec) (hl : l.length ≤ 1048576) (hx : ∀ p, p ∈ l → p.1.da.length ≤ 1099511627776) (w : World) (hp : Rs w v l) :
    Calls Tryd.prog 21 #[v] w fun e w' => ∃ v' l', e = .returned v' ∧ Ow w' w.heap.size v' l' ∧ l'.map Prod.fst = (l.take 120).map Prod.fst ∧ Below w.heap.size w w' := by
  obtain ⟨A, c, rfl, hn, hc, hr⟩ := hp.form
  unfold maxLen at hc
  by_cases h : 120 < l.length
  · obtain ⟨b, o, rfl, _⟩ := hr 0 (by omega)
    have HC := Lib.hid (rCloneAll_any (.slice (some ⟨b, o, none⟩) 120 c) (l.take 120) (by simp; omega) (fun p hp => hx p (List.mem_of_mem_take hp)) w (hp.take (by omega)))
    clear hr hp hx
    go_enter Tryd.func21, Tryd.ntmps21
    go_wp2_with fail
    refine HC.out.mono ?_
    rintro e w1 ⟨v', l', rfl, HO, he, hb⟩
    have HE := Lib.hid he
    clear he
    go_wp2_with fail
    go_ret
    exact ⟨_, l', rfl, HO, HE.out, hb⟩
  · have HC := Lib.hid (rCloneAll_any _ l hl hx w hp)
    have ht : l.take 120 = l := List.take_of_length_le (by omega)
    rw [ht]
    clear hr hp hx ht
    go_enter Tryd.func21, Tryd.ntmps21
    go_wp2_with fail
    refine HC.out.mono ?_
    rintro e w1 ⟨v', l', rfl, HO, he, hb⟩
    have HE := Lib.hid he
    clear he
    go_wp2_with fail
    go_ret
    exact ⟨_, l', rfl, HO, HE.out, hb⟩

/-- A record of marks. -/
def markR (n : Int) : Rec := (⟨n, 0, 0, 0, 0, 0, 0, 0, 0, 0, ⟨#[]⟩, []⟩, .slice none 0 0)
def marks3 : List UInt8 := [211, 212, 213]
/-- The data of a record, three marks in the room behind it. -/
def Md (w : World) (B : Nat) (p : Rec) : Prop := ∃ A c, p.2 = .slice A p.1.da.length c ∧ Ob w B (.slice A (p.1.da.length + 3) c) (p.1.da ++ marks3)
theorem Md.bs {w : World} {B : Nat} {p : Rec} (h : Md w B p) : Bs w p.2 p.1.da := by
  obtain ⟨A, c, e, h⟩ := h
  rw [e]
  have := h.bs.take (m := p.1.da.length) (by simp)
  rwa [List.take_left] at this
theorem Md.below {w w' : World} {B : Nat} {p : Rec} (h : Md w B p) (hb : Below w.heap.size w w') : Md w' B p := by
  obtain ⟨A, c, e, h⟩ := h; exact ⟨A, c, e, h.below hb⟩
/-- As laidRecs lays them, while it does. -/
structure Lw (w : World) (B : Nat) (v : Value) (l : List Rec) : Prop where
  own : w.ownsRow B 62 12 v l.length (recCs l)
  da : ∀ p, p ∈ l → Md w B p
theorem Lw.nil (w : World) (B : Nat) : Lw w B (.slice none 0 0) [] := ⟨World.ownsRow_nil _ _ _ _, fun p hp => by simp at hp⟩
theorem Lw.below {w w' : World} {B : Nat} {v : Value} {l : List Rec} (h : Lw w B v l) (hb : Below w.heap.size w w') : Lw w' B v l := ⟨own_below h.own hb, fun p hp => (h.da p hp).below hb⟩
theorem Lw.slice {w : World} {B : Nat} {v : Value} {l : List Rec} (h : Lw w B v l) : ∃ A c, v = .slice A l.length c := by
  obtain ⟨A, c, e, _⟩ := Rd.of_own h.own; exact ⟨A, c, e⟩
theorem Md.row {w w' : World} {B B' n : Nat} {v : Value} {cs : List Value} {p : Rec} (h : Md w B p) (ho : w.ownsRow B' 62 12 v n cs) (hg : w.grownBy w' v.ownBlock) : Md w' B p := by
  obtain ⟨A, c, e, h⟩ := h
  exact ⟨A, c, e, own_kp h (Kp.of_grown hg) (fun k hk e => own_type_ne h ho (by decide) k hk e.symm)⟩
theorem Lw.snoc {w w' : World} {B : Nat} {v v' : Value} {l : List Rec} {p : Rec} (h : Lw w B v l) (hg : w.grownBy w' v.ownBlock) (ho : w'.ownsRow B 62 12 v' (l.length + 1) (recCs l ++ recC p)) (hp : Md w B p) : Lw w' B v' (l ++ [p]) := by
  refine ⟨by rw [List.length_append, recCs_snoc]; exact ho, fun q hq => ?_⟩
  rcases List.mem_append.1 hq with hq | hq
  · exact (h.da q hq).row h.own hg
  · rw [List.mem_singleton] at hq; subst hq; exact hp.row h.own hg
/-- Records as laidRecs answers them: two marked ones in the room behind them. -/
structure Lr (w : World) (B : Nat) (v : Value) (l : List Rec) : Prop where
  own : ∃ A c, v = .slice A l.length c ∧ w.ownsRow B 62 12 (.slice A (l.length + 2) c) (l.length + 2) (recCs (l ++ [markR (-201), markR (-202)]))
  da : ∀ p, p ∈ l → Md w B p
theorem Lr.below {w w' : World} {B : Nat} {v : Value} {l : List Rec} (h : Lr w B v l) (hb : Below w.heap.size w w') : Lr w' B v l := by
  obtain ⟨A, c, e, ho⟩ := h.own
  exact ⟨⟨A, c, e, own_below ho hb⟩, fun p hp => (h.da p hp).below hb⟩
theorem Lr.rs {w : World} {B : Nat} {v : Value} {l : List Rec} (h : Lr w B v l) : Rs w v l := by
  obtain ⟨A, c, rfl, ho⟩ := h.own
  have hr : Rd w 12 (.slice A (l.length + 2) c) (l.length + 2) (recCs (l ++ [markR (-201), markR (-202)])) := Rd.of_own ho
  obtain ⟨A', c', e, _, hn, hc, hr⟩ := hr
  injection e with e1 e2 e3
  subst e1; subst e3
  refine ⟨⟨A, c, rfl, ?_, by omega, hc, fun j u hj => hr j u ?_⟩, fun p hp => (h.da p hp).bs⟩
  · have hall : ∀ r ∈ l.map recC, r.length = 12 := fun r hr => by obtain ⟨p, _, rfl⟩ := List.mem_map.1 hr; rfl
    have := flat_len hall; rw [List.length_map] at this; exact this
  · have : recCs (l ++ [markR (-201), markR (-202)]) = recCs l ++ recCs [markR (-201), markR (-202)] := by simp [recCs]
    rw [this, List.getElem?_append_left (List.getElem?_eq_some_iff.1 hj).1]; exact hj

theorem own_form {w : World} {B : Nat} {t : TypeId} {sz n : Nat} {v : Value} {cs : List Value} (h : w.ownsRow B t sz v n cs) (h0 : 0 < n) : ∃ g c, v = .slice (some ⟨g, 0, none⟩) n c ∧ n ≤ c := by
  rcases h.2 with ⟨_, h2⟩ | ⟨g, cap, cur, rfl, _, _, h1, _⟩
  · omega
  · exact ⟨g, cap, rfl, h1⟩
/-- A record out of a block whose cells are written out. -/
theorem ld_cs {ops : Array Oper} {rest : List Oper} {o : Oper} {a : Act} {W : World} {Q : Exit → Act → World → Prop} {x : Operand} {fr : Nat × Nat} (ho : o.op = .load 62 x) (hgd : o.guard = none) (b : Nat)
    (hx : a.eval x = .pointer (some ⟨b, 0, none⟩)) (cs : Array Value) (hs : cs.size = 12) (hg : W.heap[b]? = some (.cells cs 62 fr))
    (h : wpList Tryd.prog ops Q rest (a.put o.dst (.agg cs)) W) : wpList Tryd.prog ops Q (o :: rest) a W :=
  wpList_load_row hgd 62 x ho b hx 62 _ _ _ hg Tryd.underlying62 rfl (by rw [hs]; kernel_rfl) h
theorem ld_lit {ops : Array Oper} {rest : List Oper} {o : Oper} {a : Act} {W : World} {Q : Exit → Act → World → Prop} {x : Operand} (ho : o.op = .load 62 x) (hgd : o.guard = none) (b i : Nat)
    (hx : a.eval x = .pointer (some ⟨b, i, none⟩)) (cs : List Value) (hs : cs.length = 12) (hg : W.rangeAt b i cs)
    (h : wpList Tryd.prog ops Q rest (a.put o.dst (.agg cs.toArray)) W) : wpList Tryd.prog ops Q (o :: rest) a W :=
  wpList_load_mid hgd 62 x ho b i hx cs _ hg Tryd.underlying62 rfl (by rw [hs]; kernel_rfl) h

/-- A record's data is turned to a copy with marks behind it. -/
theorem laid_turn {wr w3 : World} {r : Rc} {Ad : Option Addr} {cd g c2 B : Nat} (hb : Below (wr.heap.size + 1) (wr.alloc (.cells #[.int .i64 r.v, .int .i64 r.kd, .int .i64 r.sg, .int .i64 r.st, .int .i64 r.tr, .int .i64 r.tm, .int .i64 r.la, .int .i64 r.co, .int .i64 r.cn, .int .i64 r.pv, .string r.nm, .slice Ad r.da.length cd] 62)) w3) (hB : B ≤ wr.heap.size)
    (HO : Ob w3 (wr.heap.size + 1) (.slice (some ⟨g, 0, none⟩) (r.da.length + 3) c2) (r.da ++ marks3)) :
    w3.cell? ⟨wr.heap.size, 11, none⟩ = some (.slice Ad r.da.length cd) ∧ w3.frozen? ⟨wr.heap.size, 11, none⟩ = false ∧
    ∃ w4, w3.setCell ⟨wr.heap.size, 11, none⟩ (.slice (some ⟨g, 0, none⟩) r.da.length c2) = w4 ∧ w4.heap[wr.heap.size]? = some (.cells #[.int .i64 r.v, .int .i64 r.kd, .int .i64 r.sg, .int .i64 r.st, .int .i64 r.tr, .int .i64 r.tm, .int .i64 r.la, .int .i64 r.co, .int .i64 r.cn, .int .i64 r.pv, .string r.nm, .slice (some ⟨g, 0, none⟩) r.da.length c2] 62 (0, 0)) ∧ Below wr.heap.size wr w4 ∧ wr.heap.size + 1 ≤ w4.heap.size ∧ Md w4 B (r, .slice (some ⟨g, 0, none⟩) r.da.length c2) := by
  have s3 := hb.size
  rw [World.size_alloc] at s3
  have k0 : w3.heap[wr.heap.size]? = some (.cells #[.int .i64 r.v, .int .i64 r.kd, .int .i64 r.sg, .int .i64 r.st, .int .i64 r.tr, .int .i64 r.tm, .int .i64 r.la, .int .i64 r.co, .int .i64 r.cn, .int .i64 r.pv, .string r.nm, .slice Ad r.da.length cd] 62 (0, 0)) := (hb.block _ (Nat.lt_succ_self _)).trans (heap_alloc_new wr _)
  refine ⟨by rw [cell_of_row w3 _ 11 _ _ _ k0]; rfl, by simp [World.frozen?, k0], _, rfl, ?_, ?_, ?_, ?_⟩
  · rw [setCell_eq_setRow w3 wr.heap.size 11 _ _ _ _ k0, setRow_heap _ _ _ _ _ _ k0]; rfl
  · exact (((Below.refl wr.heap.size wr).alloc (Nat.le_refl _) _).trans (hb.mono (by omega))).setCell (Nat.le_refl _) _
  · simp [World.setCell]; omega
  · exact ⟨_, _, rfl, own_mono (own_kp HO (Kp.set _ _) (fun k hk e => by have := (HO.lt k hk).1; simp at e; omega)) (by omega)⟩

set_option maxRecDepth 100000 in
set_option maxHeartbeats 4000000 in
theorem laidRecs_any (v : Value) (l : List Rec) (hl : l.length ≤ 1048576) (hx : ∀ p, p ∈ l → p.1.da.length ≤ 1099511627776) (w : World) (hp : Rs w v l) :
    Calls Tryd.prog 23 #[v] w fun e w' => ∃ v' l', e = .returned v' ∧ Lr w' w.heap.size v' l' ∧ l'.map Prod.fst = l.map Prod.fst ∧ Below w.heap.size w w' := by
  obtain ⟨A, c, rfl, hn, hc, hr⟩ := hp.form
  have HR := Lib.hid hr
  have HP := Lib.hid hp
  have HX := Lib.hid hx
  clear hr hp hc hx
  go_enter Tryd.func23, Tryd.ntmps23
  go_wp2_with fail
  go_loopw [3, 4] (fun m i wr => ∃ (k : Nat) (lk : List Rec), k ≤ l.length ∧ i = .int .i64 (k : Int) ∧ lk.map Prod.fst = (l.take k).map Prod.fst ∧ Lw wr w.heap.size m lk ∧ Below w.heap.size w wr) (fun _ i _ => l.length - (intOf i).toNat)
  case atStart => exact ⟨0, [], Nat.zero_le _, rfl, rfl, Lw.nil _ _, Below.refl _ _⟩
  case round =>
    obtain ⟨k, lk, hk, rfl, he, HO, HB⟩ := hrel
    have HE := Lib.hid he
    have hlk : lk.length = k := by have := congrArg List.length he; simpa [Nat.min_eq_left hk] using this
    clear he
    have sB := HB.size
    obtain ⟨Am, cm, e⟩ := HO.slice
    rw [hlk] at e
    subst e
    by_cases hlt : k < l.length
    · obtain ⟨b, o, rfl, hcell⟩ := HR.out k hlt
      have hcw := rangeAt_below hcell HB
      have HDA := (HP.out.da _ (List.getElem_mem hlt)).below HB
      have HXA := HX.out _ (List.getElem_mem hlt)
      have HQ := Lib.hid (show (l.take (k + 1)).map Prod.fst = (l.take k).map Prod.fst ++ [(l[k]'hlt).1] by rw [List.take_succ_eq_append_getElem hlt, List.map_append]; rfl)
      generalize l[k]'hlt = p at hcw HDA HXA HQ
      obtain ⟨r, dv⟩ := p
      replace HDA : Bs wr dv r.da := HDA
      replace HXA : r.da.length ≤ 1099511627776 := HXA
      obtain ⟨Ad, cd, rfl, _⟩ := HDA.form
      clear hcell
      have hlt2 : (k : Int) < (l.length : Int) := by omega
      have HC := Lib.hid hcw
      clear hcw
      have HA1 := Lib.hid (show Below wr.heap.size wr (wr.alloc (.cells #[.int .i64 r.v, .int .i64 r.kd, .int .i64 r.sg, .int .i64 r.st, .int .i64 r.tr, .int .i64 r.tm, .int .i64 r.la, .int .i64 r.co, .int .i64 r.cn, .int .i64 r.pv, .string r.nm, .slice Ad r.da.length cd] 62)) from (Below.refl _ wr).alloc (Nat.le_refl _) _)
      have HN1 := Lib.hid (heap_alloc_new wr (.cells #[.int .i64 r.v, .int .i64 r.kd, .int .i64 r.sg, .int .i64 r.st, .int .i64 r.tr, .int .i64 r.tm, .int .i64 r.la, .int .i64 r.co, .int .i64 r.cn, .int .i64 r.pv, .string r.nm, .slice Ad r.da.length cd] 62))
      have HD1 := HDA.below HA1.out
      go_wp2_with (first
        | (refine ld_lit (by exact rfl) (by exact rfl) b (o + k * 12) (by exact rfl) #[.int .i64 r.v, .int .i64 r.kd, .int .i64 r.sg, .int .i64 r.st, .int .i64 r.tr, .int .i64 r.tm, .int .i64 r.la, .int .i64 r.co, .int .i64 r.cn, .int .i64 r.pv, .string r.nm, .slice Ad r.da.length cd].toList (by exact rfl) (by exact HC.out) ?_)
        | (at_builtin; refine appB (wr.heap.size + 1) rfl (.tmp 17) _ rfl _ [] _ r.da rfl rfl (Ob.nil _ _) HD1 (by simp; omega) (Below.refl _ _) (by simp) ?_; intro v2 w2 HO2 hb2 _ _; rw [List.nil_append] at HO2; have s2 := hb2.size)
        | (at_builtin; refine appB (wr.heap.size + 1) rfl (.tmp 21) _ rfl _ r.da _ marks3 rfl rfl (HO2.below ((Below.refl _ _).alloc (Nat.le_refl _) _)) (Bs.litn _ _ marks3 3 _ (by rfl) (by rfl) (by omega) (by simp)) (by simp [marks3]; omega) (hb2.alloc (by simp at s2; omega) _) (by simp at s2 ⊢; omega) ?_; intro v3 w3 HO3 hb3 _ _; have s3 := hb3.size; obtain ⟨g, c2, rfl, hg1, hg2, hcap⟩ := HO3.form (by simp [marks3]); simp only [List.length_append, marks3, List.length_cons, List.length_nil, Nat.reduceAdd] at hcap; have q0 := rangeAt_below (rangeAt_below HC.out HA1.out) (hb3.mono (by simp)); have q1 : w3.cell? ⟨b, o + k * 12 + 11, none⟩ = some (.slice Ad r.da.length cd) := q0 11 _ rfl; rw [List.length_append] at HO3; obtain ⟨k1, k2, W4, hW4, k4, hb4, s4, HM4⟩ := laid_turn (B := w.heap.size) hb3 sB HO3; have HW4 := Lib.hid hW4; have H4 := Lib.hid k4; clear hW4 k4; have HRL := Lib.hid (Rd.lits W4 62 #[.int .i64 r.v, .int .i64 r.kd, .int .i64 r.sg, .int .i64 r.st, .int .i64 r.tr, .int .i64 r.tm, .int .i64 r.la, .int .i64 r.co, .int .i64 r.cn, .int .i64 r.pv, .string r.nm, .slice (some ⟨g, 0, none⟩) r.da.length c2] 12 1 rfl (by omega) W4.heap.size rfl))
        | (rw [HW4.out]; refine ld_cs (by exact rfl) (by exact rfl) wr.heap.size (by exact rfl) #[.int .i64 r.v, .int .i64 r.kd, .int .i64 r.sg, .int .i64 r.st, .int .i64 r.tr, .int .i64 r.tm, .int .i64 r.la, .int .i64 r.co, .int .i64 r.cn, .int .i64 r.pv, .string r.nm, .slice (some ⟨g, 0, none⟩) r.da.length c2] rfl (by exact H4.out) ?_)
        | (at_builtin; have HOW := (HO.below hb4).below ((Below.refl _ W4).alloc (Nat.le_refl _) (.cells #[.int .i64 r.v, .int .i64 r.kd, .int .i64 r.sg, .int .i64 r.st, .int .i64 r.tr, .int .i64 r.tm, .int .i64 r.la, .int .i64 r.co, .int .i64 r.cn, .int .i64 r.pv, .string r.nm, .slice (some ⟨g, 0, none⟩) r.da.length c2] 62)); have HOw := HOW.own; rw [hlk] at HOw; refine wpList_app w.heap.size rfl (.tmp 33) (.tmp 35) 49 62 _ 12 120 rfl Tryd.underlying49 info_rec rfl (by decide) _ k (recCs lk) _ 1 (recC (r, .slice (some ⟨g, 0, none⟩) r.da.length c2)) rfl rfl HOw HRL.out (recC_one _ _ _ _) (by unfold maxLen; omega) (by omega) (by rw [World.size_alloc]; omega) ?_; intro v5 w5 g1 g2 g3 _ _; have HF := HOW.snoc (p := (r, .slice (some ⟨g, 0, none⟩) r.da.length c2)) g2 (by rw [hlk]; exact g1) (HM4.below ((Below.refl _ W4).alloc (Nat.le_refl _) _)); have hB5 : Below w.heap.size w w5 := ((HB.trans (hb4.mono sB)).alloc (by omega) _).grown g2 (by rw [World.size_alloc]; omega) (fun k e => (HOw.lt k e).1); obtain ⟨A5, c5, e5, _⟩ := Rd.of_own g1; subst e5))
      go_roundw
      case rel => exact ⟨k + 1, _, by omega, by go_num, by rw [HQ.out, List.map_append, HE.out]; rfl, HF, hB5⟩
      case measure => simp [intOf]; omega
    · have he : k = l.length := by omega
      have HM2 := Lib.hid (Rd.lits wr 62 #[.int .i64 (-201), .int .i64 0, .int .i64 0, .int .i64 0, .int .i64 0, .int .i64 0, .int .i64 0, .int .i64 0, .int .i64 0, .int .i64 0, .string ⟨#[]⟩, .slice none 0 0, .int .i64 (-202), .int .i64 0, .int .i64 0, .int .i64 0, .int .i64 0, .int .i64 0, .int .i64 0, .int .i64 0, .int .i64 0, .int .i64 0, .string ⟨#[]⟩, .slice none 0 0] 12 2 rfl (by omega) wr.heap.size rfl)
      go_wp2_with (at_builtin; have HOW := HO.below ((Below.refl _ wr).alloc (Nat.le_refl _) (.cells #[.int .i64 (-201), .int .i64 0, .int .i64 0, .int .i64 0, .int .i64 0, .int .i64 0, .int .i64 0, .int .i64 0, .int .i64 0, .int .i64 0, .string ⟨#[]⟩, .slice none 0 0, .int .i64 (-202), .int .i64 0, .int .i64 0, .int .i64 0, .int .i64 0, .int .i64 0, .int .i64 0, .int .i64 0, .int .i64 0, .int .i64 0, .string ⟨#[]⟩, .slice none 0 0] 62)); have HOw := HOW.own; rw [hlk] at HOw; refine wpList_app w.heap.size rfl (.tmp 37) (.tmp 40) 49 62 _ 12 120 rfl Tryd.underlying49 info_rec rfl (by decide) _ k (recCs lk) _ 2 (recC (markR (-201)) ++ recC (markR (-202))) rfl rfl HOw HM2.out (fun u hu => (List.mem_append.1 hu).elim (recC_one _ _ _ _ u) (recC_one _ _ _ _ u)) (by unfold maxLen; omega) (by omega) (by rw [World.size_alloc]; omega) ?_; intro v5 w5 g1 g2 g3 _ _; have hB5 : Below w.heap.size w w5 := (HB.alloc (by omega) _).grown g2 (by rw [World.size_alloc]; omega) (fun k e => (HOw.lt k e).1); have HDA := Lib.hid (fun p hp => (HOW.da p hp).row HOW.own g2); obtain ⟨g, c5, rfl, h25⟩ := own_form g1 (by omega))
      go_ret
      rw [he] at g1

      refine ⟨_, rfl, lk, ⟨⟨_, c5, by rw [hlk, he]; rfl, ?_⟩, HDA.out⟩, by rw [HE.out, he, List.take_length], hB5⟩
      have e1 : recCs (lk ++ [markR (-201), markR (-202)]) = recCs lk ++ (recC (markR (-201)) ++ recC (markR (-202))) := by simp [recCs]
      rw [e1, hlk, he]; exact g1
end Go.Proofs.YtfmlkagcmkbebaaDoor

/- annalsref3.Alike, Same, SameAll of what is alike. -/
namespace Go.Proofs.YtfmlkagcmkbebaaDoor
open Go.RowKit

set_option maxRecDepth 100000 in
set_option maxHeartbeats 400000 in
theorem rAlike_eq (u v : Value) (xs : List UInt8) (w : World) (hu : Bs w u xs) (hv : Bs w v xs) : Calls Tryd.prog 91 #[u, v] w (Quiet w (.bool true)) := by
  obtain ⟨A, c, rfl, hn, hc, hr⟩ := hu.form
  obtain ⟨A2, c2, rfl, hn2, hc2, hr2⟩ := hv.form
  have hm : xs.length ≤ 9223372036854775807 := by unfold maxLen at hc; omega
  have HR := Lib.hid hr
  have HR2 := Lib.hid hr2
  clear hr hr2 hu hv hc hc2
  have t1 : ((xs.length : Int) != (xs.length : Int)) = false := by simp
  go_enter Tryd.func91, Tryd.ntmps91
  go_wp2
  go_loopw [5] (fun i wr => ∃ k m : Nat, k ≤ xs.length ∧ i = .int .i64 k ∧ wr = w.drewN m) (fun i _ => xs.length - (intOf i).toNat)
  case atStart => exact ⟨0, 0, Nat.zero_le _, rfl, rfl⟩
  case round =>
    obtain ⟨k, m, hk, rfl, rfl⟩ := hrel
    by_cases hlt : k < xs.length
    · obtain ⟨b, o, rfl, hcell⟩ := HR.out k hlt
      obtain ⟨b2, o2, rfl, hcell2⟩ := HR2.out k hlt
      unfold byt at hcell hcell2
      generalize hz : xs[k] = z at hcell hcell2
      clear hz
      go_wp2
      go_quiet (fail)
      go_wp2
      go_roundw
      case rel => exact ⟨k + 1, _, by omega, by go_num, rfl⟩
      case measure => simp [intOf]; omega
    · have he : k = xs.length := by omega
      go_wp2
      go_ret
      exact ⟨rfl, _, rfl⟩

set_option maxRecDepth 100000 in
set_option maxHeartbeats 2000000 in
theorem rSame_eq (r : Rc) (dv dv2 : Value) (w : World) (h1 : Bs w dv r.da) (h2 : Bs w dv2 r.da) : Calls Tryd.prog 62 #[r.val dv, r.val dv2] w fun e w' => e = .returned (.bool true) ∧ Below w.heap.size w w' := by
  obtain ⟨A, c, rfl, _⟩ := h1.form
  obtain ⟨A2, c2, rfl, _⟩ := h2.form
  have HP1 := Lib.hid h1
  have HP2 := Lib.hid h2
  clear h1 h2
  rw [val_eq, val_eq]
  go_enter Tryd.func62, Tryd.ntmps62
  go_wp2_with fail
  obtain ⟨W2, hW2⟩ : ∃ W2, (w.alloc (.cells #[.int .i64 r.v, .int .i64 r.kd, .int .i64 r.sg, .int .i64 r.st, .int .i64 r.tr, .int .i64 r.tm, .int .i64 r.la, .int .i64 r.co, .int .i64 r.cn, .int .i64 r.pv, .string r.nm, .slice A r.da.length c] 62)).alloc (.cells #[.int .i64 r.v, .int .i64 r.kd, .int .i64 r.sg, .int .i64 r.st, .int .i64 r.tr, .int .i64 r.tm, .int .i64 r.la, .int .i64 r.co, .int .i64 r.cn, .int .i64 r.pv, .string r.nm, .slice A2 r.da.length c2] 62) = W2 := ⟨_, rfl⟩
  have hB2 : Below w.heap.size w W2 := by rw [← hW2]; exact ((Below.refl _ w).alloc (Nat.le_refl _) _).alloc (by simp) _
  have hz : W2.heap.size = w.heap.size + 2 := by rw [← hW2]; simp
  have hb0 : W2.heap[w.heap.size]? = some (.cells #[.int .i64 r.v, .int .i64 r.kd, .int .i64 r.sg, .int .i64 r.st, .int .i64 r.tr, .int .i64 r.tm, .int .i64 r.la, .int .i64 r.co, .int .i64 r.cn, .int .i64 r.pv, .string r.nm, .slice A r.da.length c] 62 (0, 0)) := by
    rw [← hW2]; exact (Below.heap_alloc _ _ _ (by simp)).trans (heap_alloc_new w _)
  have hb1 : W2.heap[w.heap.size + 1]? = some (.cells #[.int .i64 r.v, .int .i64 r.kd, .int .i64 r.sg, .int .i64 r.st, .int .i64 r.tr, .int .i64 r.tm, .int .i64 r.la, .int .i64 r.co, .int .i64 r.cn, .int .i64 r.pv, .string r.nm, .slice A2 r.da.length c2] 62 (0, 0)) := by
    rw [← hW2]; have := heap_alloc_new (w.alloc (.cells #[.int .i64 r.v, .int .i64 r.kd, .int .i64 r.sg, .int .i64 r.st, .int .i64 r.tr, .int .i64 r.tm, .int .i64 r.la, .int .i64 r.co, .int .i64 r.cn, .int .i64 r.pv, .string r.nm, .slice A r.da.length c] 62)) (.cells #[.int .i64 r.v, .int .i64 r.kd, .int .i64 r.sg, .int .i64 r.st, .int .i64 r.tr, .int .i64 r.tm, .int .i64 r.la, .int .i64 r.co, .int .i64 r.cn, .int .i64 r.pv, .string r.nm, .slice A2 r.da.length c2] 62); simpa using this
  have HC0 := Lib.hid hb0
  have HC1 := Lib.hid hb1
  rw [hW2]
  clear hW2 hb0 hb1
  go_loopw [5] (fun i wr => ∃ t : Nat, 1 ≤ t ∧ t ≤ 10 ∧ i = .int .i64 (t : Int) ∧ Below W2.heap.size W2 wr) (fun i _ => 11 - (intOf i).toNat)
  case atStart => exact ⟨1, by omega, by omega, rfl, Below.refl _ _⟩
  case round =>
    obtain ⟨t, ht1, ht10, rfl, hb⟩ := hrel
    have sr := hb.size
    have k0 := (hb.block w.heap.size (by omega)).trans HC0.out
    have k1 := (hb.block (w.heap.size + 1) (by omega)).trans HC1.out
    by_cases ht : t ≤ 9
    · have H0 := Lib.hid k0
      have H1 := Lib.hid k1
      clear k0 k1
      have hti : (t : Int) ≤ 9 := by omega
      go_wp2_with (refine ld_cs (by exact rfl) (by exact rfl) w.heap.size (by exact rfl) #[.int .i64 r.v, .int .i64 r.kd, .int .i64 r.sg, .int .i64 r.st, .int .i64 r.tr, .int .i64 r.tm, .int .i64 r.la, .int .i64 r.co, .int .i64 r.cn, .int .i64 r.pv, .string r.nm, .slice A r.da.length c] rfl (by exact H0.out) ?_)
      refine (rnumber_any r (.slice A r.da.length c) t ht1 ht wr).mono ?_
      rintro e w3 ⟨rfl, hb3⟩
      have s3 := hb3.size
      have G1 := Lib.hid ((hb3.block (w.heap.size + 1) (by omega)).trans H1.out)
      go_wp2_with (refine ld_cs (by exact rfl) (by exact rfl) (w.heap.size + 1) (by exact rfl) #[.int .i64 r.v, .int .i64 r.kd, .int .i64 r.sg, .int .i64 r.st, .int .i64 r.tr, .int .i64 r.tm, .int .i64 r.la, .int .i64 r.co, .int .i64 r.cn, .int .i64 r.pv, .string r.nm, .slice A2 r.da.length c2] rfl (by exact G1.out) ?_)
      refine (rnumber_any r (.slice A2 r.da.length c2) t ht1 ht w3).mono ?_
      rintro e w4 ⟨rfl, hb4⟩
      go_wp2_with fail
      go_roundw
      case rel => exact ⟨t + 1, by omega, by omega, by go_num, (hb.trans (hb3.mono sr)).trans (hb4.mono (by omega))⟩
      case measure => simp [intOf]; omega
    · have he : t = 10 := by omega
      subst he
      have q : ∀ j, wr.cell? ⟨w.heap.size, j, none⟩ = #[.int .i64 r.v, .int .i64 r.kd, .int .i64 r.sg, .int .i64 r.st, .int .i64 r.tr, .int .i64 r.tm, .int .i64 r.la, .int .i64 r.co, .int .i64 r.cn, .int .i64 r.pv, .string r.nm, .slice A r.da.length c][j]? := fun j => cell_of_row wr _ j _ _ _ k0
      have q' : ∀ j, wr.cell? ⟨w.heap.size + 1, j, none⟩ = #[.int .i64 r.v, .int .i64 r.kd, .int .i64 r.sg, .int .i64 r.st, .int .i64 r.tr, .int .i64 r.tm, .int .i64 r.la, .int .i64 r.co, .int .i64 r.cn, .int .i64 r.pv, .string r.nm, .slice A2 r.da.length c2][j]? := fun j => cell_of_row wr _ j _ _ _ k1
      have a0 := q 0
      have a10 := q 10
      have a11 := q 11
      have b0 := q' 0
      have b10 := q' 10
      have b11 := q' 11
      simp only [List.getElem?_toArray, List.getElem?_cons_zero, List.getElem?_cons_succ] at a0 a10 a11 b0 b10 b11
      have HAL := Lib.hid (rAlike_eq (.slice A r.da.length c) (.slice A2 r.da.length c2) r.da wr ((HP1.out.below hB2).below hb) ((HP2.out.below hB2).below hb))
      clear q q' k0 k1
      go_wp2_with fail
      refine HAL.out.mono ?_
      rintro e w5 ⟨rfl, m, rfl⟩
      go_wp2_with fail
      go_ret
      exact ⟨rfl, (hB2.trans (hb.mono (by omega))).trans (below_drewN _ _)⟩

/-- An operation of a drawn region taken first, its slot written out. -/
theorem takeO {P : Program} {ops : Array Oper} {Q : Exit → Act → World → Prop} {md : Region.Mode} {S : World → Prop} {i : Nat} {oi : Oper} {d : Option Tmp} {v : Value} {fuel : Nat} {listed : Array Bool} {a : Act} {w : World} (hi : ops[i]? = some oi) (hd : oi.dst = d)
    (hs : Region.noSelect ops = true) (hf : Region.free md ops listed i = true) (hr : (Region.ready md ops listed).contains i = true)
    (hQ : ∀ c a w, Q (.panic c) (a.put d v) w → Q (.panic c) a w) (hy : YieldsIf P ops S oi v a) (hS : S w)
    (h : wpAnyH P md ops Q S fuel (listed.setIfInBounds i true) (a.put d v) w) : wpAnyH P md ops Q S (fuel + 1) listed a w := by
  subst hd; exact wpAnyH_take hi hs hf hr hQ hy hS h

set_option maxRecDepth 100000 in
set_option maxHeartbeats 4000000 in
theorem rSameAll_eq (v1 v2 : Value) (l1 l2 : List Rec) (hl : l1.length ≤ 1048576) (he : l1.map Prod.fst = l2.map Prod.fst) (w : World) (h1 : Rs w v1 l1) (h2 : Rs w v2 l2) :
    Calls Tryd.prog 29 #[v1, v2] w fun e w' => e = .returned (.bool true) ∧ Below w.heap.size w w' := by
  obtain ⟨A1, c1, rfl, hn1, hc1, hr1⟩ := h1.form
  obtain ⟨A2, c2, rfl, hn2, hc2, hr2⟩ := h2.form
  have hll : l1.length = l2.length := by have := congrArg List.length he; simpa using this
  have HR1 := Lib.hid hr1
  have HR2 := Lib.hid hr2
  have HP1 := Lib.hid h1
  have HP2 := Lib.hid h2
  have HE := Lib.hid he
  have t1 : ((l1.length : Int) != (l2.length : Int)) = false := by rw [bne_eq_false_iff_eq]; omega
  have HLL := Lib.hid hll
  clear hr1 hr2 h1 h2 he hc1 hc2 hll
  go_enter Tryd.func29, Tryd.ntmps29
  go_wp2_with fail
  go_loopw [5, 6] (fun i _ wr => ∃ k : Nat, k ≤ l1.length ∧ i = .int .i64 (k : Int) ∧ Below w.heap.size w wr) (fun i _ _ => l1.length - (intOf i).toNat)
  case atStart => exact ⟨0, Nat.zero_le _, rfl, Below.refl _ _⟩
  case round =>
    obtain ⟨k, hk, rfl, hb⟩ := hrel
    have sr := hb.size
    by_cases hlt : k < l1.length
    · obtain ⟨b1, o1, rfl, hcell1⟩ := HR1.out k hlt
      obtain ⟨b2, o2, rfl, hcell2⟩ := HR2.out k (by have := HLL.out; omega)
      have g1 := rangeAt_below hcell1 hb
      have g2 := rangeAt_below hcell2 hb
      have d1 := (HP1.out.da _ (List.getElem_mem hlt)).below hb
      have d2 := (HP2.out.da _ (List.getElem_mem (show k < l2.length by have := HLL.out; omega))).below hb
      have hrr : (l1[k]'hlt).1 = (l2[k]'(by have := HLL.out; omega)).1 := by
        have e1 : (l1.map Prod.fst)[k]? = (l2.map Prod.fst)[k]? := by rw [HE.out]
        rw [List.getElem?_map, List.getElem?_map, List.getElem?_eq_getElem hlt, List.getElem?_eq_getElem (show k < l2.length by have := HLL.out; omega)] at e1
        simpa using e1
      generalize l1[k]'hlt = p1 at g1 d1 hrr
      generalize l2[k]'(by have := HLL.out; omega) = p2 at g2 d2 hrr
      obtain ⟨r, dv1⟩ := p1
      obtain ⟨r2, dv2⟩ := p2
      replace hrr : r = r2 := hrr
      subst hrr
      replace d1 : Bs wr dv1 r.da := d1
      replace d2 : Bs wr dv2 r.da := d2
      clear hcell1 hcell2
      have hi1 : (k : Int) < (l1.length : Int) := by omega
      have hi2 : (k : Int) < (l2.length : Int) := by have := HLL.out; omega
      go_upto_region 6 with fail
      refine wp_region_noPanic ?_
      refine wp_region_held_drew (S := fun w' => Below wr.heap.size wr w' ∧ w'.rangeAt b1 (o1 + k * 12) (recC (r, dv1)) ∧ w'.rangeAt b2 (o2 + k * 12) (recC (r, dv2))) (by kernel_rfl) ⟨(Below.refl _ _).drew, by simpa using g1, by simpa using g2⟩ (fun hHeld => ?_)
      refine takeO (i := 0) (d := some 18) (v := (.slice (some ⟨b1, o1, none⟩) l1.length c1)) (by simp only [List.getElem?_toArray, List.getElem?_cons_zero]; rfl) (by rfl) (by kernel_rfl) (by kernel_rfl) (by kernel_rfl) (fun _ _ _ h => h) (Or.inl ⟨by rfl, ?_⟩) hHeld ?_
      · intro wS hSw; obtain ⟨hS0, hS1, hS2⟩ := hSw; go_simp
      simp only [Act.put, List.setIfInBounds_toArray, List.set_cons_zero, List.set_cons_succ]
      refine takeO (i := 1) (d := some 19) (v := (.int .i64 (k : Int))) (by simp only [List.getElem?_toArray, List.getElem?_cons_succ, List.getElem?_cons_zero]; rfl) (by rfl) (by kernel_rfl) (by kernel_rfl) (by kernel_rfl) (fun _ _ _ h => h) (Or.inl ⟨by rfl, ?_⟩) hHeld ?_
      · intro wS hSw; obtain ⟨hS0, hS1, hS2⟩ := hSw; go_simp
      simp only [Act.put, List.setIfInBounds_toArray, List.set_cons_zero, List.set_cons_succ]
      refine takeO (i := 2) (d := some 20) (v := (.pointer (some ⟨b1, o1 + k * 12, none⟩))) (by simp only [List.getElem?_toArray, List.getElem?_cons_succ, List.getElem?_cons_zero]; rfl) (by rfl) (by kernel_rfl) (by kernel_rfl) (by kernel_rfl) (fun _ _ _ h => h) (Or.inl ⟨by rfl, ?_⟩) hHeld ?_
      · intro wS hSw; obtain ⟨hS0, hS1, hS2⟩ := hSw; go_simp
      simp only [Act.put, List.setIfInBounds_toArray, List.set_cons_zero, List.set_cons_succ]
      refine takeO (i := 3) (d := some 21) (v := (.agg (recC (r, dv1)).toArray)) (by simp only [List.getElem?_toArray, List.getElem?_cons_succ, List.getElem?_cons_zero]; rfl) (by rfl) (by kernel_rfl) (by kernel_rfl) (by kernel_rfl) (fun _ _ _ h => h) (yieldsIf_load_mid (by rfl) 62 _ (by rfl) b1 (o1 + k * 12) (by rfl) (recC (r, dv1)) _ (fun w hw => hw.2.1) Tryd.underlying62 rfl (by kernel_rfl)) hHeld ?_
      simp only [Act.put, List.setIfInBounds_toArray, List.set_cons_zero, List.set_cons_succ]
      refine takeO (i := 4) (d := some 22) (v := (.slice (some ⟨b2, o2, none⟩) l2.length c2)) (by simp only [List.getElem?_toArray, List.getElem?_cons_succ, List.getElem?_cons_zero]; rfl) (by rfl) (by kernel_rfl) (by kernel_rfl) (by kernel_rfl) (fun _ _ _ h => h) (Or.inl ⟨by rfl, ?_⟩) hHeld ?_
      · intro wS hSw; obtain ⟨hS0, hS1, hS2⟩ := hSw; go_simp
      simp only [Act.put, List.setIfInBounds_toArray, List.set_cons_zero, List.set_cons_succ]
      refine takeO (i := 5) (d := some 23) (v := (.int .i64 (k : Int))) (by simp only [List.getElem?_toArray, List.getElem?_cons_succ, List.getElem?_cons_zero]; rfl) (by rfl) (by kernel_rfl) (by kernel_rfl) (by kernel_rfl) (fun _ _ _ h => h) (Or.inl ⟨by rfl, ?_⟩) hHeld ?_
      · intro wS hSw; obtain ⟨hS0, hS1, hS2⟩ := hSw; go_simp
      simp only [Act.put, List.setIfInBounds_toArray, List.set_cons_zero, List.set_cons_succ]
      refine takeO (i := 6) (d := some 24) (v := (.pointer (some ⟨b2, o2 + k * 12, none⟩))) (by simp only [List.getElem?_toArray, List.getElem?_cons_succ, List.getElem?_cons_zero]; rfl) (by rfl) (by kernel_rfl) (by kernel_rfl) (by kernel_rfl) (fun _ _ _ h => h) (Or.inl ⟨by rfl, ?_⟩) hHeld ?_
      · intro wS hSw; obtain ⟨hS0, hS1, hS2⟩ := hSw; go_simp
      simp only [Act.put, List.setIfInBounds_toArray, List.set_cons_zero, List.set_cons_succ]
      refine takeO (i := 7) (d := some 25) (v := (.agg (recC (r, dv2)).toArray)) (by simp only [List.getElem?_toArray, List.getElem?_cons_succ, List.getElem?_cons_zero]; rfl) (by rfl) (by kernel_rfl) (by kernel_rfl) (by kernel_rfl) (fun _ _ _ h => h) (yieldsIf_load_mid (by rfl) 62 _ (by rfl) b2 (o2 + k * 12) (by rfl) (recC (r, dv2)) _ (fun w hw => hw.2.2) Tryd.underlying62 rfl (by kernel_rfl)) hHeld ?_
      simp only [Act.put, List.setIfInBounds_toArray, List.set_cons_zero, List.set_cons_succ]
      refine wpAnyH_ready (rs := [8]) (by kernel_rfl) (by simp) (AllReadyH.cons rfl (fun K hK => ?_) AllReadyH.nil)
      have hH1 := Lib.hid hHeld
      go_simp
      refine (rSame_eq r dv1 dv2 _ (d1.below (hH1.out.1.mono (Nat.le_refl _))) (d2.below hH1.out.1)).mono ?_
      rintro e w3 ⟨rfl, hb3⟩
      have hb5 := hH1.out.1.trans (hb3.mono hH1.out.1.size)
      refine hK.out _ _ ⟨hb5, rangeAt_below g1 hb5, rangeAt_below g2 hb5⟩ (fun hHeld => ?_)
      clear hK K
      refine wpAnyH_ready (rs := [9]) (by kernel_rfl) (by simp) (AllReadyH.cons rfl (fun K hK => ?_) AllReadyH.nil)
      go_simp
      refine hK.out _ _ hHeld (fun hHeld => ?_)
      clear hK K
      refine wpAnyH_done (by kernel_rfl) ?_ _
      refine NoPanic.normal ?_
      go_wp2_with fail
      go_roundw
      case rel => exact ⟨k + 1, by omega, by go_num, hb.trans (hHeld.1.mono sr)⟩
      case measure => simp [intOf]; omega
    · have he : k = l1.length := by omega
      go_wp2_with fail
      go_ret
      exact ⟨rfl, hb⟩
end Go.Proofs.YtfmlkagcmkbebaaDoor

/- intactRecs of the law. -/
namespace Go.Proofs.YtfmlkagcmkbebaaDoor
open Go.RowKit

theorem Lr.ext {w : World} {B : Nat} {v : Value} {l : List Rec} (h : Lr w B v l) : ∃ A c, v = .slice A l.length c ∧ Rs w (.slice A (l.length + 2) c) (l ++ [markR (-201), markR (-202)]) := by
  obtain ⟨A, c, e, ho⟩ := h.own
  refine ⟨A, c, e, ⟨by simpa using Rd.of_own ho, fun p hp => ?_⟩⟩
  rcases List.mem_append.1 hp with hp | hp
  · exact (h.da p hp).bs
  · simp only [List.mem_cons, List.not_mem_nil, or_false] at hp
    rcases hp with rfl | rfl <;> exact Rd.nil _ _
/-- Three marks behind n bytes. -/
theorem Md.cells {w : World} {B : Nat} {p : Rec} (h : Md w B p) : ∃ g c, p.2 = .slice (some ⟨g, 0, none⟩) p.1.da.length c ∧ p.1.da.length + 3 ≤ c ∧ c ≤ maxLen ∧
    w.cell? ⟨g, p.1.da.length, none⟩ = some (.int .u8 211) ∧ w.cell? ⟨g, p.1.da.length + 1, none⟩ = some (.int .u8 212) ∧ w.cell? ⟨g, p.1.da.length + 2, none⟩ = some (.int .u8 213) := by
  obtain ⟨A, c, e, ho⟩ := h
  obtain ⟨g, c', e2, _, _, _⟩ := ho.form (by simp [marks3])
  injection e2 with e2 _ e3
  subst e2; subst e3
  obtain ⟨_, h1, h2⟩ := ho.bs.len
  obtain ⟨A', c'', e4, _, _, hr⟩ := ho.bs.form
  injection e4 with e5 _ e6
  have key : ∀ j (hj : j < 3), w.cell? ⟨g, p.1.da.length + j, none⟩ = some (byt (marks3[j]'hj)) := fun j hj => by
    obtain ⟨b, o, e7, hc⟩ := hr (p.1.da.length + j) (by simp [marks3]; omega)
    rw [← e5] at e7; injection e7 with e7; injection e7 with e8 e9 _
    subst e8; subst e9
    rw [Nat.zero_add] at hc
    rw [hc]; simp only [List.getElem_append_right (Nat.le_add_right _ _), Nat.add_sub_cancel_left] <;> rfl
  exact ⟨g, c, e, by simpa [marks3] using h1, h2, key 0 (by omega), key 1 (by omega), key 2 (by omega)⟩

set_option maxRecDepth 100000 in
set_option maxHeartbeats 4000000 in
theorem intactRecs_any (v1 v2 : Value) (B : Nat) (l1 l2 : List Rec) (hl : l1.length ≤ 1048576) (hx : ∀ p, p ∈ l1 → p.1.da.length ≤ 1099511627776) (he : l1.map Prod.fst = l2.map Prod.fst) (w : World) (h1 : Lr w B v1 l1) (h2 : Rs w v2 l2) :
    Calls Tryd.prog 26 #[v1, v2] w fun e w' => e = .returned (.bool true) ∧ Below w.heap.size w w' := by
  have HSA := Lib.hid (rSameAll_eq v1 v2 l1 l2 hl he w h1.rs h2)
  obtain ⟨A1, c1, rfl, hx1⟩ := h1.ext
  obtain ⟨A2, c2, rfl, hn2, hc2, hr2⟩ := h2.form
  obtain ⟨A1', c1', e, hn1, hc1, hr1⟩ := hx1.form
  injection e with e1 e2 e3
  clear e2
  subst e1; subst e3
  have hll : l2.length = l1.length := by have := congrArg List.length he; simpa using this.symm
  rw [hll] at HSA hn2
  rw [hll]
  have HLL := Lib.hid hll
  have HR1 := Lib.hid hr1
  have HR2 := Lib.hid hr2
  have HP1 := Lib.hid h1
  have HE := Lib.hid he
  have HX := Lib.hid hx
  have HP2 := Lib.hid h2
  have hcap : l1.length + 2 ≤ c1 := by simpa using hn1
  obtain ⟨b1, o1, rfl, hm1⟩ := hr1 l1.length (by simp)
  obtain ⟨b1', o1', e, hm2⟩ := hr1 (l1.length + 1) (by simp)
  injection e with e; injection e with e4 e5 _
  subst e4; subst e5
  have em1 : (l1 ++ [markR (-201), markR (-202)])[l1.length]'(by simp) = markR (-201) := by simp
  have em2 : (l1 ++ [markR (-201), markR (-202)])[l1.length + 1]'(by simp) = markR (-202) := by simp
  rw [em1] at hm1
  rw [em2] at hm2
  have HM1 := Lib.hid hm1
  have HM2 := Lib.hid hm2
  unfold maxLen at hc1
  clear hr1 hr2 h1 h2 he hll hx1 hn1 hm1 hm2 em1 em2 hx hc2
  go_enter Tryd.func26, Tryd.ntmps26
  go_wp2_with fail
  refine HSA.out.mono ?_
  rintro e w1 ⟨rfl, hb1⟩
  have s1 := hb1.size
  go_wp2_with fail
  go_loopw [5, 6, 7] (fun i _ _ wr => ∃ k : Nat, k ≤ l1.length ∧ i = .int .i64 (k : Int) ∧ Below w.heap.size w wr) (fun i _ _ _ => l1.length - (intOf i).toNat)
  case atStart => exact ⟨0, Nat.zero_le _, rfl, hb1⟩
  case round =>
    obtain ⟨k, hk, rfl, hb⟩ := hrel
    have sr := hb.size
    by_cases hlt : k < l1.length
    · obtain ⟨b2, o2, rfl, hcell2⟩ := HR2.out k (by have := HLL.out; omega)
      obtain ⟨b1', o1', e, hcell1⟩ := HR1.out k (by simp; omega)
      injection e with e; injection e with e4 e5 _
      subst e4; subst e5
      have ek : (l1 ++ [markR (-201), markR (-202)])[k]'(by simp; omega) = l1[k]'hlt := List.getElem_append_left hlt
      rw [ek] at hcell1
      have g1 := rangeAt_below hcell1 hb
      have g2 := rangeAt_below hcell2 hb
      have d1 := (HP1.out.da _ (List.getElem_mem hlt)).below hb
      have hx1 := HX.out _ (List.getElem_mem hlt)
      have hrr : (l1[k]'hlt).1 = (l2[k]'(by have := HLL.out; omega)).1 := by
        have e1 : (l1.map Prod.fst)[k]? = (l2.map Prod.fst)[k]? := by rw [HE.out]
        rw [List.getElem?_map, List.getElem?_map, List.getElem?_eq_getElem hlt, List.getElem?_eq_getElem (show k < l2.length by have := HLL.out; omega)] at e1
        simpa using e1
      have d2 := (HP2.out.da _ (List.getElem_mem (show k < l2.length by have := HLL.out; omega))).below hb
      clear hcell1 hcell2 ek
      generalize l1[k]'hlt = p1 at g1 d1 hrr hx1
      generalize l2[k]'(by have := HLL.out; omega) = p2 at g2 d2 hrr
      obtain ⟨r, dv1⟩ := p1
      obtain ⟨r2, dv2⟩ := p2
      replace hrr : r = r2 := hrr
      subst hrr
      obtain ⟨gd, cd, e7, h7, h8, c7, c8, c9⟩ := d1.cells
      replace e7 : dv1 = .slice (some ⟨gd, 0, none⟩) r.da.length cd := e7
      subst e7
      replace h7 : r.da.length + 3 ≤ cd := h7
      replace hx1 : r.da.length ≤ 1099511627776 := hx1
      replace d2 : Bs wr dv2 r.da := d2
      obtain ⟨Ad2, cd2, rfl, _⟩ := d2.form
      have f1 : wr.cell? ⟨b1, o1 + k * 12 + 11, none⟩ = some (.slice (some ⟨gd, 0, none⟩) r.da.length cd) := g1 11 _ rfl
      have f2 : wr.cell? ⟨b2, o2 + k * 12 + 11, none⟩ = some (.slice Ad2 r.da.length cd2) := g2 11 _ rfl
      unfold maxLen at h8
      have hi1 : (k : Int) < (l1.length : Int) := by omega
      clear g1 g2 d1 d2
      simp only at c7 c8 c9
      go_wp2_with fail
      go_roundw
      case rel => exact ⟨k + 1, by omega, by go_num, hb⟩
      case measure => simp [intOf]; omega
    · have he : k = l1.length := by omega
      have g1 := rangeAt_below HM1.out hb
      have g2 := rangeAt_below HM2.out hb
      have f1 : wr.cell? ⟨b1, o1 + l1.length * 12, none⟩ = some (.int .i64 (-201)) := g1 0 _ rfl
      have f2 : wr.cell? ⟨b1, o1 + (l1.length + 1) * 12, none⟩ = some (.int .i64 (-202)) := g2 0 _ rfl
      have f3 : wr.cell? ⟨b1, o1 + l1.length * 12 + 1, none⟩ = some (.int .i64 0) := g1 1 _ rfl
      have f4 : wr.cell? ⟨b1, o1 + (l1.length + 1) * 12 + 1, none⟩ = some (.int .i64 0) := g2 1 _ rfl
      clear g1 g2
      have q1 : (l1.length : Int) < (l1.length : Int) + 2 := by omega
      have q2 : (l1.length : Int) + 1 < (l1.length : Int) + 2 := by omega
      have q3 : ¬ (l1.length : Int) < 0 := by omega
      have q4 : ¬ (l1.length : Int) + 1 < 0 := by omega
      go_wp2_with fail
      go_ret
      exact ⟨rfl, hb⟩
end Go.Proofs.YtfmlkagcmkbebaaDoor
