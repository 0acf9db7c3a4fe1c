/- archive.Cut, and the iterator that it hands back. -/
import Derived.Test.YtfmlkagcmkbebaaDoorLi
import Derived.Test.YtfmlkagcmkbebaaDoorLj
namespace Go.Proofs.YtfmlkagcmkbebaaDoor
open Go.RowKit

/-- What the iterator's four boxes hold; all that it reads, but for the table, lies at B or beyond. -/
structure CutBoxes (w : World) (B pn pw pz ps : Nat) (b : List UInt8) (s : Nat) : Prop where
  n : w.cell? ⟨pn, 0, none⟩ = some (.int .i64 (cutN b.length s : Nat))
  whole : ∃ A c, w.cell? ⟨pw, 0, none⟩ = some (.slice A b.length c) ∧ Ob w B (.slice A b.length c) b
  size : w.cell? ⟨pz, 0, none⟩ = some (.int .i64 (s : Nat))
  sum : ∃ A c, w.cell? ⟨ps, 0, none⟩ = some (.slice A 4 c) ∧ Ob w B (.slice A 4 c) (le32 (crc b))
  pos : 0 < s ∧ s ≤ 65536 ∧ cutN b.length s ≤ 1024 ∧ b.length ≤ 262144
  tab : Tab w
  ge : B ≤ pn ∧ B ≤ pw ∧ B ≤ pz ∧ B ≤ ps

/-- What archive.Cut answers. -/
def ACut (w : World) (b : List UInt8) (size : Int) (e : Ending) (w' : World) : Prop :=
  Below w.heap.size w w' ∧ (cutBad b.length size → e = .returned (.tuple #[.func (.func 43) #[] #[], .int .i64 1])) ∧
    (¬ cutBad b.length size → ∃ pn pw pz ps, e = .returned (.tuple #[.func (.func 45) #[] #[.pointer (some ⟨pn, 0, none⟩), .pointer (some ⟨pw, 0, none⟩), .pointer (some ⟨pz, 0, none⟩), .pointer (some ⟨ps, 0, none⟩)], .int .i64 0]) ∧
      CutBoxes w' w.heap.size pn pw pz ps b size.toNat)

theorem ACut.bad {w w' : World} {b : List UInt8} {size : Int} (h : Below w.heap.size w w') (hb : cutBad b.length size) : ACut w b size (.returned (.tuple #[.func (.func 43) #[] #[], .int .i64 1])) w' := ⟨h, fun _ => rfl, fun x => absurd hb x⟩

theorem cellNew (W : World) (v : Value) (t : TypeId) (b : Nat) (hb : b = W.heap.size) : (W.alloc (.cells #[v] t)).cell? ⟨b, 0, none⟩ = some v := by
  subst hb; rw [cell_of_row _ _ 0 _ _ _ (heap_alloc_new W _)]; rfl
theorem Bss.lit1n (W : World) (v : Value) (xs : List UInt8) (b : Nat) (hb : b = W.heap.size) (h : Bs W v xs) : Bss (W.alloc (.cells #[v] 22)) (.slice (some ⟨b, 0, none⟩) 1 1) [xs] := by subst hb; exact Bss.lit1 W v xs h
theorem cellOld {W : World} {a : Addr} {v : Value} (o : Obj) (h : W.cell? a = some v) : (W.alloc o).cell? a = some v := (((Below.refl _ W).alloc (Nat.le_refl _) o).cell (World.block_lt_of_cell? W a h)).trans h
theorem cellBelow {W W' : World} {a : Addr} {v : Value} (hb : Below W.heap.size W W') (h : W.cell? a = some v) : W'.cell? a = some v := (hb.cell (World.block_lt_of_cell? W a h)).trans h

set_option maxRecDepth 100000 in
set_option maxHeartbeats 2000000 in
theorem aCut_any (v : Value) (b : List UInt8) (size : Int) (hx : b.length ≤ 262144) (w : World) (ht : Tab w) (hp : Bs w v b) : Calls Tryd.prog 20 #[v, .int .i64 size] w (ACut w b size) := by
  obtain ⟨A, c, rfl, hn, hc, hr⟩ := hp.form
  have HP := Lib.hid hp
  have HT := Lib.hid ht
  clear hp hr hc ht
  have hbx := (Below.refl w.heap.size w).alloc (Nat.le_refl _) (.cells #[.int .i64 size] 3)
  go_enter Tryd.func20, Tryd.ntmps20
  by_cases hs1 : size < 1
  · go_wp2
    go_ret2
    exact ACut.bad hbx (.inl hs1)
  by_cases hs2 : 65536 < size
  · go_wp2
    go_ret2
    exact ACut.bad hbx (.inr (.inl hs2))
  obtain ⟨s, rfl⟩ : ∃ s : Nat, size = (s : Int) := ⟨size.toNat, by omega⟩
  have hs0 : 0 < s := by omega
  have hs3 : s ≤ 65536 := by omega
  clear hs1 hs2
  have hX : ((b.length : Int) + (s : Int) - 1) / (s : Int) = (((b.length + s - 1) / s : Nat) : Int) := by
    rw [show (b.length : Int) + (s : Int) - 1 = ((b.length + s - 1 : Nat) : Int) by omega, Int.natCast_ediv]
  have hNd : cutN b.length s = max 1 ((b.length + s - 1) / s) := rfl
  generalize (b.length + s - 1) / s = q at hX hNd
  have hY : (if (1 : Int) < (q : Int) then (q : Int) else 1) = (cutN b.length s : Nat) := by rw [hNd]; split <;> omega
  have hq1 : cutN b.length s ≤ b.length + 1 := cutN_le hs0
  clear hNd
  generalize hN : cutN b.length s = N at hY hq1
  have HN := Lib.hid hN
  clear hN
  go_upto_if 30 with fail
  clear hX hY
  by_cases hbad : 1024 < N
  · go_wp2
    go_ret2
    exact ACut.bad (hbx.alloc (by simp) _) (.inr (.inr (by rw [Int.toNat_natCast, HN.out]; exact hbad)))
  go_wp2_with fail
  have hb2 := hbx.alloc (B := w.heap.size) (by simp) (.cells #[.int .i64 (N : Int)] 3)
  refine (Clone_any _ b (by omega) _ (HP.out.below hb2)).mono ?_
  rintro e w1 ⟨vw, rfl, HOw, HB1⟩
  have hb3 := hb2.trans (HB1.mono (by simp; omega))
  have hsz := HB1.size
  simp only [World.size_alloc] at hsz
  obtain ⟨Aw, cw, rfl⟩ := HOw.slice
  have c0 := cellBelow HB1 (cellOld _ (cellNew w (.int .i64 (s : Int)) 3 _ rfl))
  have c1 := cellBelow HB1 (cellNew (w.alloc (.cells #[.int .i64 (s : Int)] 3)) (.int .i64 (N : Int)) 3 (w.heap.size + 1) (by simp))
  have hb4 := hb3.alloc hb3.size (.cells #[.slice Aw b.length cw] 22)
  have HOw2 := HOw.below ((Below.refl _ w1).alloc (Nat.le_refl _) (.cells #[.slice Aw b.length cw] 22))
  have c2 := cellNew w1 (.slice Aw b.length cw) 22 _ rfl
  go_wp2_with fail
  refine (Sum_any _ [b] _ (HT.out.below (hb4.alloc (by simp; omega) _)) (Bss.lit1n _ _ _ _ (by simp) HOw2.bs)).mono ?_
  rintro e w2 ⟨rfl, rfl⟩
  rw [List.flatten_cons, List.flatten_nil, List.append_nil]
  have HO3 := HOw2.below ((Below.refl _ _).alloc (Nat.le_refl _) (.cells #[.slice Aw b.length cw] 22))
  have hb5 := hb4.alloc hb4.size (.cells #[.slice Aw b.length cw] 22)
  have c3 := cellOld (.cells #[.slice Aw b.length cw] 22) c2
  go_wp2_with fail
  refine (low4_any _ _).mono ?_
  rintro e w4 ⟨vs, rfl, HOs, HB4⟩
  obtain ⟨As, cs, rfl⟩ := HOs.slice
  have hb6 := hb5.trans (HB4.mono hb5.size)
  have d0 := cellBelow HB4 (cellOld (.cells #[.slice Aw b.length cw] 22) (cellOld (.cells #[.slice Aw b.length cw] 22) c0))
  have d1 := cellBelow HB4 (cellOld (.cells #[.slice Aw b.length cw] 22) (cellOld (.cells #[.slice Aw b.length cw] 22) c1))
  have d2 := cellBelow HB4 c3
  have d3 := own_mono (HO3.below HB4) (show w.heap.size ≤ _ by simp; omega)
  have d4 := own_mono HOs (show w.heap.size ≤ _ from hb5.size)
  have hge : w.heap.size ≤ w1.heap.size ∧ w.heap.size ≤ w4.heap.size := ⟨by omega, hb6.size⟩
  have hfin := hb6.alloc hb6.size (.cells #[.slice As 4 cs] 22)
  have d5 := cellNew w4 (.slice As 4 cs) 22 _ rfl
  have dT := HT.out.below hfin
  clear c0 c1 c2 c3 hb2 hb3 hb4 hb5 hb6 hbx HOw HOw2 HO3 HB1 HB4 HOs
  have D0 := Lib.hid d0
  have D1 := Lib.hid d1
  have D2 := Lib.hid d2
  have D3 := Lib.hid d3
  have D4 := Lib.hid d4
  have D5 := Lib.hid d5
  have DT := Lib.hid dT
  have HF := Lib.hid hfin
  clear d0 d1 d2 d3 d4 d5 dT hfin
  go_wp2
  go_ret2
  have hal := (Below.refl _ w4).alloc (Nat.le_refl _) (.cells #[.slice As 4 cs] 22)
  refine ⟨HF.out, fun x => absurd x ?_, fun _ => ⟨_, _, _, _, rfl, ⟨?_, ⟨Aw, cw, cellOld _ D2.out, own_below D3.out hal⟩, ?_, ⟨As, cs, D5.out, own_below D4.out hal⟩, ?_, DT.out, ⟨by omega, hge.1, Nat.le_refl _, hge.2⟩⟩⟩⟩
  · unfold cutBad; rw [Int.toNat_natCast, HN.out]; omega
  · rw [Int.toNat_natCast, HN.out]; exact cellOld _ D1.out
  · rw [Int.toNat_natCast]; exact cellOld _ D0.out
  · rw [Int.toNat_natCast, HN.out]; exact ⟨hs0, hs3, by omega, hx⟩
end Go.Proofs.YtfmlkagcmkbebaaDoor
