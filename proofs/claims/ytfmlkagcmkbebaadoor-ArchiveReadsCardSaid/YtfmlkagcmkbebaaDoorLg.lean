/- (*Book).whole. -/
import Derived.Test.YtfmlkagcmkbebaaDoorLe
namespace Go.Proofs.YtfmlkagcmkbebaaDoor
open Go.RowKit

theorem Book1.facts {w : World} {bk T : Nat} {vL vM : Value} {L : List Value} {M : List UInt8} (h : Book1 w bk T vL vM L M) : ∃ AL cL AM cM, vL = .slice AL L.length cL ∧ vM = .slice AM L.length cM ∧ L.length ≤ 9223372036854775807 ∧
    w.cell? ⟨bk, 0, none⟩ = some vL ∧ w.cell? ⟨bk, 1, none⟩ = some vM ∧
    ∀ (i : Nat), i < L.length → ∃ (gl gm : Nat) (A : Option Addr) (n c : Nat) (m : UInt8), AL = some ⟨gl, 0, none⟩ ∧ AM = some ⟨gm, 0, none⟩ ∧ w.cell? ⟨gl, i, none⟩ = some (.slice A n c) ∧ w.cell? ⟨gm, i, none⟩ = some (.int .u8 (m.toNat : Int)) ∧
      n ≤ 9223372036854775807 ∧ ∀ k, k < n → ∃ b o, A = some ⟨b, o, none⟩ ∧ w.cell? ⟨b, o + k, none⟩ = some (.int .u8 (m.toNat : Int)) := by
  obtain ⟨AL, cL, eL, hl1, hl2, hl3, hl4⟩ := Rd.of_own h.ownL
  obtain ⟨AM, cM, eM, hm1, hm2, hm3, hm4⟩ := Rd.of_own h.ownM
  rw [← h.len] at eM
  refine ⟨AL, cL, AM, cM, eL, eM, by unfold maxLen at hl3; omega, by rw [cell_of_row w bk 0 _ _ _ h.blk]; rfl, by rw [cell_of_row w bk 1 _ _ _ h.blk]; rfl, fun i hi => ?_⟩
  have hiM : i < M.length := by rw [← h.len]; exact hi
  obtain ⟨b1, o1, e1, c1⟩ := hl4 i L[i] (by simp [hi])
  obtain ⟨b2, o2, e2, c2⟩ := hm4 i (byt M[i]) (by simp [bys, hiM])
  have o1z : o1 = 0 := by
    rcases h.ownL.2 with ⟨e, _⟩ | ⟨g, cap, cur, e, _⟩
    · rw [eL] at e; injection e with e _ _; rw [e1] at e; cases e
    · rw [eL] at e; injection e with e _ _; rw [e1] at e; injection e with e; injection e with _ e _
  have o2z : o2 = 0 := by
    rcases h.ownM.2 with ⟨e, _⟩ | ⟨g, cap, cur, e, _⟩
    · rw [eM] at e; injection e with e _ _; rw [e2] at e; cases e
    · rw [eM] at e; injection e with e _ _; rw [e2] at e; injection e with e; injection e with _ e _
  subst o1z; subst o2z
  obtain ⟨n, hn, hb⟩ := h.each i L[i] M[i] (by simp [hi]) (by simp [hiM])
  obtain ⟨A, c, e, _, _, hk⟩ := hb.form
  rw [List.length_replicate] at e
  refine ⟨b1, b2, A, n, c, M[i], e1, e2, by rw [← e]; simpa using c1, by have := c2; unfold byt at this; simpa using this, by omega, fun k hk' => ?_⟩
  obtain ⟨b, o, e, hc⟩ := hk k (by simpa using hk')
  exact ⟨b, o, e, by have := hc; unfold byt at this; simpa using this⟩

set_option maxRecDepth 100000 in
set_option maxHeartbeats 1000000 in
theorem whole_any (bk T : Nat) (vL vM : Value) (L : List Value) (M : List UInt8) (w : World) (hb : Book1 w bk T vL vM L M) :
    Calls Tryd.prog 13 #[.pointer (some ⟨bk, 0, none⟩)] w (Quiet w (.bool true)) := by
  obtain ⟨AL, cL, AM, cM, rfl, rfl, hLm, hc0, hc1, hr⟩ := hb.facts
  have HR := Lib.hid hr
  clear hr hb
  go_enter Tryd.func13, Tryd.ntmps13
  go_wp2
  go_loopw [3] (fun i wr => ∃ k m : Nat, k ≤ L.length ∧ i = .int .i64 k ∧ wr = w.drewN m) (fun i _ => L.length - (intOf i).toNat)
  case atStart => exact ⟨0, 0, Nat.zero_le _, rfl, rfl⟩
  case round =>
    obtain ⟨k, d, hk, rfl, rfl⟩ := hrel
    by_cases hlt : k < L.length
    · obtain ⟨gl, gm, A, n, c, m, rfl, rfl, hcl, hcm, hnm, hin⟩ := HR.out k hlt
      have HIN := Lib.hid hin
      clear hin
      obtain ⟨wo, hwo⟩ : ∃ wo : World, wo = w.drewN d := ⟨_, rfl⟩
      go_wp2
      go_loopw [4] (fun i wr => ∃ k2 m : Nat, k2 ≤ n ∧ i = .int .i64 k2 ∧ wr = w.drewN m) (fun i _ => n - (intOf i).toNat)
      case atStart => exact ⟨0, d, Nat.zero_le _, rfl, rfl⟩
      case round =>
        obtain ⟨k2, d2, hk2, rfl, rfl⟩ := hrel
        by_cases hlt2 : k2 < n
        · obtain ⟨b, o, rfl, hcb⟩ := HIN.out k2 hlt2
          go_wp2
          go_quiet (fail)
          go_wp2
          go_roundw
          case rel => exact ⟨k2 + 1, _, by omega, by go_num, rfl⟩
          case measure => simp [intOf]; omega
        · go_wp2
          go_roundw
          case rel => exact ⟨k + 1, d2, by omega, by go_num, rfl⟩
          case measure => simp [intOf]; omega
    · go_wp2
      go_ret
      exact ⟨rfl, d, rfl⟩
end Go.Proofs.YtfmlkagcmkbebaaDoor
