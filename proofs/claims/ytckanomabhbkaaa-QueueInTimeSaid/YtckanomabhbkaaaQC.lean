/- The reference check of a queue, walked. -/
import Derived.Test.YtckanomabhbkaaaQA2
import Derived.IntWalk
namespace Go.Proofs.Ytckanomabhbkaaa
open Go.RowKit
set_option linter.unusedVariables false
set_option maxHeartbeats 800000 in
theorem refCheck_any (L : Int) (A : Option Addr) (c : Nat) (l : List Pk) (w : World) (hr : RowAt Pk.cells 6 w A l) :
    Calls Try.prog 21 #[.agg #[.int .i64 L, .slice A l.length c]] w fun e w' => e = .returned (.int .i64 (chk L l)) ∧ Below w.heap.size w w' := by
  have HR := Lib.hid hr
  have hb := hr.1
  clear hr
  have hu24 := Try.underlying24
  have hu30 := Try.underlying30
  by_cases h1 : L < 1
  · go_enter Try.func21, Try.ntmps21
    go_wp2
    go_ret
    exact ⟨ret_int (by unfold chk; rw [if_pos (by omega)]), (Below.refl _ _).alloc (Nat.le_refl _) _⟩
  by_cases h2 : 64 < L
  · go_enter Try.func21, Try.ntmps21
    go_wp2
    go_ret
    exact ⟨ret_int (by unfold chk; rw [if_pos (by omega)]), (Below.refl _ _).alloc (Nat.le_refl _) _⟩
  by_cases h3 : L < l.length
  · go_enter Try.func21, Try.ntmps21
    go_wp2
    go_ret
    exact ⟨ret_int (by unfold chk; rw [if_neg (by omega), if_pos (by omega)]), (Below.refl _ _).alloc (Nat.le_refl _) _⟩
  have HC := Lib.hid (show chk L l = firstErr l (l.length - (0 : Int)).toNat 0 by unfold chk; rw [if_neg (by omega), if_neg (by omega)]; simp)
  go_enter Try.func21, Try.ntmps21
  go_wp2
  go_loopw [3] (fun v wr => ∃ i : Int, v = .int .i64 i ∧ 0 ≤ i ∧ i ≤ l.length ∧ Hid (chk L l = firstErr l (l.length - i).toNat i) ∧ Hid (Below (w.heap.size + 1) (w.alloc (.cells #[.int .i64 L, .slice A l.length c] 24)) wr)) (fun v _ => (l.length - (intOf v)).toNat)
  case atStart => exact ⟨0, rfl, by omega, by omega, HC.out, Below.refl _ _⟩
  case round =>
    obtain ⟨i, rfl, h0, hle, HN, HB⟩ := hrel
    have HBw : Hid (Below w.heap.size w wr) := ((Below.refl _ _).alloc (Nat.le_refl _) _).trans (HB.out.mono (by omega))
    have q0 : wr.cell? ⟨w.heap.size, 0, none⟩ = some (.int .i64 L) := (HB.out.cell (p := ⟨w.heap.size, 0, none⟩) (by simp)).trans (by simp)
    have q1 : wr.cell? ⟨w.heap.size, 1, none⟩ = some (.slice A l.length c) := (HB.out.cell (p := ⟨w.heap.size, 1, none⟩) (by simp)).trans (by simp)
    have hsz : w.heap.size < wr.heap.size := by have := HB.out.size; simp at this; omega
    by_cases hlt : i < l.length
    · obtain ⟨ad, rfl, c0, c1, c2, c3, c4, c5⟩ := (HR.out.below HBw.out).pk i h0 hlt
      go_wp2_with fail
      refine (refPacket_any _ _).mono ?_
      rintro e w1 ⟨rfl, hb1⟩
      obtain ⟨hc1, hf1⟩ := bcell hb1
      have hz1 : wr.heap.size + 1 ≤ w1.heap.size := by have := hb1.size; simp at this; omega
      have HB1 : Hid (Below (w.heap.size + 1) (w.alloc (.cells #[.int .i64 L, .slice (some ad) l.length c] 24)) w1) := (HB.out.trans ((Below.refl _ _).alloc (by omega) _)).trans (hb1.mono (by simp; omega))
      clear hb1
      have hcell : ∀ k v, wr.cell? ⟨wr.heap.size, k, none⟩ = v → True := fun _ _ _ => trivial
      by_cases hp : pform (gp l i) = 0
      · have b1 : (pform (gp l i) != 0) = false := by simp [hp]
        have HP := Lib.hid hp
        clear hp
        go_wp2_with fail
        refine (refIndex_any _ _ _ _ _ (HR.out.below (((Below.refl _ _).alloc (Nat.le_refl _) _).trans (HB1.out.mono (by omega))))).mono ?_
        rintro e w2 ⟨rfl, hb2⟩
        have HB2 : Hid (Below (w.heap.size + 1) (w.alloc (.cells #[.int .i64 L, .slice (some ad) l.length c] 24)) w2) := HB1.out.trans (hb2.mono (by omega))
        have HBw2 : Hid (Below w.heap.size w w2) := ((Below.refl _ _).alloc (Nat.le_refl _) _).trans (HB2.out.mono (by omega))
        have r0 : w2.cell? ⟨w.heap.size, 0, none⟩ = some (.int .i64 L) := (HB2.out.cell (p := ⟨w.heap.size, 0, none⟩) (by simp)).trans (by simp)
        have r1 : w2.cell? ⟨w.heap.size, 1, none⟩ = some (.slice (some ad) l.length c) := (HB2.out.cell (p := ⟨w.heap.size, 1, none⟩) (by simp)).trans (by simp)
        have r2 : w2.cell? ⟨wr.heap.size, 2, none⟩ = some (.int .i64 (gp l i).pr) := (hb2.cell (p := ⟨wr.heap.size, 2, none⟩) (by simp; omega)).trans ((hc1 _ _ (by simp)).trans (by simp))
        clear hb2 hc1 hf1 c0 c1 c2 c3 c4 c5 q0 q1
        by_cases hi : idx l (gp l i).id < i
        · have b2 : decide (idx l (gp l i).id < i) = true := by simp [hi]
          have HE := Lib.hid (show errAt l i = 6 by unfold errAt; rw [if_neg (by simp [HP.out]), if_pos hi])
          go_wp2
          go_ret
          exact ⟨ret_int (by rw [HN.out, firstErr_stop hlt (by rw [HE.out]; decide), HE.out]), HBw2.out⟩
        · have b2 : decide (idx l (gp l i).id < i) = false := by simp [hi]
          by_cases hi0 : 0 < i
          · obtain ⟨ad', e', c0, c1, c2, c3, c4, c5⟩ := (HR.out.below HBw2.out).pk (i - 1) (by omega) (by omega)
            cases e'
            rw [show (i - 1).toNat = i.toNat - 1 from by omega] at c2
            have b3 : decide (0 < i) = true := by simp [hi0]
            have g1 : IntKind.i64.wrap (i - 1) = i - 1 := IntWalk.i64_in _ (by omega)
            have g2 : 0 ≤ i - 1 := by omega
            have g3 : i - 1 < l.length := by omega
            by_cases ho : (gp l i).pr < (gp l (i - 1)).pr
            · have HE := Lib.hid (show errAt l i = 5 by unfold errAt; rw [if_neg (by simp [HP.out]), if_neg hi, if_pos ⟨hi0, ho⟩])
              have b4 : decide ((gp l i).pr < (gp l (i - 1)).pr) = true := by simp [ho]
              go_wp2
              go_quiet (fail)
              clear g1 g2 g3
              go_wp2
              go_ret
              exact ⟨ret_int (by rw [HN.out, firstErr_stop hlt (by rw [HE.out]; decide), HE.out]), by repeat (first | exact HBw2.out | apply Below.drew | apply blw_drewN)⟩
            · have HE := Lib.hid (show errAt l i = 0 by unfold errAt; rw [if_neg (by simp [HP.out]), if_neg hi, if_neg (fun h => ho h.2)])
              have b4 : decide ((gp l i).pr < (gp l (i - 1)).pr) = false := by simp [ho]
              go_wp2
              go_quiet (fail)
              clear g1 g2 g3
              go_wp2
              go_roundw
              case rel => exact ⟨i + 1, rfl, by omega, by omega, HN.out.trans (firstErr_go hlt HE.out), by repeat (first | exact HB2.out | apply Below.drew | apply blw_drewN)⟩
              case measure => simp [intOf]; omega
          · have HE := Lib.hid (show errAt l i = 0 by unfold errAt; rw [if_neg (by simp [HP.out]), if_neg hi, if_neg (fun h => hi0 h.1)])
            have b3 : decide (0 < i) = false := by simp [hi0]
            go_wp2
            repeat (go_quiet (fail); try go_wp2)
            go_roundw
            case rel => exact ⟨i + 1, rfl, by omega, by omega, HN.out.trans (firstErr_go hlt HE.out), by repeat (first | exact HB2.out | apply Below.drew | apply blw_drewN)⟩
            case measure => simp [intOf]; omega
      · have b1 : (pform (gp l i) != 0) = true := by simp [hp]
        have HE := Lib.hid (show errAt l i = pform (gp l i) by unfold errAt; rw [if_pos hp])
        have HP := Lib.hid hp
        clear hp
        go_wp2
        go_ret
        exact ⟨ret_int (by rw [HN.out, firstErr_stop hlt (by rw [HE.out]; exact HP.out), HE.out]), ((Below.refl _ _).alloc (Nat.le_refl _) _).trans (HB1.out.mono (by omega))⟩
    · go_wp2
      go_ret
      exact ⟨ret_int (by rw [HN.out, firstErr_end (by omega)]), HBw.out⟩
end Go.Proofs.Ytckanomabhbkaaa
