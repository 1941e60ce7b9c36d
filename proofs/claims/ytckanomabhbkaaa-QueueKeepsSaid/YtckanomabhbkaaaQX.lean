/- The reference's Without, walked. -/
import Derived.Test.YtckanomabhbkaaaQU2
import Derived.Test.YtckanomabhbkaaaQV
namespace Go.Proofs.Ytckanomabhbkaaa
open Go.RowKit Go.Shelf
set_option linter.unusedVariables false
/-- A queue as a value: what a function answers that makes one. -/
def QAns (B : Nat) (w' : World) (v : Value) (L : Int) (l : List Pk) : Prop := ∃ A c, v = .agg #[.int .i64 L, .slice A l.length c] ∧ PkAt w' A c l ∧ Fresh B A
set_option maxHeartbeats 3200000 in
theorem without_any (L : Int) (A : Option Addr) (c : Nat) (l : List Pk) (id : Int) (w : World) (hr : PkAt w A c l) (hl : l.length ≤ 64) :
    Calls Try.prog 84 #[.agg #[.int .i64 L, .slice A l.length c], .int .i64 id] w fun e w' => (∃ v, e = .returned v ∧ QAns w.heap.size w' v L (kept (idp id) l)) ∧ Below w.heap.size w w' := by
  have HR := Lib.hid hr
  have hcap := hr.cap
  have HLE := Lib.hid hr.le
  have hu24 := Try.underlying24
  have hu30 := Try.underlying30
  have HW := Lib.hid (srvW_below w L A c l)
  have hz0 : (srvW w L A c l).heap.size = w.heap.size + 2 := srvW_size w L A c l
  clear hr
  go_enter Try.func84, Try.ntmps84
  go_wp2
  have HOI0 : Hid (OutI L (w.heap.size + 2) (kept (idp id) (l.take 0)) ((srvW w L A c l).alloc (.cells #[.int .i64 L, .slice none 0 0] 24))) := ⟨none, 0, blk_new _ _ hz0.symm, Own.nil _ _ _⟩
  go_loopw [6] (fun v wr => ∃ i : Nat, v = .int .i64 i ∧ i ≤ l.length ∧ Hid (Below (w.heap.size + 2) (srvW w L A c l) wr) ∧ Hid (OutI L (w.heap.size + 2) (kept (idp id) (l.take i)) wr)) (fun v _ => (l.length - (intOf v)).toNat)
  case atStart => exact ⟨0, rfl, by omega, (Below.refl _ _).alloc (by omega) _, HOI0.out⟩
  case round =>
    obtain ⟨i, rfl, hle, HBT, HOI⟩ := hrel
    obtain ⟨⟨q0, q1⟩, r0, r1, f0, f1⟩ := srv_cells (srvW_blocks HBT.out)
    have HRW := Lib.hid (HR.out.row.below (HW.out.trans (HBT.out.mono (by omega))))
    obtain ⟨A6, c6, h1, h2⟩ := HOI.out
    obtain ⟨out, hout⟩ : ∃ out, kept (idp id) (l.take i) = out := ⟨_, rfl⟩
    rw [hout] at h1 h2
    have HOL := Lib.hid (show out.length ≤ i by rw [← hout]; exact kept_le _ _ _)
    have HOUT := Lib.hid hout
    have o0 : wr.cell? ⟨w.heap.size + 2, 0, none⟩ = some (.int .i64 L) := blk_cell h1 0
    have o1 : wr.cell? ⟨w.heap.size + 2, 1, none⟩ = some (.slice A6 out.length c6) := blk_cell h1 1
    have o2 : wr.frozen? ⟨w.heap.size + 2, 1, none⟩ = false := blk_free h1 1
    have l1 : w.heap.size + 2 < wr.heap.size := blk_lt h1
    have n1 : ¬ w.heap.size + 2 = wr.heap.size := by omega
    have l0 : w.heap.size < wr.heap.size := by omega
    have n0 : ¬ w.heap.size = wr.heap.size := by omega
    have H1 := Lib.hid h1
    have H2 := Lib.hid h2
    have HIN := Lib.hid (show (out.length + 1) * 56 ≤ 140737488355328 by have := HOL.out; omega)
    clear h1 h2 hout
    by_cases hlt : i < l.length
    · obtain ⟨ad, e', c0, c1, c2, c3, c4, c5⟩ := HRW.out.pk i (by omega) (by omega)
      subst e'
      rw [Int.toNat_natCast] at c0 c1 c2 c3 c4 c5
      have hli : decide ((i : Int) < l.length) = true := by simp; omega
      have HKN := Lib.hid (kept_next (p := idp id) hlt)
      by_cases hp : (gp l i).id = id
      · have hd : ((gp l i).id != id) = false := by simp [hp]
        have hd2 : ((gp l i).id == id) = true := by simp [hp]
        have HT := Lib.hid (show kept (idp id) (l.take (i + 1)) = out by rw [HKN.out, HOUT.out, if_pos (by simp [idp, hp]), List.append_nil])
        clear hp
        go_wp2
        go_roundw
        case rel => exact ⟨i + 1, by simp, by omega, HBT.out, by rw [HT.out]; exact ⟨A6, c6, H1.out, H2.out⟩⟩
        case measure => simp [intOf]; omega
      · have hd : ((gp l i).id != id) = true := by simp [hp]
        have hd2 : ((gp l i).id == id) = false := by simp [hp]
        have HT := Lib.hid (show kept (idp id) (l.take (i + 1)) = out ++ [gp l i] by rw [HKN.out, HOUT.out, if_neg (by simp [idp, hp])])
        clear hp
        have l2 : (ad.add (i * 6)).block < wr.heap.size := cell_lt c0
        have n2 : ¬ (ad.add (i * 6)).block = wr.heap.size := by omega
        have g1 : (0 : Int) ≤ i := by omega
        have g2 : (i : Int) < l.length := by omega
        go_wp2_with fail
        go_region_law (refine Own.append_step Pk.cells_len Pk.cells_one rfl _ _ 22 30 _ 56 rfl Try.underlying22 info30 rfl (by decide) (by decide) (.slice A6 out.length c6) out (by simp [Act.eval]) (base := w.heap.size + 2) ((H2.out.alloc _).drew) ⟨wr.heap.size, 0, none⟩ [gp l i] 1 (by simp [Act.eval]) (RowAt.new wr _ _ _ rfl) (by simp; omega) HIN.out ?_; intro v1 w5 hO5 hg5 _; (have hfm := hO5.form); obtain ⟨A7, c7, rfl, _, _⟩ := hfm; (have hAP := out_app (n := out.length + 1) H1.out H2.out (((Below.refl _ _).alloc (Nat.le_refl _) _).drew) hO5 hg5 (by simp)); (have HAP := Lib.hid hAP); (have u2 : w5.cell? ⟨w.heap.size + 2, 1, none⟩ = some (.slice A6 out.length c6) := blk_cell hAP.2.2.2.2 1); (have u3 : w5.frozen? ⟨w.heap.size + 2, 1, none⟩ = false := blk_free hAP.2.2.2.2 1); clear hO5 hg5 hAP)
        all_goals
          go_wp2
          go_roundw
          case rel => exact ⟨i + 1, by simp, by omega, HAP.out.2.2.1 _ _ HBT.out (by omega) (by omega) (by omega), by rw [HT.out]; exact ⟨A7, c7, HAP.out.1, HAP.out.2.1⟩⟩
          case measure => simp [intOf]; omega
    · have hli : decide ((i : Int) < l.length) = false := by simp; omega
      obtain rfl : i = l.length := by omega
      have HT := Lib.hid (show kept (idp id) l = out by rw [← HOUT.out, List.take_length])
      go_wp2
      refine bodyPost_ret (v := .agg #[.int .i64 L, .slice A6 out.length c6]) (by simp [results, Try.results84, go_sem, r0, r1]) rfl ⟨⟨_, rfl, A6, c6, by rw [HT.out], ?_, H2.out.fresh (by omega)⟩, ?_⟩
      · rw [HT.out]
        exact ((H2.out.setBelow (by simp) _).setBelow (by simp) _).pkAt
      · exact ((HW.out.trans (HBT.out.mono (by omega))).setCell (by simp) _).setCell (by simp) _
end Go.Proofs.Ytckanomabhbkaaa
