/- The reference's Serve: its errors. -/
import Derived.Test.YtckanomabhbkaaaYF
namespace Go.Proofs.Ytckanomabhbkaaa
open Go.RowKit Go.Shelf
set_option linter.unusedVariables false
set_option maxHeartbeats 1600000 in
theorem refServe_arg (L : Int) (A : Option Addr) (c : Nat) (l : List Pk) (fr : Int) (As : Option Addr) (cs : Nat) (sv : List Int) (w : World) (hr : PkAt w A c l) (h1 : chk L l ≠ 0) :
    Calls Try.prog 31 #[.agg #[.int .i64 L, .slice A l.length c], .int .i64 fr, .slice As sv.length cs] w fun e w' => ServeAns w' e L l fr sv ∧ Below w.heap.size w w' := by
  have HR := Lib.hid hr
  have HE := Lib.hid (show serveE L l fr sv = 1 by unfold serveE; rw [if_pos h1])
  have b1 : (chk L l != 0) = true := by simp [h1]
  have hu24 := Try.underlying24
  have HW := Lib.hid (srvW_below w L A c l)
  clear hr h1
  go_enter Try.func31, Try.ntmps31
  go_wp2_with fail
  refine (refCheck_any L A c l _ (HR.out.row.below HW.out)).mono ?_
  rintro e w1 ⟨rfl, hb1⟩
  have HB1 := Lib.hid (show Below (w.heap.size + 2) (srvW w L A c l) w1 from by have h := hb1; rw [srvW_size] at h; exact h)
  obtain ⟨⟨q0, q1⟩, r0, r1, f0, f1⟩ := srv_cells (srvW_blocks HB1.out)
  clear hb1
  go_wp2
  refine bodyPost_ret (v := .tuple #[.agg #[.int .i64 0, .slice none 0 0], .slice none 0 0, .int .i64 1]) (by simp [results, Try.results31, go_sem, r0, r1]) rfl ⟨ServeAns.bad HE.out (by decide), ?_⟩
  exact ((HW.out.trans (HB1.out.mono (by omega))).setCell (by simp) _).setCell (by simp) _
set_option maxHeartbeats 1600000 in
theorem refServe_range (L : Int) (A : Option Addr) (c : Nat) (l : List Pk) (fr : Int) (As : Option Addr) (cs : Nat) (sv : List Int) (w : World) (hr : PkAt w A c l) (h1 : chk L l = 0) (h2 : fr < 0 ∨ 1099511627776 < fr) :
    Calls Try.prog 31 #[.agg #[.int .i64 L, .slice A l.length c], .int .i64 fr, .slice As sv.length cs] w fun e w' => ServeAns w' e L l fr sv ∧ Below w.heap.size w w' := by
  have HR := Lib.hid hr
  have HE := Lib.hid (show serveE L l fr sv = 2 by unfold serveE; rw [if_neg (by rw [h1]; simp), if_pos h2])
  have b1 : (chk L l != 0) = false := by simp [h1]
  have hu24 := Try.underlying24
  have HW := Lib.hid (srvW_below w L A c l)
  have hor : decide (fr < 0) = true ∨ (decide (fr < 0) = false ∧ decide (1099511627776 < fr) = true) := by
    by_cases h : fr < 0
    · left; simp [h]
    · right; simp [h]; omega
  clear hr h1 h2
  rcases hor with b2 | ⟨b2, b3⟩
  all_goals
    go_enter Try.func31, Try.ntmps31
    go_wp2_with fail
    refine (refCheck_any L A c l _ (HR.out.row.below HW.out)).mono ?_
    rintro e w1 ⟨rfl, hb1⟩
    have HB1 := Lib.hid (show Below (w.heap.size + 2) (srvW w L A c l) w1 from by have h := hb1; rw [srvW_size] at h; exact h)
    obtain ⟨⟨q0, q1⟩, r0, r1, f0, f1⟩ := srv_cells (srvW_blocks HB1.out)
    clear hb1
    go_wp2
    refine bodyPost_ret (v := .tuple #[.agg #[.int .i64 0, .slice none 0 0], .slice none 0 0, .int .i64 2]) (by simp [results, Try.results31, go_sem, r0, r1]) rfl ⟨ServeAns.bad HE.out (by decide), ?_⟩
    exact ((HW.out.trans (HB1.out.mono (by omega))).setCell (by simp) _).setCell (by simp) _
set_option maxHeartbeats 1600000 in
theorem refServe_large (L : Int) (A : Option Addr) (c : Nat) (l : List Pk) (fr : Int) (As : Option Addr) (cs : Nat) (sv : List Int) (w : World) (hr : PkAt w A c l) (h1 : chk L l = 0) (h2 : ¬ (fr < 0 ∨ 1099511627776 < fr)) (h3 : 4096 < sv.length) :
    Calls Try.prog 31 #[.agg #[.int .i64 L, .slice A l.length c], .int .i64 fr, .slice As sv.length cs] w fun e w' => ServeAns w' e L l fr sv ∧ Below w.heap.size w w' := by
  have HR := Lib.hid hr
  have HE := Lib.hid (show serveE L l fr sv = 8 by unfold serveE; rw [if_neg (by rw [h1]; simp), if_neg h2, if_pos h3])
  have b1 : (chk L l != 0) = false := by simp [h1]
  have hu24 := Try.underlying24
  have HW := Lib.hid (srvW_below w L A c l)
  have b2 : decide (fr < 0) = false := by simp; omega
  have b3 : decide (1099511627776 < fr) = false := by simp; omega
  have b4 : decide (4096 < sv.length) = true := by simp [h3]
  have b5 : decide ((4096 : Int) < sv.length) = true := by simp; omega
  clear hr h1 h2 h3
  go_enter Try.func31, Try.ntmps31
  go_wp2_with fail
  refine (refCheck_any L A c l _ (HR.out.row.below HW.out)).mono ?_
  rintro e w1 ⟨rfl, hb1⟩
  have HB1 := Lib.hid (show Below (w.heap.size + 2) (srvW w L A c l) w1 from by have h := hb1; rw [srvW_size] at h; exact h)
  obtain ⟨⟨q0, q1⟩, r0, r1, f0, f1⟩ := srv_cells (srvW_blocks HB1.out)
  clear hb1
  go_wp2
  refine bodyPost_ret (v := .tuple #[.agg #[.int .i64 0, .slice none 0 0], .slice none 0 0, .int .i64 8]) (by simp [results, Try.results31, go_sem, r0, r1]) rfl ⟨ServeAns.bad HE.out (by decide), ?_⟩
  exact ((HW.out.trans (HB1.out.mono (by omega))).setCell (by simp) _).setCell (by simp) _
end Go.Proofs.Ytckanomabhbkaaa
