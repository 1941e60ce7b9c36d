/- The program's Put, walked: its errors. -/
import Derived.Test.YtckanomabhbkaaaQN3
import Derived.Test.YtckanomabhbkaaaQC2
namespace Go.Proofs.Ytckanomabhbkaaa
open Go.RowKit Go.Shelf
set_option linter.unusedVariables false

/-- The world in which Put has laid its two arguments and its first result. -/
def putW (w : World) (L : Int) (A : Option Addr) (c : Nat) (l : List Pk) (p : Pk) : World :=
  ((w.alloc (.cells #[.int .i64 L, .slice A l.length c] 24)).alloc (.cells #[.int .i64 p.id, .int .i64 p.dst, .int .i64 p.pr, .int .i64 p.born, .int .i64 p.life, .string p.data] 30)).alloc (.cells #[.int .i64 0, .slice none 0 0] 24)
theorem putW_below (w : World) (L : Int) (A : Option Addr) (c : Nat) (l : List Pk) (p : Pk) : Below w.heap.size w (putW w L A c l p) :=
  (((Below.refl _ _).alloc (Nat.le_refl _) _).alloc (by simp) _).alloc (by simp; omega) _
theorem putW_size (w : World) (L : Int) (A : Option Addr) (c : Nat) (l : List Pk) (p : Pk) : (putW w L A c l p).heap.size = w.heap.size + 3 := by simp [putW]
theorem putW_cells {w : World} {L : Int} {A : Option Addr} {c : Nat} {l : List Pk} {p : Pk} {w1 : World} (h : Below (w.heap.size + 3) (putW w L A c l p) w1) :
    (w1.cell? ⟨w.heap.size, 0, none⟩ = some (.int .i64 L) ∧ w1.cell? ⟨w.heap.size, 1, none⟩ = some (.slice A l.length c)) ∧
    (w1.cell? ⟨w.heap.size + 1, 0, none⟩ = some (.int .i64 p.id) ∧ w1.cell? ⟨w.heap.size + 1, 1, none⟩ = some (.int .i64 p.dst) ∧ w1.cell? ⟨w.heap.size + 1, 2, none⟩ = some (.int .i64 p.pr) ∧ w1.cell? ⟨w.heap.size + 1, 3, none⟩ = some (.int .i64 p.born) ∧ w1.cell? ⟨w.heap.size + 1, 4, none⟩ = some (.int .i64 p.life) ∧ w1.cell? ⟨w.heap.size + 1, 5, none⟩ = some (.string p.data)) ∧
    (w1.cell? ⟨w.heap.size + 2, 0, none⟩ = some (.int .i64 0) ∧ w1.cell? ⟨w.heap.size + 2, 1, none⟩ = some (.slice none 0 0) ∧ w1.frozen? ⟨w.heap.size + 2, 0, none⟩ = false ∧ w1.frozen? ⟨w.heap.size + 2, 1, none⟩ = false) := by
  have B0 : w1.heap[w.heap.size]? = some (.cells #[.int .i64 L, .slice A l.length c] 24 (0, 0)) := blk_below (blk_old (blk_old (blk_new w _ rfl) _) _) h (by omega)
  have B1 : w1.heap[w.heap.size + 1]? = some (.cells #[.int .i64 p.id, .int .i64 p.dst, .int .i64 p.pr, .int .i64 p.born, .int .i64 p.life, .string p.data] 30 (0, 0)) := blk_below (blk_old (blk_new _ _ (by simp)) _) h (by omega)
  have B2 : w1.heap[w.heap.size + 2]? = some (.cells #[.int .i64 0, .slice none 0 0] 24 (0, 0)) := blk_below (blk_new _ _ (by simp)) h (by omega)
  exact ⟨⟨blk_cell B0 0, blk_cell B0 1⟩, ⟨blk_cell B1 0, blk_cell B1 1, blk_cell B1 2, blk_cell B1 3, blk_cell B1 4, blk_cell B1 5⟩, ⟨blk_cell B2 0, blk_cell B2 1, blk_free B2 0, blk_free B2 1⟩⟩

set_option maxHeartbeats 800000 in
theorem put_arg (L : Int) (A : Option Addr) (c : Nat) (l : List Pk) (p : Pk) (w : World) (hr : PkAt w A c l) (hids : IdsOk l) (h1 : chk L l ≠ 0) :
    Calls Try.prog 22 #[.agg #[.int .i64 L, .slice A l.length c], .agg #[.int .i64 p.id, .int .i64 p.dst, .int .i64 p.pr, .int .i64 p.born, .int .i64 p.life, .string p.data]] w fun e w' => PutAns w.heap.size w' e L l p ∧ Below w.heap.size w w' := by
  have HR := Lib.hid hr
  have HE := Lib.hid (show putE L l p = 1 by unfold putE; rw [if_pos h1])
  have b1 : (chk L l != 0) = true := by simp [h1]
  have hu24 := Try.underlying24
  have hu30 := Try.underlying30
  have HW := Lib.hid (putW_below w L A c l p)
  clear hr h1
  go_enter Try.func22, Try.ntmps22
  go_wp2_with fail
  refine (check_any L A c l _ (HR.out.row.below HW.out) hids).mono ?_
  rintro e w1 ⟨rfl, hb1⟩
  have HB1 := Lib.hid (show Below (w.heap.size + 3) (putW w L A c l p) w1 from by have h := hb1; rw [putW_size] at h; exact h)
  obtain ⟨⟨q0, q1⟩, ⟨p0, p1, p2, p3, p4, p5⟩, ⟨r0, r1, f0, f1⟩⟩ := putW_cells HB1.out
  clear hb1
  go_wp2
  refine bodyPost_ret (v := .tuple #[.agg #[.int .i64 0, .slice none 0 0], .slice none 0 0, .int .i64 1]) (by simp [results, Try.results22, go_sem, r0, r1]) rfl ⟨PutAns.bad HE.out (by decide), ?_⟩
  exact ((HW.out.trans (HB1.out.mono (by omega))).setCell (by simp; omega) _).setCell (by simp; omega) _
set_option maxHeartbeats 1600000 in
theorem put_form (L : Int) (A : Option Addr) (c : Nat) (l : List Pk) (p : Pk) (w : World) (hr : PkAt w A c l) (hids : IdsOk l) (h1 : chk L l = 0) (h2 : pform p ≠ 0) :
    Calls Try.prog 22 #[.agg #[.int .i64 L, .slice A l.length c], .agg #[.int .i64 p.id, .int .i64 p.dst, .int .i64 p.pr, .int .i64 p.born, .int .i64 p.life, .string p.data]] w fun e w' => PutAns w.heap.size w' e L l p ∧ Below w.heap.size w w' := by
  have HR := Lib.hid hr
  have HE := Lib.hid (show putE L l p = pform p by unfold putE; rw [if_neg (by rw [h1]; simp), if_pos h2])
  have b1 : (chk L l != 0) = false := by simp [h1]
  have b2 : (pform p != 0) = true := by simp [h2]
  have H2 := Lib.hid h2
  have hu24 := Try.underlying24
  have hu30 := Try.underlying30
  have HW := Lib.hid (putW_below w L A c l p)
  clear hr h1 h2
  go_enter Try.func22, Try.ntmps22
  go_wp2_with fail
  refine (check_any L A c l _ (HR.out.row.below HW.out) hids).mono ?_
  rintro e w1 ⟨rfl, hb1⟩
  have HB1 := Lib.hid (show Below (w.heap.size + 3) (putW w L A c l p) w1 from by have h := hb1; rw [putW_size] at h; exact h)
  obtain ⟨⟨q0, q1⟩, ⟨p0, p1, p2, p3, p4, p5⟩, ⟨r0, r1, f0, f1⟩⟩ := putW_cells HB1.out
  clear hb1
  go_wp2_with fail
  refine (form_any p _).mono ?_
  rintro e w2 ⟨rfl, hb2⟩
  have HB2 := Lib.hid (HB1.out.trans (hb2.mono (by have := HB1.out.size; rw [putW_size] at this; omega)))
  clear q0 q1 p0 p1 p2 p3 p4 p5 r0 r1 f0 f1 hb2
  obtain ⟨⟨q0, q1⟩, ⟨p0, p1, p2, p3, p4, p5⟩, ⟨r0, r1, f0, f1⟩⟩ := putW_cells HB2.out
  go_wp2
  refine bodyPost_ret (v := .tuple #[.agg #[.int .i64 0, .slice none 0 0], .slice none 0 0, .int .i64 (pform p)]) (by simp [results, Try.results22, go_sem, r0, r1]) rfl ⟨PutAns.bad HE.out H2.out, ?_⟩
  exact ((HW.out.trans (HB2.out.mono (by omega))).setCell (by simp; omega) _).setCell (by simp; omega) _

set_option maxHeartbeats 1600000 in
theorem put_twice (L : Int) (A : Option Addr) (c : Nat) (l : List Pk) (p : Pk) (w : World) (hr : PkAt w A c l) (hids : IdsOk l) (h1 : chk L l = 0) (h2 : pform p = 0) (h3 : 0 ≤ idx l p.id) :
    Calls Try.prog 22 #[.agg #[.int .i64 L, .slice A l.length c], .agg #[.int .i64 p.id, .int .i64 p.dst, .int .i64 p.pr, .int .i64 p.born, .int .i64 p.life, .string p.data]] w fun e w' => PutAns w.heap.size w' e L l p ∧ Below w.heap.size w w' := by
  have HR := Lib.hid hr
  have HE := Lib.hid (show putE L l p = 6 by unfold putE; rw [if_neg (by rw [h1]; simp), if_neg (by rw [h2]; simp), if_pos h3])
  have b1 : (chk L l != 0) = false := by simp [h1]
  have b2 : (pform p != 0) = false := by simp [h2]
  have b3 : decide (0 ≤ idx l p.id) = true := by simp [h3]
  have hu24 := Try.underlying24
  have hu30 := Try.underlying30
  have HW := Lib.hid (putW_below w L A c l p)
  clear hr h1 h2 h3
  go_enter Try.func22, Try.ntmps22
  go_wp2_with fail
  refine (check_any L A c l _ (HR.out.row.below HW.out) hids).mono ?_
  rintro e w1 ⟨rfl, hb1⟩
  have HB1 := Lib.hid (show Below (w.heap.size + 3) (putW w L A c l p) w1 from by have h := hb1; rw [putW_size] at h; exact h)
  obtain ⟨⟨q0, q1⟩, ⟨p0, p1, p2, p3, p4, p5⟩, ⟨r0, r1, f0, f1⟩⟩ := putW_cells HB1.out
  clear hb1
  go_wp2_with fail
  refine (form_any p _).mono ?_
  rintro e w2 ⟨rfl, hb2⟩
  have HB2 := Lib.hid (HB1.out.trans (hb2.mono (by have := HB1.out.size; rw [putW_size] at this; omega)))
  clear q0 q1 p0 p1 p2 p3 p4 p5 r0 r1 f0 f1 hb2
  obtain ⟨⟨q0, q1⟩, ⟨p0, p1, p2, p3, p4, p5⟩, ⟨r0, r1, f0, f1⟩⟩ := putW_cells HB2.out
  go_wp2_with fail
  refine (index_any L A c l _ _ (HR.out.row.below (HW.out.trans (HB2.out.mono (by omega))))).mono ?_
  rintro e w3 ⟨rfl, hb3⟩
  have HB3 := Lib.hid (HB2.out.trans (hb3.mono (by have := HB2.out.size; rw [putW_size] at this; omega)))
  clear q0 q1 p0 p1 p2 p3 p4 p5 r0 r1 f0 f1 hb3
  obtain ⟨⟨q0, q1⟩, ⟨p0, p1, p2, p3, p4, p5⟩, ⟨r0, r1, f0, f1⟩⟩ := putW_cells HB3.out
  go_wp2
  refine bodyPost_ret (v := .tuple #[.agg #[.int .i64 0, .slice none 0 0], .slice none 0 0, .int .i64 6]) (by simp [results, Try.results22, go_sem, r0, r1]) rfl ⟨PutAns.bad HE.out (by decide), ?_⟩
  exact ((HW.out.trans (HB3.out.mono (by omega))).setCell (by simp; omega) _).setCell (by simp; omega) _
end Go.Proofs.Ytckanomabhbkaaa
