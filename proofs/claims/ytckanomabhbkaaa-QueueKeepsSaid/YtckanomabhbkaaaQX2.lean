/- The reference's Take, walked. -/
import Derived.Test.YtckanomabhbkaaaQX
import Derived.Test.YtckanomabhbkaaaQB
import Derived.Test.YtckanomabhbkaaaQC
import Derived.Deep.RegionWith
namespace Go.Proofs.Ytckanomabhbkaaa
open Go.RowKit Go.Shelf
set_option linter.unusedVariables false
def pkv (p : Pk) : Value := .agg #[.int .i64 p.id, .int .i64 p.dst, .int .i64 p.pr, .int .i64 p.born, .int .i64 p.life, .string p.data]
def takeL (L : Int) (l : List Pk) (id : Int) : Int := if aheadE L l id = 0 then L else 0
def takeQ (L : Int) (l : List Pk) (id : Int) : List Pk := if aheadE L l id = 0 then kept (idp id) l else []
def takeP (L : Int) (l : List Pk) (id : Int) : Pk := if aheadE L l id = 0 then gp l (idx l id) else Pk.zero
/-- The answer of Take. -/
def TakeAns (B : Nat) (w' : World) (e : Ending) (L : Int) (l : List Pk) (id : Int) : Prop :=
  ∃ A c, e = .returned (.tuple #[.agg #[.int .i64 (takeL L l id), .slice A (takeQ L l id).length c], pkv (takeP L l id), .int .i64 (aheadE L l id)]) ∧ PkAt w' A c (takeQ L l id) ∧ Fresh B A
theorem TakeAns.bad {B : Nat} {w' : World} {L : Int} {l : List Pk} {id E : Int} (h : aheadE L l id = E) (hE : E ≠ 0) : TakeAns B w' (.returned (.tuple #[.agg #[.int .i64 0, .slice none 0 0], pkv Pk.zero, .int .i64 E])) L l id := by
  have e1 : takeL L l id = 0 := by unfold takeL; rw [if_neg (by rw [h]; exact hE)]
  have e2 : takeQ L l id = [] := by unfold takeQ; rw [if_neg (by rw [h]; exact hE)]
  have e3 : takeP L l id = Pk.zero := by unfold takeP; rw [if_neg (by rw [h]; exact hE)]
  exact ⟨none, 0, by rw [e1, e2, e3, h]; rfl, by rw [e2]; exact PkAt.zero _, fun a h => by cases h⟩
theorem TakeAns.good {B : Nat} {w' : World} {L : Int} {l : List Pk} {id : Int} {A : Option Addr} {c : Nat} {Q : List Pk} {p : Pk} (h : aheadE L l id = 0) (hQ : Q = kept (idp id) l) (hp : p = gp l (idx l id)) (h1 : PkAt w' A c Q) (hf : Fresh B A) :
    TakeAns B w' (.returned (.tuple #[.agg #[.int .i64 L, .slice A Q.length c], pkv p, .int .i64 0])) L l id := by
  have e1 : takeL L l id = L := by unfold takeL; rw [if_pos h]
  have e2 : takeQ L l id = Q := by unfold takeQ; rw [if_pos h, hQ]
  have e3 : takeP L l id = p := by unfold takeP; rw [if_pos h, hp]
  exact ⟨A, c, by rw [e1, e2, e3, h], by rw [e2]; exact h1, hf⟩
/-- The world of Take behind its head. -/
def tkW (w : World) (L : Int) (A : Option Addr) (c : Nat) (l : List Pk) : World := (srvW w L A c l).alloc (.cells #[.int .i64 0, .int .i64 0, .int .i64 0, .int .i64 0, .int .i64 0, .string ⟨#[]⟩] 30)
theorem tkW_size (w : World) (L : Int) (A : Option Addr) (c : Nat) (l : List Pk) : (tkW w L A c l).heap.size = w.heap.size + 3 := by simp [tkW, srvW]
theorem tkW_below (w : World) (L : Int) (A : Option Addr) (c : Nat) (l : List Pk) : Below w.heap.size w (tkW w L A c l) := (srvW_below w L A c l).alloc (by rw [srvW_size]; omega) _
theorem tkW_blocks {w w1 : World} {L : Int} {A : Option Addr} {c : Nat} {l : List Pk} (hb : Below (w.heap.size + 3) (tkW w L A c l) w1) :
    (w1.heap[w.heap.size]? = some (.cells #[.int .i64 L, .slice A l.length c] 24 (0, 0)) ∧ w1.heap[w.heap.size + 1]? = some (.cells #[.int .i64 0, .slice none 0 0] 24 (0, 0))) ∧ w1.heap[w.heap.size + 2]? = some (.cells #[.int .i64 0, .int .i64 0, .int .i64 0, .int .i64 0, .int .i64 0, .string ⟨#[]⟩] 30 (0, 0)) :=
  ⟨srvW_blocks ((show Below (w.heap.size + 2) (srvW w L A c l) (tkW w L A c l) from (Below.refl _ _).alloc (by rw [srvW_size]; omega) _).trans (hb.mono (by omega))), blk_below (blk_new (srvW w L A c l) _ (srvW_size w L A c l).symm) hb (by omega)⟩
theorem box6f {w : World} {b : Nat} {cs : Array Value} {t : TypeId} (h : w.heap[b]? = some (.cells cs t (0, 0))) : w.frozen? ⟨b, 0, none⟩ = false ∧ w.frozen? ⟨b, 1, none⟩ = false ∧ w.frozen? ⟨b, 2, none⟩ = false ∧ w.frozen? ⟨b, 3, none⟩ = false ∧ w.frozen? ⟨b, 4, none⟩ = false ∧ w.frozen? ⟨b, 5, none⟩ = false := ⟨blk_free h 0, blk_free h 1, blk_free h 2, blk_free h 3, blk_free h 4, blk_free h 5⟩
set_option maxHeartbeats 1600000 in
theorem refTake_bad (L : Int) (A : Option Addr) (c : Nat) (l : List Pk) (id : Int) (w : World) (hr : PkAt w A c l) (h : aheadE L l id ≠ 0) :
    Calls Try.prog 41 #[.agg #[.int .i64 L, .slice A l.length c], .int .i64 id] w fun e w' => TakeAns w.heap.size w' e L l id ∧ Below w.heap.size w w' := by
  have HR := Lib.hid hr
  have hu24 := Try.underlying24
  have hu30 := Try.underlying30
  have HW := Lib.hid (tkW_below w L A c l)
  clear hr
  by_cases h1 : chk L l = 0
  · have h3 : idx l id < 0 := by
      by_cases h3 : idx l id < 0
      · exact h3
      · exact absurd (by unfold aheadE; rw [if_neg (by rw [h1]; simp), if_neg h3]) h
    have HE := Lib.hid (show aheadE L l id = 7 by unfold aheadE; rw [if_neg (by rw [h1]; simp), if_pos h3])
    have b1 : (chk L l != 0) = false := by simp [h1]
    have b3 : decide (idx l id < 0) = true := by simp [h3]
    clear h h1 h3
    go_enter Try.func41, Try.ntmps41
    go_wp2_with fail
    refine (refCheck_any L A c l _ (HR.out.row.below HW.out)).mono ?_
    rintro e w1 ⟨rfl, hb1⟩
    have HB1 := Lib.hid (show Below (w.heap.size + 3) (tkW w L A c l) w1 from by have h := hb1; rw [← tkW_size w L A c l]; exact h)
    have hB := tkW_blocks HB1.out
    obtain ⟨⟨q0, q1⟩, r0, r1, f0, f1⟩ := srv_cells hB.1
    clear hb1 hB
    go_wp2_with fail
    refine (refIndex_any A c l id _ (HR.out.row.below (HW.out.trans (HB1.out.mono (by omega))))).mono ?_
    rintro e w2 ⟨rfl, hb2⟩
    have HB2 := Lib.hid (HB1.out.trans (hb2.mono (by have := HB1.out.size; rw [tkW_size] at this; omega)))
    have hB := tkW_blocks HB2.out
    clear q0 q1 r0 r1 f0 f1 hb2
    obtain ⟨⟨q0, q1⟩, r0, r1, f0, f1⟩ := srv_cells hB.1
    obtain ⟨s0, s1, s2, s3, s4, s5⟩ := box6 hB.2
    obtain ⟨t0, t1, t2, t3, t4, t5⟩ := box6f hB.2
    clear hB
    set_option maxRecDepth 100000 in go_wp2
    refine bodyPost_ret (v := .tuple #[.agg #[.int .i64 0, .slice none 0 0], pkv Pk.zero, .int .i64 7]) (by simp [results, Try.results41, go_sem, r0, r1, s0, s1, s2, s3, s4, s5, pkv, Pk.zero]) rfl ⟨TakeAns.bad HE.out (by decide), ?_⟩
    have HX := HW.out.trans (HB2.out.mono (by omega))
    exact (((((((HX.setCell (by simp) _).setCell (by simp) _).setCell (by simp; omega) _).setCell (by simp; omega) _).setCell (by simp; omega) _).setCell (by simp; omega) _).setCell (by simp; omega) _).setCell (by simp; omega) _
  · have HE := Lib.hid (show aheadE L l id = 1 by unfold aheadE; rw [if_pos h1])
    have b1 : (chk L l != 0) = true := by simp [h1]
    clear h h1
    go_enter Try.func41, Try.ntmps41
    go_wp2_with fail
    refine (refCheck_any L A c l _ (HR.out.row.below HW.out)).mono ?_
    rintro e w2 ⟨rfl, hb1⟩
    have HB2 := Lib.hid (show Below (w.heap.size + 3) (tkW w L A c l) w2 from by have h := hb1; rw [← tkW_size w L A c l]; exact h)
    have hB := tkW_blocks HB2.out
    obtain ⟨⟨q0, q1⟩, r0, r1, f0, f1⟩ := srv_cells hB.1
    obtain ⟨s0, s1, s2, s3, s4, s5⟩ := box6 hB.2
    obtain ⟨t0, t1, t2, t3, t4, t5⟩ := box6f hB.2
    clear hb1 hB
    set_option maxRecDepth 100000 in go_wp2
    refine bodyPost_ret (v := .tuple #[.agg #[.int .i64 0, .slice none 0 0], pkv Pk.zero, .int .i64 1]) (by simp [results, Try.results41, go_sem, r0, r1, s0, s1, s2, s3, s4, s5, pkv, Pk.zero]) rfl ⟨TakeAns.bad HE.out (by decide), ?_⟩
    have HX := HW.out.trans (HB2.out.mono (by omega))
    exact (((((((HX.setCell (by simp) _).setCell (by simp) _).setCell (by simp; omega) _).setCell (by simp; omega) _).setCell (by simp; omega) _).setCell (by simp; omega) _).setCell (by simp; omega) _).setCell (by simp; omega) _
end Go.Proofs.Ytckanomabhbkaaa
