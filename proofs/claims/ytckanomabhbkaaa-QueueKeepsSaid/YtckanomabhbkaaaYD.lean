/- Expire of the program, walked. -/
import Derived.Test.YtckanomabhbkaaaYC
import Derived.Test.YtckanomabhbkaaaQL
import Derived.Deep.RegionHeld3
namespace Go.Proofs.Ytckanomabhbkaaa
open Go.RowKit Go.Shelf
set_option linter.unusedVariables false
def expQ (L : Int) (l : List Pk) (s : Int) : List Pk := if chk L l = 0 then kept (staleP s) l else l
def expG (L : Int) (l : List Pk) (s : Int) : List Pk := if chk L l = 0 then kept (freshP s) l else []
/-- The answer of Expire. -/
def ExpAns (B : Nat) (w' : World) (e : Ending) (L : Int) (l : List Pk) (s : Int) : Prop :=
  ∃ A c A2 c2, e = .returned (.tuple #[.agg #[.int .i64 L, .slice A (expQ L l s).length c], .slice A2 (expG L l s).length c2]) ∧ PkAt w' A c (expQ L l s) ∧ PkAt w' A2 c2 (expG L l s) ∧ (chk L l = 0 → Fresh B A) ∧ Fresh B A2
theorem ExpAns.bad {B : Nat} {w' : World} {L : Int} {l : List Pk} {s : Int} {A : Option Addr} {c : Nat} (h : chk L l ≠ 0) (hp : PkAt w' A c l) : ExpAns B w' (.returned (.tuple #[.agg #[.int .i64 L, .slice A l.length c], .slice none 0 0])) L l s := by
  have e1 : expQ L l s = l := by unfold expQ; rw [if_neg h]
  have e2 : expG L l s = [] := by unfold expG; rw [if_neg h]
  exact ⟨A, c, none, 0, by rw [e1, e2]; rfl, by rw [e1]; exact hp, by rw [e2]; exact PkAt.zero _, fun h' => absurd h' h, fun a h => by cases h⟩
theorem ExpAns.good {B : Nat} {w' : World} {L : Int} {l : List Pk} {s : Int} {A A2 : Option Addr} {c c2 : Nat} {Q G : List Pk} (h : chk L l = 0) (hQ : Q = kept (staleP s) l) (hG : G = kept (freshP s) l) (h1 : PkAt w' A c Q) (h2 : PkAt w' A2 c2 G) (hf : Fresh B A) (hf2 : Fresh B A2) :
    ExpAns B w' (.returned (.tuple #[.agg #[.int .i64 L, .slice A Q.length c], .slice A2 G.length c2])) L l s := by
  have e1 : expQ L l s = Q := by unfold expQ; rw [if_pos h, hQ]
  have e2 : expG L l s = G := by unfold expG; rw [if_pos h, hG]
  exact ⟨A, c, A2, c2, by rw [e1, e2], by rw [e1]; exact h1, by rw [e2]; exact h2, fun _ => hf, hf2⟩
def exW (w : World) (L : Int) (A : Option Addr) (c : Nat) (l : List Pk) (s : Int) : World := ((w.alloc (.cells #[.int .i64 L, .slice A l.length c] 24)).alloc (.cells #[.int .i64 s] 3)).alloc (.cells #[.int .i64 0, .slice none 0 0] 24)
theorem exW_size (w : World) (L : Int) (A : Option Addr) (c : Nat) (l : List Pk) (s : Int) : (exW w L A c l s).heap.size = w.heap.size + 3 := by simp [exW]
theorem exW_below (w : World) (L : Int) (A : Option Addr) (c : Nat) (l : List Pk) (s : Int) : Below w.heap.size w (exW w L A c l s) := (((Below.refl _ _).alloc (Nat.le_refl _) _).alloc (by simp) _).alloc (by simp; omega) _
theorem exW_blocks {w w1 : World} {L : Int} {A : Option Addr} {c : Nat} {l : List Pk} {s : Int} (hb : Below (w.heap.size + 3) (exW w L A c l s) w1) :
    w1.heap[w.heap.size]? = some (.cells #[.int .i64 L, .slice A l.length c] 24 (0, 0)) ∧ w1.heap[w.heap.size + 1]? = some (.cells #[.int .i64 s] 3 (0, 0)) ∧ w1.heap[w.heap.size + 2]? = some (.cells #[.int .i64 0, .slice none 0 0] 24 (0, 0)) :=
  ⟨blk_below (blk_old (blk_old (blk_new w _ rfl) _) _) hb (by omega), blk_below (blk_old (blk_new (w.alloc (.cells #[.int .i64 L, .slice A l.length c] 24)) _ (by simp)) _) hb (by omega),
    blk_below (blk_new ((w.alloc (.cells #[.int .i64 L, .slice A l.length c] 24)).alloc (.cells #[.int .i64 s] 3)) _ (by simp)) hb (by omega)⟩
theorem cells24z {w1 : World} {R : Nat} (h : w1.heap[R]? = some (.cells #[.int .i64 0, .slice none 0 0] 24 (0, 0))) : w1.cell? ⟨R, 0, none⟩ = some (.int .i64 0) ∧ w1.cell? ⟨R, 1, none⟩ = some (.slice none 0 0) ∧ w1.frozen? ⟨R, 0, none⟩ = false ∧ w1.frozen? ⟨R, 1, none⟩ = false := ⟨blk_cell h 0, blk_cell h 1, blk_free h 0, blk_free h 1⟩
theorem own_far {α : Type} {enc : α → List Value} {k : Nat} {w w' : World} {base B : Nat} {e : TypeId} {v : Value} {l : List α} {A5 : Option Addr} (h : Own enc k w base e v l) (hlt : ∀ b, v.ownBlock = some b → b < B) (h2 : ∀ b, ob A5 = some b → B ≤ b) (hg : w.grownBy w' (ob A5)) : Own enc k w' base e v l :=
  h.block fun b hb => hg.block b (h.lt hb).2 (fun e => by have := hlt b hb; have := h2 b e.symm; omega)
set_option maxHeartbeats 800000 in
theorem expire_bad (L : Int) (A : Option Addr) (c : Nat) (l : List Pk) (s : Int) (w : World) (hr : PkAt w A c l) (hids : IdsOk l) (h1 : chk L l ≠ 0) :
    Calls Try.prog 42 #[.agg #[.int .i64 L, .slice A l.length c], .int .i64 s] w fun e w' => ExpAns w.heap.size w' e L l s ∧ Below w.heap.size w w' := by
  have HR := Lib.hid hr
  have hu24 := Try.underlying24
  have HW := Lib.hid (exW_below w L A c l s)
  have HIDS := Lib.hid hids
  have H1 := Lib.hid h1
  have b1 : (chk L l != 0) = true := by simp [h1]
  clear hr hids h1
  go_enter Try.func42, Try.ntmps42
  go_wp2_with fail
  refine (check_any L A c l _ (HR.out.row.below HW.out) HIDS.out).mono ?_
  rintro e w1 ⟨rfl, hb1⟩
  have HB1 := Lib.hid (show Below (w.heap.size + 3) (exW w L A c l s) w1 from by have h := hb1; rw [← exW_size w L A c l s]; exact h)
  obtain ⟨B0, B1, B2⟩ := exW_blocks HB1.out
  obtain ⟨q0, q1⟩ := cells24 B0
  obtain ⟨r0, r1, f0, f1⟩ := cells24z B2
  have HX := Lib.hid (show Below w.heap.size w ((w1.setCell ⟨w.heap.size + 2, 0, none⟩ (.int .i64 L)).setCell ⟨w.heap.size + 2, 1, none⟩ (.slice A l.length c)) from ((HW.out.trans (HB1.out.mono (by omega))).setCell (by simp) _).setCell (by simp) _)
  clear hb1 B0 B1 B2
  go_wp2
  refine bodyPost_ret (v := .tuple #[.agg #[.int .i64 L, .slice A l.length c], .slice none 0 0]) (by simp [results, Try.results42, go_sem, r0, r1]) rfl ⟨ExpAns.bad H1.out (HR.out.below HX.out), HX.out⟩
set_option maxHeartbeats 1600000 in
theorem expire_good (L : Int) (A : Option Addr) (c : Nat) (l : List Pk) (s : Int) (w : World) (hr : PkAt w A c l) (hids : IdsOk l) (h1 : chk L l = 0) :
    Calls Try.prog 42 #[.agg #[.int .i64 L, .slice A l.length c], .int .i64 s] w fun e w' => ExpAns w.heap.size w' e L l s ∧ Below w.heap.size w w' := by
  have HR := Lib.hid hr
  have hu24 := Try.underlying24
  have HW := Lib.hid (exW_below w L A c l s)
  have HIDS := Lib.hid hids
  have H1 := Lib.hid h1
  have hck := chk_ok h1
  have HLN := Lib.hid (show l.length * 56 ≤ 140737488355328 by omega)
  have b1 : (chk L l != 0) = false := by simp [h1]
  have k1 : ¬ w.heap.size + 2 = w.heap.size := by omega
  have tok1 : True := trivial
  clear hr hids h1 hck
  go_enter Try.func42, Try.ntmps42
  go_wp2_with fail
  refine (check_any L A c l _ (HR.out.row.below HW.out) HIDS.out).mono ?_
  rintro e w1 ⟨rfl, hb1⟩
  have HB1 := Lib.hid (show Below (w.heap.size + 3) (exW w L A c l s) w1 from by have h := hb1; rw [← exW_size w L A c l s]; exact h)
  have hz1 : w.heap.size + 3 ≤ w1.heap.size := by have := HB1.out.size; rwa [exW_size] at this
  obtain ⟨B0, B1, B2⟩ := exW_blocks HB1.out
  obtain ⟨q0, q1⟩ := cells24 B0
  have BB1 := Lib.hid B1
  clear hb1 B0 B1 B2
  set_option maxRecDepth 100000 in go_wp2_with fail
  have S0 : (fun w' : World => w'.cell? ⟨w.heap.size, 0, none⟩ = some (.int .i64 L) ∧ w'.cell? ⟨w.heap.size, 1, none⟩ = some (.slice A l.length c)) w1.drew := ⟨q0, q1⟩
  set_option maxRecDepth 100000 in
  go_region_held3 (fun w' => w'.cell? ⟨w.heap.size, 0, none⟩ = some (.int .i64 L) ∧ w'.cell? ⟨w.heap.size, 1, none⟩ = some (.slice A l.length c))
    (first | (with_reducible exact S0) | (with_reducible exact ⟨q0, q1⟩) | (refine ⟨?_, ?_⟩ <;> simp only [World.cell?_setCell_far, ne_eq, k1, not_false_eq_true, q0, q1]) | fail)
    (first
    | (go_at_call 75; have _t := tok1; refine (clone_any A c l _ (HR.out.row.below (HW.out.trans ((blw_drewN HB1.out _).mono (by omega)))) HLN.out HR.out.nil).mono ?_; rintro e w3 ⟨v, rfl, hO3, hb3⟩; (have hfm := hO3.form); obtain ⟨A3, c3, rfl, _, _⟩ := hfm; (have HB3 := Lib.hid ((blw_drewN HB1.out _).trans (hb3.mono (by simp; omega)))); (have HO3 := Lib.hid (hO3.lower (base' := w1.heap.size) (by simp))); (have hz3 : w1.heap.size ≤ w3.heap.size := hb3.size); (have BB3 := Lib.hid (exW_blocks HB3.out).2.1); clear q0 q1 hb3 hO3 tok1; (have q0 := (cells24 (exW_blocks HB3.out).1).1); (have q1 := (cells24 (exW_blocks HB3.out).1).2); (have tok2 : True := trivial))
    | (go_at_call 79; have _t := tok2; refine (deleteFunc_pure (staleP s) 85 _ _ _ A3 c3 l _ _ HO3.out BB3.out (by decide) (enters_of Try.func85 (by kernel_rfl) rfl) (exp1_pred _ s)).mono ?_; rintro e w4 ⟨rfl, hO4, hg4⟩; (have HB4 := Lib.hid (HB3.out.grown hg4 (by omega) (fun k e => by have := (HO3.out.lt (b := k) (by rw [ob_eq]; exact e)).1; omega))); (have HO4 := Lib.hid hO4); (have hz4 : w1.heap.size ≤ w4.heap.size := Nat.le_trans hz3 hg4.size); clear q0 q1 hg4 hO4 tok2; (have q0 := (cells24 (exW_blocks HB4.out).1).1); (have q1 := (cells24 (exW_blocks HB4.out).1).2); (have tok3 : True := trivial))
    | (go_at_call 75; have _t := tok3; refine (clone_any A c l _ (HR.out.row.below (HW.out.trans (HB4.out.mono (by omega)))) HLN.out HR.out.nil).mono ?_; rintro e w5 ⟨v, rfl, hO5, hb5⟩; (have hfm := hO5.form); obtain ⟨A5, c5, rfl, _, _⟩ := hfm; (have HB5 := Lib.hid (HB4.out.trans (hb5.mono (by omega)))); (have HO5 := Lib.hid hO5); (have HO45 := Lib.hid (HO4.out.below hb5 (Nat.le_refl _))); (have hz5 : w4.heap.size ≤ w5.heap.size := hb5.size); (have BB5 := Lib.hid (exW_blocks HB5.out).2.1); clear q0 q1 hb5 hO5 tok3; (have q0 := (cells24 (exW_blocks HB5.out).1).1); (have q1 := (cells24 (exW_blocks HB5.out).1).2); (have tok4 : True := trivial))
    | (go_at_call 79; have _t := tok4; refine (deleteFunc_pure (freshP s) 86 _ _ _ A5 c5 l _ _ HO5.out BB5.out (by decide) (enters_of Try.func86 (by kernel_rfl) rfl) (exp2_pred _ s)).mono ?_; rintro e w6 ⟨rfl, hO6, hg6⟩; (have HB6 := Lib.hid (HB5.out.grown hg6 (by omega) (fun k e => by have := (HO5.out.lt (b := k) (by rw [ob_eq]; exact e)).1; omega))); (have HO6 := Lib.hid hO6); (have HO46 := Lib.hid (own_far (B := w4.heap.size) HO45.out (fun b hb => (HO4.out.lt hb).2) (fun b hb => (HO5.out.lt (b := b) (by rw [ob_eq]; exact hb)).1) hg6)); clear q0 q1 hg6 hO6 tok4; (have q0 := (cells24 (exW_blocks HB6.out).1).1); (have q1 := (cells24 (exW_blocks HB6.out).1).2); (have r0 := (cells24z (exW_blocks HB6.out).2.2).1); (have r1 := (cells24z (exW_blocks HB6.out).2.2).2.1); (have f0 := (cells24z (exW_blocks HB6.out).2.2).2.2.1); (have f1 := (cells24z (exW_blocks HB6.out).2.2).2.2.2)))
  set_option maxRecDepth 100000 in go_wp2
  refine bodyPost_ret (v := .tuple #[.agg #[.int .i64 L, .slice A3 (kept (staleP s) l).length c3], .slice A5 (kept (freshP s) l).length c5]) (by simp [results, Try.results42, go_sem, r0, r1]) rfl ⟨ExpAns.good H1.out rfl rfl ?_ ?_ (fun a ha => Nat.le_trans (show w.heap.size ≤ w1.heap.size by omega) (HO46.out.lt (by rw [ha]; rfl)).1) (fun a ha => Nat.le_trans (show w.heap.size ≤ w4.heap.size by omega) (HO6.out.lt (by rw [ha]; rfl)).1), ?_⟩
  · exact ((HO46.out.setBelow (by show w.heap.size + 2 < _; omega) _).setBelow (by show w.heap.size + 2 < _; omega) _).pkAt
  · exact ((HO6.out.setBelow (by show w.heap.size + 2 < _; omega) _).setBelow (by show w.heap.size + 2 < _; omega) _).pkAt
  · exact ((HW.out.trans (HB6.out.mono (by omega))).setCell (by simp; omega) _).setCell (by simp; omega) _
theorem expire_any (L : Int) (A : Option Addr) (c : Nat) (l : List Pk) (s : Int) (w : World) (hr : PkAt w A c l) (hids : IdsOk l) :
    Calls Try.prog 42 #[.agg #[.int .i64 L, .slice A l.length c], .int .i64 s] w fun e w' => ExpAns w.heap.size w' e L l s ∧ Below w.heap.size w w' := by
  by_cases h : chk L l = 0
  · exact expire_good L A c l s w hr hids h
  · exact expire_bad L A c l s w hr hids h
end Go.Proofs.Ytckanomabhbkaaa
