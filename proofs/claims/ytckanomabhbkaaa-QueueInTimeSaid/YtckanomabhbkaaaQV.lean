/- What Serve answers; the program's Serve where it refuses, walked. -/
import Derived.Test.YtckanomabhbkaaaQG
import Derived.Test.YtckanomabhbkaaaQC2
import Derived.Test.YtckanomabhbkaaaQL
namespace Go.Proofs.Ytckanomabhbkaaa
open Go.RowKit Go.Shelf
set_option linter.unusedVariables false

/-- A slice that is read: its address, its capacity, its elements. -/
structure SlAt {α : Type} (enc : α → List Value) (k : Nat) (w : World) (A : Option Addr) (c : Nat) (l : List α) : Prop where
  row : RowAt enc k w A l
  le : l.length ≤ c
  cap : c ≤ 9223372036854775807
  nil : A = none → c = 0
section
variable {α : Type} {enc : α → List Value} {k : Nat}
theorem SlAt.below {w w1 : World} {A : Option Addr} {c : Nat} {l : List α} (h : SlAt enc k w A c l) (hb : Below w.heap.size w w1) : SlAt enc k w1 A c l := ⟨h.row.below hb, h.le, h.cap, h.nil⟩
theorem SlAt.zero (w : World) : SlAt enc k w none 0 [] := ⟨⟨by simp, fun h => by simp at h⟩, by simp, by simp, fun _ => rfl⟩
theorem Own.slAt (hk : ∀ x, (enc x).length = k) {w : World} {base : Nat} {A : Option Addr} {c : Nat} {l : List α} {e : TypeId} (h : Own enc k w base e (.slice A l.length c) l) : SlAt enc k w A c l := by
  obtain ⟨A', c', he, h1, h2, h3⟩ := h.reads hk
  injection he with e1 _ e3
  subst e1 e3
  refine ⟨h3, h1, by unfold maxLen at h2; omega, fun hA => ?_⟩
  subst hA
  rcases h.2 with ⟨e, _⟩ | ⟨g, cap, cur, e, _⟩
  · injection e with _ _ e3
  · cases e
end
def intc (n : Int) : List Value := [.int .i64 n]
theorem intc_len (n : Int) : (intc n).length = 1 := rfl
theorem RowAt.int {w : World} {A : Option Addr} {l : List Int} (h : RowAt intc 1 w A l) (i : Nat) (h1 : i < l.length) : ∃ ad, A = some ad ∧ w.cell? (ad.add i) = some (.int .i64 (l.getD i 0)) := by
  obtain ⟨ad, e, hc⟩ := h.2 (by omega)
  refine ⟨ad, e, ?_⟩
  have := hc i _ (List.getElem?_eq_getElem h1) 0 _ rfl
  rwa [Nat.mul_one, Nat.add_zero, show l[i] = l.getD i 0 from by rw [List.getD_eq_getElem?_getD, List.getElem?_eq_getElem h1]; rfl] at this

def srvStep (s d : Int) (x : List Pk × List Dp) : List Pk × List Dp :=
  if fidx (top d) (kept (staleP s) x.1) < 0 then (kept (staleP s) x.1, x.2 ++ deps s x.1)
  else ((kept (staleP s) x.1).take (fidx (top d) (kept (staleP s) x.1)).toNat ++ (kept (staleP s) x.1).drop ((fidx (top d) (kept (staleP s) x.1)).toNat + 1), x.2 ++ deps s x.1 ++ [⟨(gp (kept (staleP s) x.1) (fidx (top d) (kept (staleP s) x.1))).id, s, false⟩])
def srv (fr : Int) (sv : List Int) (l : List Pk) : Nat → List Pk × List Dp
  | 0 => (l, [])
  | k + 1 => srvStep (fr + k) (sv.getD k 0) (srv fr sv l k)
theorem kept_deps (s : Int) (l : List Pk) : (kept (staleP s) l).length + (deps s l).length = l.length := by
  unfold kept deps staleP
  rw [List.length_map]
  induction l with
  | nil => rfl
  | cons x l ih =>
    simp only [List.filter_cons]
    cases staleB x s <;> simp <;> omega
theorem srvStep_len (s d : Int) (x : List Pk × List Dp) : (srvStep s d x).1.length + (srvStep s d x).2.length = x.1.length + x.2.length := by
  have h1 := kept_deps s x.1
  have h2 := fidx_range (top d) (kept (staleP s) x.1)
  unfold srvStep
  split
  · simp only [List.length_append]; omega
  · simp only [List.length_append, List.length_take, List.length_drop, List.length_cons, List.length_nil]; omega
theorem srv_len (fr : Int) (sv : List Int) (l : List Pk) (k : Nat) : (srv fr sv l k).1.length + (srv fr sv l k).2.length = l.length := by
  induction k with
  | zero => simp [srv]
  | succ k ih => rw [srv, srvStep_len]; exact ih
def serveE (L : Int) (l : List Pk) (fr : Int) (sv : List Int) : Int := if chk L l ≠ 0 then 1 else if fr < 0 ∨ 1099511627776 < fr then 2 else if 4096 < sv.length then 8 else 0
def serveL (L : Int) (l : List Pk) (fr : Int) (sv : List Int) : Int := if serveE L l fr sv = 0 then L else 0
def serveQ (L : Int) (l : List Pk) (fr : Int) (sv : List Int) : List Pk := if serveE L l fr sv = 0 then (srv fr sv l sv.length).1 else []
def serveD (L : Int) (l : List Pk) (fr : Int) (sv : List Int) : List Dp := if serveE L l fr sv = 0 then (srv fr sv l sv.length).2 else []
def ServeAns (w' : World) (e : Ending) (L : Int) (l : List Pk) (fr : Int) (sv : List Int) : Prop :=
  ∃ A c A2 c2, e = .returned (.tuple #[.agg #[.int .i64 (serveL L l fr sv), .slice A (serveQ L l fr sv).length c], .slice A2 (serveD L l fr sv).length c2, .int .i64 (serveE L l fr sv)]) ∧ PkAt w' A c (serveQ L l fr sv) ∧ SlAt Dp.cells 3 w' A2 c2 (serveD L l fr sv)
theorem ServeAns.bad {w' : World} {L : Int} {l : List Pk} {fr : Int} {sv : List Int} {E : Int} (h : serveE L l fr sv = E) (hE : E ≠ 0) : ServeAns w' (.returned (.tuple #[.agg #[.int .i64 0, .slice none 0 0], .slice none 0 0, .int .i64 E])) L l fr sv := by
  have h1 : serveL L l fr sv = 0 := by unfold serveL; rw [if_neg (by rw [h]; exact hE)]
  have h2 : serveQ L l fr sv = [] := by unfold serveQ; rw [if_neg (by rw [h]; exact hE)]
  have h3 : serveD L l fr sv = [] := by unfold serveD; rw [if_neg (by rw [h]; exact hE)]
  refine ⟨none, 0, none, 0, by rw [h, h1, h2, h3]; rfl, ?_, ?_⟩
  · rw [h2]; exact PkAt.zero _
  · rw [h3]; exact SlAt.zero _
theorem ServeAns.good {w' : World} {L : Int} {l : List Pk} {fr : Int} {sv : List Int} (h : serveE L l fr sv = 0) {A A2 : Option Addr} {c c2 : Nat} {Q : List Pk} {D : List Dp} (hQ : Q = (srv fr sv l sv.length).1) (hD : D = (srv fr sv l sv.length).2)
    (h1 : PkAt w' A c Q) (h2 : SlAt Dp.cells 3 w' A2 c2 D) : ServeAns w' (.returned (.tuple #[.agg #[.int .i64 L, .slice A Q.length c], .slice A2 D.length c2, .int .i64 0])) L l fr sv := by
  have e1 : serveL L l fr sv = L := by unfold serveL; rw [if_pos h]
  have e2 : serveQ L l fr sv = Q := by unfold serveQ; rw [if_pos h, hQ]
  have e3 : serveD L l fr sv = D := by unfold serveD; rw [if_pos h, hD]
  exact ⟨A, c, A2, c2, by rw [e1, e2, e3, h], by rw [e2]; exact h1, by rw [e3]; exact h2⟩

/-- The world of Serve behind its head. -/
def srvW (w : World) (L : Int) (A : Option Addr) (c : Nat) (l : List Pk) : World := (w.alloc (.cells #[.int .i64 L, .slice A l.length c] 24)).alloc (.cells #[.int .i64 0, .slice none 0 0] 24)
theorem srvW_below (w : World) (L : Int) (A : Option Addr) (c : Nat) (l : List Pk) : Below w.heap.size w (srvW w L A c l) := ((Below.refl _ _).alloc (Nat.le_refl _) _).alloc (by simp) _
theorem srvW_size (w : World) (L : Int) (A : Option Addr) (c : Nat) (l : List Pk) : (srvW w L A c l).heap.size = w.heap.size + 2 := by simp [srvW]
theorem srvW_blocks {w w1 : World} {L : Int} {A : Option Addr} {c : Nat} {l : List Pk} (hb : Below (w.heap.size + 2) (srvW w L A c l) w1) : w1.heap[w.heap.size]? = some (.cells #[.int .i64 L, .slice A l.length c] 24 (0, 0)) ∧ w1.heap[w.heap.size + 1]? = some (.cells #[.int .i64 0, .slice none 0 0] 24 (0, 0)) :=
  ⟨blk_below (blk_old (blk_new w _ rfl) _) hb (by omega), blk_below (blk_new (w.alloc (.cells #[.int .i64 L, .slice A l.length c] 24)) _ (by simp)) hb (by omega)⟩
theorem srv_cells {w1 : World} {Q : Nat} {L : Int} {A : Option Addr} {n c : Nat} (h : w1.heap[Q]? = some (.cells #[.int .i64 L, .slice A n c] 24 (0, 0)) ∧ w1.heap[Q + 1]? = some (.cells #[.int .i64 0, .slice none 0 0] 24 (0, 0))) : (w1.cell? ⟨Q, 0, none⟩ = some (.int .i64 L) ∧ w1.cell? ⟨Q, 1, none⟩ = some (.slice A n c)) ∧ (w1.cell? ⟨Q + 1, 0, none⟩ = some (.int .i64 0) ∧ w1.cell? ⟨Q + 1, 1, none⟩ = some (.slice none 0 0) ∧ w1.frozen? ⟨Q + 1, 0, none⟩ = false ∧ w1.frozen? ⟨Q + 1, 1, none⟩ = false) :=
  ⟨⟨blk_cell h.1 0, blk_cell h.1 1⟩, blk_cell h.2 0, blk_cell h.2 1, blk_free h.2 0, blk_free h.2 1⟩
set_option maxHeartbeats 1600000 in
theorem serve_arg (L : Int) (A : Option Addr) (c : Nat) (l : List Pk) (fr : Int) (As : Option Addr) (cs : Nat) (sv : List Int) (w : World) (hr : PkAt w A c l) (hids : IdsOk l) (h1 : chk L l ≠ 0) :
    Calls Try.prog 30 #[.agg #[.int .i64 L, .slice A l.length c], .int .i64 fr, .slice As sv.length cs] w fun e w' => ServeAns w' e L l fr sv ∧ Below w.heap.size w w' := by
  have HR := Lib.hid hr
  have HE := Lib.hid (show serveE L l fr sv = 1 by unfold serveE; rw [if_pos h1])
  have b1 : (chk L l != 0) = true := by simp [h1]
  have hu24 := Try.underlying24
  have HW := Lib.hid (srvW_below w L A c l)
  clear hr h1
  go_enter Try.func30, Try.ntmps30
  go_wp2_with fail
  refine (check_any L A c l _ (HR.out.row.below HW.out) hids).mono ?_
  rintro e w1 ⟨rfl, hb1⟩
  have HB1 := Lib.hid (show Below (w.heap.size + 2) (srvW w L A c l) w1 from by have h := hb1; rw [srvW_size] at h; exact h)
  obtain ⟨⟨q0, q1⟩, r0, r1, f0, f1⟩ := srv_cells (srvW_blocks HB1.out)
  clear hb1
  go_wp2
  refine bodyPost_ret (v := .tuple #[.agg #[.int .i64 0, .slice none 0 0], .slice none 0 0, .int .i64 1]) (by simp [results, Try.results30, go_sem, r0, r1]) rfl ⟨ServeAns.bad HE.out (by decide), ?_⟩
  exact ((HW.out.trans (HB1.out.mono (by omega))).setCell (by simp) _).setCell (by simp) _
set_option maxHeartbeats 1600000 in
theorem serve_range (L : Int) (A : Option Addr) (c : Nat) (l : List Pk) (fr : Int) (As : Option Addr) (cs : Nat) (sv : List Int) (w : World) (hr : PkAt w A c l) (hids : IdsOk l) (h1 : chk L l = 0) (h2 : fr < 0 ∨ 1099511627776 < fr) :
    Calls Try.prog 30 #[.agg #[.int .i64 L, .slice A l.length c], .int .i64 fr, .slice As sv.length cs] w fun e w' => ServeAns w' e L l fr sv ∧ Below w.heap.size w w' := by
  have HR := Lib.hid hr
  have HE := Lib.hid (show serveE L l fr sv = 2 by unfold serveE; rw [if_neg (by rw [h1]; simp), if_pos h2])
  have b1 : (chk L l != 0) = false := by simp [h1]
  have b2 : decide (0 ≤ fr ∧ fr ≤ 1099511627776) = false := by simp; omega
  have hu24 := Try.underlying24
  have HW := Lib.hid (srvW_below w L A c l)
  clear hr h1 h2
  go_enter Try.func30, Try.ntmps30
  go_wp2_with fail
  refine (check_any L A c l _ (HR.out.row.below HW.out) hids).mono ?_
  rintro e w1 ⟨rfl, hb1⟩
  have HB1 := Lib.hid (show Below (w.heap.size + 2) (srvW w L A c l) w1 from by have h := hb1; rw [srvW_size] at h; exact h)
  obtain ⟨⟨q0, q1⟩, r0, r1, f0, f1⟩ := srv_cells (srvW_blocks HB1.out)
  clear hb1
  set_option maxRecDepth 100000 in go_wp2_with fail
  refine (within_any fr 0 1099511627776 _).mono ?_
  rintro e w2 ⟨rfl, rfl⟩
  set_option maxRecDepth 100000 in go_wp2
  refine bodyPost_ret (v := .tuple #[.agg #[.int .i64 0, .slice none 0 0], .slice none 0 0, .int .i64 2]) (by simp [results, Try.results30, go_sem, r0, r1]) rfl ⟨ServeAns.bad HE.out (by decide), ?_⟩
  exact ((HW.out.trans (HB1.out.mono (by omega))).setCell (by simp) _).setCell (by simp) _
set_option maxHeartbeats 1600000 in
theorem serve_large (L : Int) (A : Option Addr) (c : Nat) (l : List Pk) (fr : Int) (As : Option Addr) (cs : Nat) (sv : List Int) (w : World) (hr : PkAt w A c l) (hids : IdsOk l) (h1 : chk L l = 0) (h2 : ¬ (fr < 0 ∨ 1099511627776 < fr)) (h3 : 4096 < sv.length) :
    Calls Try.prog 30 #[.agg #[.int .i64 L, .slice A l.length c], .int .i64 fr, .slice As sv.length cs] w fun e w' => ServeAns w' e L l fr sv ∧ Below w.heap.size w w' := by
  have HR := Lib.hid hr
  have HE := Lib.hid (show serveE L l fr sv = 8 by unfold serveE; rw [if_neg (by rw [h1]; simp), if_neg h2, if_pos h3])
  have b1 : (chk L l != 0) = false := by simp [h1]
  have b2 : decide (0 ≤ fr ∧ fr ≤ 1099511627776) = true := by simp; omega
  have b3 : decide ((4096 : Int) < (sv.length : Int)) = true := by simp; omega
  have hu24 := Try.underlying24
  have HW := Lib.hid (srvW_below w L A c l)
  clear hr h1 h2 h3
  go_enter Try.func30, Try.ntmps30
  go_wp2_with fail
  refine (check_any L A c l _ (HR.out.row.below HW.out) hids).mono ?_
  rintro e w1 ⟨rfl, hb1⟩
  have HB1 := Lib.hid (show Below (w.heap.size + 2) (srvW w L A c l) w1 from by have h := hb1; rw [srvW_size] at h; exact h)
  obtain ⟨⟨q0, q1⟩, r0, r1, f0, f1⟩ := srv_cells (srvW_blocks HB1.out)
  clear hb1
  set_option maxRecDepth 100000 in go_wp2_with fail
  refine (within_any fr 0 1099511627776 _).mono ?_
  rintro e w2 ⟨rfl, rfl⟩
  set_option maxRecDepth 100000 in go_wp2
  refine bodyPost_ret (v := .tuple #[.agg #[.int .i64 0, .slice none 0 0], .slice none 0 0, .int .i64 8]) (by simp [results, Try.results30, go_sem, r0, r1]) rfl ⟨ServeAns.bad HE.out (by decide), ?_⟩
  exact ((HW.out.trans (HB1.out.mono (by omega))).setCell (by simp) _).setCell (by simp) _
end Go.Proofs.Ytckanomabhbkaaa
