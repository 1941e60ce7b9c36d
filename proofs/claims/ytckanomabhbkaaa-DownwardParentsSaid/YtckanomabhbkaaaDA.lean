/- Plain words for the laws of reports; their leaf functions, walked. -/
import Derived.Test.YtckanomabhbkaaaQA
import Derived.Test.YtckanomabhbkaaaQOwn
import Derived.Shelf.Abstract
import Derived.IntWalk
namespace Go.Proofs.Ytckanomabhbkaaa
open Go.RowKit
set_option linter.unusedVariables false
structure Rp where
  node : Int
  parent : Int
  num : Int
def Rp.cells (r : Rp) : List Value := [.int .i64 r.node, .int .i64 r.parent, .int .i64 r.num]
def Rp.zero : Rp := ⟨0, 0, 0⟩
theorem Rp.cells_len (r : Rp) : r.cells.length = 3 := rfl
theorem Rp.cells_one (r : Rp) : ∀ u ∈ r.cells, u.oneCell' = true := by
  intro u hu
  simp only [Rp.cells, List.mem_cons, List.not_mem_nil, or_false] at hu
  rcases hu with rfl | rfl | rfl <;> rfl
def gr (l : List Rp) (i : Int) : Rp := l.getD i.toNat Rp.zero
theorem gr_get {l : List Rp} {i : Int} (h0 : 0 ≤ i) (h1 : i < l.length) : l[i.toNat]? = some (gr l i) := by
  unfold gr
  have : i.toNat < l.length := by omega
  rw [List.getD_eq_getElem?_getD, List.getElem?_eq_getElem this]; rfl
theorem gr_elem {l : List Rp} {n : Nat} (h : n < l.length) : gr l (n : Int) = l[n] := by
  simp [gr, List.getD_eq_getElem?_getD, List.getElem?_eq_getElem h]
theorem gr_elem' {l : List Rp} {i : Int} (h0 : 0 ≤ i) (h : i < l.length) : gr l i = l[i.toNat]'(by omega) := by
  have := gr_elem (l := l) (n := i.toNat) (by omega)
  rwa [Int.toNat_of_nonneg h0] at this
theorem RowAt.rp {w : World} {A : Option Addr} {l : List Rp} (h : RowAt Rp.cells 3 w A l) (i : Int) (h0 : 0 ≤ i) (h1 : i < l.length) :
    ∃ ad, A = some ad ∧ w.cell? (ad.add (i.toNat * 3)) = some (.int .i64 (gr l i).node) ∧ w.cell? ⟨(ad.add (i.toNat * 3)).block, (ad.add (i.toNat * 3)).off + 1, none⟩ = some (.int .i64 (gr l i).parent) ∧ w.cell? ⟨(ad.add (i.toNat * 3)).block, (ad.add (i.toNat * 3)).off + 2, none⟩ = some (.int .i64 (gr l i).num) := by
  obtain ⟨ad, e, hc⟩ := h.2 (by omega)
  have hc := hc _ _ (gr_get h0 h1)
  exact ⟨ad, e, hc 0 _ rfl, by rw [← add_field _ _ 1 (by omega)]; exact hc 1 _ rfl, by rw [← add_field _ _ 2 (by omega)]; exact hc 2 _ rfl⟩
theorem RowAt.rpn {w : World} {ad : Addr} {l : List Rp} (h : RowAt Rp.cells 3 w (some ad) l) {i : Nat} (hi : i < l.length) :
    w.cell? (ad.add (i * 3)) = some (.int .i64 (gr l i).node) ∧ w.cell? ⟨(ad.add (i * 3)).block, (ad.add (i * 3)).off + 1, none⟩ = some (.int .i64 (gr l i).parent) ∧ w.cell? ⟨(ad.add (i * 3)).block, (ad.add (i * 3)).off + 2, none⟩ = some (.int .i64 (gr l i).num) := by
  obtain ⟨ad', e', h⟩ := h.rp i (by omega) (by omega)
  cases e'
  rwa [Int.toNat_natCast] at h
/-- A slice that is read: its address, its capacity, its elements. -/
structure RpAt (w : World) (A : Option Addr) (c : Nat) (l : List Rp) : Prop where
  row : RowAt Rp.cells 3 w A l
  le : l.length ≤ c
  cap : c ≤ 9223372036854775807
  nil : A = none → c = 0
theorem RpAt.below {w w1 : World} {A : Option Addr} {c : Nat} {l : List Rp} (h : RpAt w A c l) (hb : Below w.heap.size w w1) : RpAt w1 A c l := ⟨h.row.below hb, h.le, h.cap, h.nil⟩
theorem RpAt.zero (w : World) : RpAt w none 0 [] := ⟨⟨by simp, fun h => by simp at h⟩, by simp, by simp, fun _ => rfl⟩
theorem Own.rpAt {w : World} {base : Nat} {A : Option Addr} {c : Nat} {l : List Rp} {e : TypeId} (h : Own Rp.cells 3 w base e (.slice A l.length c) l) : RpAt w A c l := by
  obtain ⟨A', c', he, h1, h2, h3⟩ := h.reads Rp.cells_len
  injection he with e1 _ e3
  subst e1 e3
  refine ⟨h3, h1, by unfold maxLen at h2; omega, fun hA => ?_⟩
  subst hA
  rcases h.2 with ⟨e, _⟩ | ⟨g, cap, cur, e, _⟩
  · injection e
  · cases e
def nodeB (n : Int) : Bool := decide (0 ≤ n ∧ n < 32)
theorem nodeB_iff {n : Int} : nodeB n = true ↔ 0 ≤ n ∧ n < 32 := by simp [nodeB]
theorem nodeB_no {n : Int} : nodeB n = false ↔ ¬ (0 ≤ n ∧ n < 32) := by rw [← nodeB_iff]; simp
theorem node_any (n : Int) (w : World) : Calls Try.prog 94 #[.int .i64 n] w fun e w' => e = .returned (.bool (nodeB n)) ∧ w = w' := by
  by_cases h0 : 0 ≤ n
  · have b0 : decide (0 ≤ n) = true := by simp [h0]
    have HB := Lib.hid (show decide (n < 32) = nodeB n by unfold nodeB; rw [decide_eq_decide]; omega)
    go_enter Try.func94, Try.ntmps94
    go_wp2
    go_ret
    exact ⟨ret_bool HB.out, rfl⟩
  · have b0 : decide (0 ≤ n) = false := by simp; omega
    have HB := Lib.hid (show false = nodeB n by symm; rw [nodeB_no]; omega)
    go_enter Try.func94, Try.ntmps94
    go_wp2
    go_ret
    exact ⟨ret_bool HB.out, rfl⟩
/-- A report's own error: 0, 1 (ErrArg), 2 (ErrRange). -/
def rform (r : Rp) : Int :=
  if r.node < 1 ∨ 32 ≤ r.node ∨ r.parent < -1 ∨ 32 ≤ r.parent ∨ r.num < 1 ∨ 2147483647 < r.num then 2 else if r.parent = r.node then 1 else 0
set_option maxHeartbeats 800000 in
theorem rreport_any (r : Rp) (w : World) : Calls Try.prog 90 #[.agg #[.int .i64 r.node, .int .i64 r.parent, .int .i64 r.num]] w fun e w' => e = .returned (.int .i64 (rform r)) ∧ Below w.heap.size w w' := by
  have hor : ((r.parent == r.node) = true ∧ Hid (r.parent = r.node)) ∨ ((r.parent == r.node) = false ∧ Hid (¬ r.parent = r.node)) := by
    by_cases h : r.parent = r.node
    · exact .inl ⟨by simp [h], h⟩
    · exact .inr ⟨by simp [h], h⟩
  rcases hor with ⟨b, H⟩ | ⟨b, H⟩
  all_goals
    go_enter Try.func90, Try.ntmps90
    go_wp2
  all_goals
    go_ret
    exact ⟨ret_int (by have := H.out; unfold rform; split <;> (try split) <;> omega), (Below.refl _ _).alloc (Nat.le_refl _) _⟩
set_option maxHeartbeats 1600000 in
theorem rform_any (r : Rp) (w : World) : Calls Try.prog 87 #[.agg #[.int .i64 r.node, .int .i64 r.parent, .int .i64 r.num]] w fun e w' => e = .returned (.int .i64 (rform r)) ∧ Below w.heap.size w w' := by
  have HW := Lib.hid (show Below w.heap.size w (w.alloc (.cells #[.int .i64 r.node, .int .i64 r.parent, .int .i64 r.num] 70)) from (Below.refl _ _).alloc (Nat.le_refl _) _)
  by_cases h1 : nodeB r.node = true
  case neg =>
    have b1 : nodeB r.node = false := by simpa using h1
    have HE := Lib.hid (show 2 = rform r by rw [nodeB_no] at b1; unfold rform; rw [if_pos (by omega)])
    clear h1
    go_enter Try.func87, Try.ntmps87
    go_wp2_with (go_at_call 94; refine (node_any _ _).mono ?_; rintro e w' ⟨rfl, rfl⟩; rw [b1])
    go_ret
    exact ⟨ret_int HE.out, HW.out⟩
  have g1 := nodeB_iff.1 h1
  by_cases h2 : r.node = 0
  · have b2 : (r.node == 0) = true := by simp [h2]
    have HE := Lib.hid (show 2 = rform r by unfold rform; rw [if_pos (by omega)])
    clear h2 g1
    go_enter Try.func87, Try.ntmps87
    go_wp2_with (go_at_call 94; refine (node_any _ _).mono ?_; rintro e w' ⟨rfl, rfl⟩; rw [h1])
    go_ret
    exact ⟨ret_int HE.out, HW.out⟩
  have b2 : (r.node == 0) = false := by simp [h2]
  by_cases h3 : r.parent = -1
  · have b3 : (r.parent != -1) = false := by simp [h3]
    have b6 : (r.parent == r.node) = false := by simp; omega
    have HE := Lib.hid (show rform r = if r.num < 1 ∨ 2147483647 < r.num then 2 else 0 by
      unfold rform
      by_cases h : r.num < 1 ∨ 2147483647 < r.num
      · rw [if_pos (by omega), if_pos h]
      · rw [if_neg (by omega), if_neg h, if_neg (by omega)])
    clear h2 g1 h3
    go_enter Try.func87, Try.ntmps87
    go_wp2_with (go_at_call 94; refine (node_any _ _).mono ?_; rintro e w' ⟨rfl, rfl⟩; rw [h1])
    all_goals
      go_ret
      exact ⟨ret_int (by rw [HE.out]; split <;> omega), HW.out⟩
  have b3 : (r.parent != -1) = true := by simp [h3]
  by_cases h4 : nodeB r.parent = true
  case neg =>
    have b4 : nodeB r.parent = false := by simpa using h4
    have HE := Lib.hid (show 2 = rform r by rw [nodeB_no] at b4; unfold rform; rw [if_pos (by omega)])
    clear h4 h2 g1 h3
    go_enter Try.func87, Try.ntmps87
    go_wp2_with (go_at_call 94; refine (node_any _ _).mono ?_; rintro e w' ⟨rfl, rfl⟩; first | rw [h1] | rw [b4])
    go_ret
    exact ⟨ret_int HE.out, HW.out⟩
  have g4 := nodeB_iff.1 h4
  have HE := Lib.hid (show rform r = if r.num < 1 ∨ 2147483647 < r.num then 2 else if r.parent = r.node then 1 else 0 by
    unfold rform
    by_cases h : r.num < 1 ∨ 2147483647 < r.num
    · rw [if_pos (by omega), if_pos h]
    · rw [if_neg (by omega), if_neg h])
  clear h2 g1 h3 g4
  have hor : ((r.parent == r.node) = true ∧ Hid (r.parent = r.node)) ∨ ((r.parent == r.node) = false ∧ Hid (¬ r.parent = r.node)) := by
    by_cases h : r.parent = r.node
    · exact .inl ⟨by simp [h], h⟩
    · exact .inr ⟨by simp [h], h⟩
  rcases hor with ⟨b, H⟩ | ⟨b, H⟩
  all_goals
    go_enter Try.func87, Try.ntmps87
    go_wp2_with (go_at_call 94; refine (node_any _ _).mono ?_; rintro e w' ⟨rfl, rfl⟩; first | rw [h1] | rw [h4])
  all_goals
    go_ret
    exact ⟨ret_int (by have := H.out; rw [HE.out]; split <;> (try split) <;> omega), HW.out⟩
end Go.Proofs.Ytckanomabhbkaaa
