/- The program's route, walked. -/
import Derived.Test.YtckanomabhbkaaaRC
import Derived.Test.YtckanomabhbkaaaDQ
namespace Go.Proofs.Ytckanomabhbkaaa
open Go.RowKit Go.Shelf
set_option linter.unusedVariables false
set_option maxHeartbeats 800000 in
theorem way_any (A : Option Addr) (c : Nat) (l : List Rp) (n : Int) (w : World) :
    Calls Try.prog 114 #[.slice A l.length c, .int .i64 n] w fun e w' => e = .returned (.func (.func 120) #[] #[.pointer (some ⟨w.heap.size + 1, 0, none⟩), .pointer (some ⟨w.heap.size, 0, none⟩)]) ∧ w' = (w.alloc (.cells #[.slice A l.length c] 68)).alloc (.cells #[.int .i64 n] 3) := by
  go_enter Try.func114, Try.ntmps114
  go_wp2
  go_ret
  exact ⟨rfl, rfl⟩
theorem wayF_len (l : List Rp) : ∀ (k : Nat) (n : Int) (vis : List Int), (wayF l k n vis).length ≤ k
  | 0, _, _ => by simp [wayF]
  | k + 1, n, vis => by
    rw [wayF]
    split
    · simp
    · rw [List.length_cons]
      split
      · simp
      · have := wayF_len l k (gr l (rpos l n)).parent (n :: vis)
        omega
theorem routeL_pre (l : List Rp) {n : Int} (hn : nodeB n = true) : ∃ (x : Int) (t : List Int), (wayL l n).reverse = x :: t ∧ routeL l n = if x ≠ 0 ∨ 9 < (x :: t).length then [] else x :: t := by
  obtain ⟨t, ht⟩ := wayL_cons (l := l) hn
  cases hr : (wayL l n).reverse with
  | nil => rw [ht] at hr; simp at hr
  | cons x t' =>
    refine ⟨x, t', rfl, ?_⟩
    unfold routeL
    rw [hr]
    by_cases h : x ≠ 0 ∨ 9 < (x :: t').length
    · rw [if_pos h, if_pos (.inr (by simpa using h))]
    · rw [if_neg h, if_neg]
      rintro (h1 | h1)
      · cases h1
      · exact h (by simpa using h1)
/-- A slice of numbers that is the call's own. -/
structure IntsAt (B : Nat) (w : World) (A : Option Addr) (c : Nat) (l : List Int) : Prop where
  at_ : SlAt intc 1 w A c l
  fresh : FreshR B A
  nil : A = none ↔ l = []
theorem IntsAt.below {B : Nat} {w w1 : World} {A : Option Addr} {c : Nat} {l : List Int} (h : IntsAt B w A c l) (hb : Below w.heap.size w w1) : IntsAt B w1 A c l := ⟨h.at_.below hb, h.fresh, h.nil⟩
theorem IntsAt.zero (B : Nat) (w : World) : IntsAt B w none 0 [] := ⟨SlAt.zero w, (fun a h => by cases h), by simp⟩
theorem own_ptr {α : Type} {enc : α → List Value} {k N c base : Nat} {w : World} {e : TypeId} {A : Option Addr} {l : List α} (h : Own enc k w base e (.slice A N c) l) (h0 : (0 : Int) < N) : ∃ g, A = some ⟨g, 0, none⟩ := by
  rcases h.2 with ⟨e, _⟩ | ⟨g, cap, cur, e, _⟩
  · cases e; simp at h0
  · cases e; exact ⟨g, rfl⟩
theorem own_head {w : World} {base g c N : Nat} {e : TypeId} {m t : List Int} {x : Int} (h : Own intc 1 w base e (.slice (some ⟨g, 0, none⟩) N c) m) (hm : m = x :: t) : w.cell? ⟨g, 0, none⟩ = some (.int .i64 x) := by
  have hl : N = m.length := by
    obtain ⟨A', c', e', _⟩ := h.form
    cases e'; rfl
  subst hl
  exact own_cell1 (v := inv) h 0 x (by rw [hm]; rfl)
set_option maxHeartbeats 3200000 in
theorem route_any (A : Option Addr) (c : Nat) (l : List Rp) (n : Int) (w : World) (hr : RpAt w A c l) (hok : Rok l) (hn : nodeB n = true) :
    Calls Try.prog 101 #[.slice A l.length c, .int .i64 n] w fun e w' => ∃ A2 c2, e = .returned (.slice A2 (routeL l n).length c2) ∧ IntsAt w.heap.size w' A2 c2 (routeL l n) ∧ Below w.heap.size w w' := by
  have hb2 : Below w.heap.size w ((w.alloc (.cells #[.slice A l.length c] 68)).alloc (.cells #[.int .i64 n] 3)) := ((Below.refl _ w).alloc (Nat.le_refl _) _).alloc (by simp) _
  obtain ⟨w2, hw2⟩ : ∃ w2, (w.alloc (.cells #[.slice A l.length c] 68)).alloc (.cells #[.int .i64 n] 3) = w2 := ⟨_, rfl⟩
  have hf : w2.cell? ⟨w.heap.size + 1, 0, none⟩ = some (.int .i64 n) := by rw [← hw2]; exact blk_cell (blk_new _ _ (by simp)) 0
  have hl : w2.cell? ⟨w.heap.size, 0, none⟩ = some (.slice A l.length c) := by rw [← hw2]; exact blk_cell (blk_old (blk_new w _ rfl) _) 0
  rw [hw2] at hb2
  have HC := Lib.hid (collect_any 120 _ (enters_of Try.func120 (by kernel_rfl) rfl) (wayL l n) w2 (way_seq A c l n _ _ w2 (hr.below hb2) hok hf hl))
  have HWY := Lib.hid (show Calls Try.prog 114 #[.slice A l.length c, .int .i64 n] w fun e w' => e = .returned (.func (.func 120) #[] #[.pointer (some ⟨w.heap.size + 1, 0, none⟩), .pointer (some ⟨w.heap.size, 0, none⟩)]) ∧ w' = w2 by rw [← hw2]; exact way_any A c l n w)
  obtain ⟨x, t, hx, hrt⟩ := routeL_pre l hn
  have HX := Lib.hid hx
  have HRT := Lib.hid hrt
  have hWl : (wayL l n).length = t.length + 1 := by rw [← List.length_reverse, hx]; rfl
  have HB2 := Lib.hid hb2
  have hw32 : (wayL l n).length ≤ 140737488355328 := by have : (wayL l n).length ≤ 33 := wayF_len l 33 n []; omega
  obtain ⟨S, hS⟩ : ∃ S, wayL l n = S := ⟨_, rfl⟩
  rw [hS] at HC HX hWl hw32
  have hN : S.length = t.length + 1 := hWl
  obtain ⟨N, hNN⟩ : ∃ N, S.length = N := ⟨_, rfl⟩
  have HN := Lib.hid hNN
  rw [hNN] at hN hw32 HC
  have n1 : ((N : Int) == 0) = false := beq_eq_false_iff_ne.2 (by omega)
  have n1' : (N == 0) = false := beq_eq_false_iff_ne.2 (by omega)
  have g0 : (0 : Int) < N := by omega
  have HT := Lib.hid hN
  clear hr hok hn hb2 hw2 hf hl hx hrt hS hWl hNN hN
  have hor : (Hid (x ≠ 0) ∧ (x != 0) = true) ∨ (Hid (x = 0) ∧ (x != 0) = false ∧ Hid (9 < N) ∧ decide ((9 : Int) < N) = true ∧ decide (9 < N) = true) ∨ (Hid (x = 0) ∧ (x != 0) = false ∧ Hid (¬ 9 < N) ∧ decide ((9 : Int) < N) = false ∧ decide (9 < N) = false) := by
    by_cases h1 : x = 0
    · right
      by_cases h2 : 9 < N
      · left; exact ⟨h1, by simp [h1], h2, by simp; omega, by simp; omega⟩
      · right; exact ⟨h1, by simp [h1], h2, by simp; omega, by simp; omega⟩
    · left; exact ⟨h1, by simp [h1]⟩
  rcases hor with ⟨K1, b1⟩ | ⟨K1, b1, K2, b2, b2'⟩ | ⟨K1, b1, K2, b2, b2'⟩
  case inl => have HE := Lib.hid (show routeL l n = [] by rw [HRT.out, if_pos (.inl K1.out)]); go_enter Try.func101, Try.ntmps101; go_wp2_with (first | (go_at_call 114; refine HWY.out.mono ?_; rintro e w' ⟨rfl, rfl⟩) | (go_at_call 113; refine HC.out.mono ?_; rintro e w3 ⟨A3, c3, rfl, hO3, hb3⟩; obtain ⟨g, rfl⟩ := own_ptr hO3 g0; (have HO3 := Lib.hid hO3); (have HB3 := Lib.hid (HB2.out.trans (hb3.mono HB2.out.size))); clear hO3 hb3) | (go_at_call 115; refine (reverse_any g c3 N S w3 _ HN.out HO3.out hw32).mono ?_; rintro e w4 ⟨⟨v4, rfl⟩, hO4, hg4⟩; (have q0 : w4.cell? ⟨g, 0, none⟩ = some (.int .i64 x) := own_head hO4 HX.out); (have HO4 := Lib.hid hO4); (have HB4 := Lib.hid (HB3.out.grown hg4 HB3.out.size (fun k e => by cases e; exact Nat.le_trans HB2.out.size (own_free1 HO3.out 0).2))); clear hO4 hg4)); go_ret; exact ⟨none, 0, by rw [HE.out]; rfl, by rw [HE.out]; exact IntsAt.zero _ _, HB4.out⟩
  case inr.inl => have HE := Lib.hid (show routeL l n = [] by rw [HRT.out, if_pos (.inr (by have := HT.out; have := K2.out; simp; omega))]); go_enter Try.func101, Try.ntmps101; go_wp2_with (first | (go_at_call 114; refine HWY.out.mono ?_; rintro e w' ⟨rfl, rfl⟩) | (go_at_call 113; refine HC.out.mono ?_; rintro e w3 ⟨A3, c3, rfl, hO3, hb3⟩; obtain ⟨g, rfl⟩ := own_ptr hO3 g0; (have HO3 := Lib.hid hO3); (have HB3 := Lib.hid (HB2.out.trans (hb3.mono HB2.out.size))); clear hO3 hb3) | (go_at_call 115; refine (reverse_any g c3 N S w3 _ HN.out HO3.out hw32).mono ?_; rintro e w4 ⟨⟨v4, rfl⟩, hO4, hg4⟩; (have q0 : w4.cell? ⟨g, 0, none⟩ = some (.int .i64 x) := own_head hO4 HX.out); (have HO4 := Lib.hid hO4); (have HB4 := Lib.hid (HB3.out.grown hg4 HB3.out.size (fun k e => by cases e; exact Nat.le_trans HB2.out.size (own_free1 HO3.out 0).2))); clear hO4 hg4)); go_ret; exact ⟨none, 0, by rw [HE.out]; rfl, by rw [HE.out]; exact IntsAt.zero _ _, HB4.out⟩
  case inr.inr => have HE := Lib.hid (show routeL l n = S.reverse by rw [HRT.out, if_neg (by rintro (h | h); exact h K1.out; exact K2.out (by have := HT.out; simp at h; omega)), HX.out]); go_enter Try.func101, Try.ntmps101; go_wp2_with (first | (go_at_call 114; refine HWY.out.mono ?_; rintro e w' ⟨rfl, rfl⟩) | (go_at_call 113; refine HC.out.mono ?_; rintro e w3 ⟨A3, c3, rfl, hO3, hb3⟩; obtain ⟨g, rfl⟩ := own_ptr hO3 g0; (have HO3 := Lib.hid hO3); (have HB3 := Lib.hid (HB2.out.trans (hb3.mono HB2.out.size))); clear hO3 hb3) | (go_at_call 115; refine (reverse_any g c3 N S w3 _ HN.out HO3.out hw32).mono ?_; rintro e w4 ⟨⟨v4, rfl⟩, hO4, hg4⟩; (have q0 : w4.cell? ⟨g, 0, none⟩ = some (.int .i64 x) := own_head hO4 HX.out); (have HO4 := Lib.hid hO4); (have HB4 := Lib.hid (HB3.out.grown hg4 HB3.out.size (fun k e => by cases e; exact Nat.le_trans HB2.out.size (own_free1 HO3.out 0).2))); clear hO4 hg4)); go_ret; (have hO := HO4.out); (have hlen : S.reverse.length = N := by rw [List.length_reverse]; exact HN.out); rw [← hlen] at hO; exact ⟨some ⟨g, 0, none⟩, c3, by rw [HE.out, hlen]; rfl, by rw [HE.out]; exact ⟨hO.slAt intc_len, hO.freshR HB2.out.size, by rw [HX.out]; simp⟩, HB4.out⟩
end Go.Proofs.Ytckanomabhbkaaa
