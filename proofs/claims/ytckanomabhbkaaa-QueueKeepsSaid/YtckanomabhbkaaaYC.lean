/- slices.DeleteFunc with a predicate that changes nothing; Expire of the program, walked. -/
import Derived.Test.YtckanomabhbkaaaYA
import Derived.Test.YtckanomabhbkaaaPL
import Derived.Test.YtckanomabhbkaaaQF2
namespace Go.Proofs.Ytckanomabhbkaaa
open Go.RowKit Go.Shelf
set_option linter.unusedVariables false
theorem grownBy_trans {a b c : World} {g : Option Nat} (h1 : a.grownBy b g) (h2 : b.grownBy c g) : a.grownBy c g :=
  ⟨h2.os.trans h1.os, h2.tape.trans h1.tape, h2.output.trans h1.output, Nat.le_trans h1.size h2.size, fun k hk hne => (h2.block k (Nat.lt_of_lt_of_le hk h1.size) hne).trans (h1.block k hk hne)⟩
theorem grownBy_below {a b : World} (h : Below a.heap.size a b) (g : Option Nat) : a.grownBy b g := ⟨h.os, h.tape, h.output, h.size, fun k hk _ => h.block k hk⟩
theorem deleteFunc_pure (p : Pk → Bool) (fn sb : Nat) (v : Value) (t : TypeId) (A : Option Addr) (c : Nat) (l : List Pk) (w : World) (base : Nat) (hO : Own Pk.cells 6 w base 30 (.slice A l.length c) l) (hs : w.heap[sb]? = some (.cells #[v] t (0, 0))) (ht : 30 ≠ t)
    (eg : ∀ args w, (callFunc fn args).run Try.prog w = .ok (.enter fn args) w)
    (hp : ∀ (W : World) (x : Pk), W.heap[sb]? = some (.cells #[v] t (0, 0)) → Calls Try.prog fn #[.agg #[.int .i64 x.id, .int .i64 x.dst, .int .i64 x.pr, .int .i64 x.born, .int .i64 x.life, .string x.data], .pointer (some ⟨sb, 0, none⟩)] W fun e w' => e = .returned (.bool (p x)) ∧ Below W.heap.size W w') :
    Calls Try.prog 79 #[.slice A l.length c, .func (.func fn) #[] #[.pointer (some ⟨sb, 0, none⟩)]] w fun e w' => e = .returned (.slice A (kept p l).length c) ∧ Own Pk.cells 6 w' base 30 (.slice A (kept p l).length c) (kept p l) ∧ w.grownBy w' (ob A) := by
  have hsl := blk_lt hs
  obtain ⟨g, hg1, hg2, hg3, hsg⟩ : ∃ g, (∀ b, ob A = some b → b = g) ∧ (l.length = 0 ∨ g < w.heap.size) ∧ (∀ W : World, w.grownBy W (some g) → w.grownBy W (ob A)) ∧ sb ≠ g := by
    cases A with
    | none =>
      refine ⟨w.heap.size, fun b hb => by simp [ob] at hb, .inl ?_, fun W h => ⟨h.os, h.tape, h.output, h.size, fun k hk _ => h.block k hk (fun e => by cases e; omega)⟩, by omega⟩
      rcases hO.2 with ⟨he, h0⟩ | ⟨g', cap, cur, he, _⟩
      · exact h0
      · cases he
    | some a =>
      have hl := hO.lt (b := a.block) rfl
      exact ⟨a.block, fun b hb => by simp [ob] at hb; exact hb.symm, .inr hl.2, fun W h => h, fun e => hO.ne hs ht (by rw [e]; rfl)⟩
  have hE : EffB fn #[.pointer (some ⟨sb, 0, none⟩)] p l g (fun _ W => w.grownBy W (some g)) := by
    constructor
    · intro k W W1 hk hJ hb
      have hs1 : W1.heap[sb]? = some (.cells #[v] t (0, 0)) := (hb.block sb (Nat.lt_of_lt_of_le hsl hJ.size)).trans ((hJ.block sb hsl (fun e => hsg (by injection e))).trans hs)
      refine (hp W1 (gp l k) hs1).mono ?_
      rintro e w' ⟨rfl, hb2⟩
      refine ⟨rfl, grownBy_trans (grownBy_trans hJ (grownBy_below hb _)) (grownBy_below hb2 _), fun b hbb => hb2.block b ?_⟩
      have := hJ.size
      have := hb.size
      rcases hbb with rfl | ⟨_, h⟩
      · omega
      · exact h
    · intro k W W' hJ hg _
      exact grownBy_trans hJ hg
  refine (deleteFunc_eff p fn _ A c l w base g _ hO hg1 eg hE ⟨rfl, rfl, rfl, Nat.le_refl _, fun _ _ _ => rfl⟩).mono ?_
  rintro e w' ⟨rfl, hO', hJ⟩
  exact ⟨rfl, hO', hg3 w' hJ⟩
set_option maxHeartbeats 800000 in
theorem exp1_pred (sb : Nat) (s : Int) (W : World) (x : Pk) (hs : W.heap[sb]? = some (.cells #[.int .i64 s] 3 (0, 0))) :
    Calls Try.prog 85 #[.agg #[.int .i64 x.id, .int .i64 x.dst, .int .i64 x.pr, .int .i64 x.born, .int .i64 x.life, .string x.data], .pointer (some ⟨sb, 0, none⟩)] W fun e w' => e = .returned (.bool (staleP s x)) ∧ Below W.heap.size W w' := by
  have hc := blk_cell hs 0
  have hl := blk_lt hs
  have hne : ¬ sb = W.heap.size := by omega
  have HB := Lib.hid (show Below W.heap.size W (W.alloc (.cells #[.int .i64 x.id, .int .i64 x.dst, .int .i64 x.pr, .int .i64 x.born, .int .i64 x.life, .string x.data] 30)) from (Below.refl _ _).alloc (Nat.le_refl _) _)
  clear hs
  go_enter Try.func85, Try.ntmps85
  go_wp2_with fail
  refine (stale_any x s _).mono ?_
  rintro e w1 ⟨rfl, hb1⟩
  have HB1 := Lib.hid (HB.out.trans (hb1.mono (by simp)))
  clear hb1
  go_wp2
  go_ret
  exact ⟨rfl, HB1.out⟩
def freshP (s : Int) : Pk → Bool := fun p => !staleB p s
set_option maxHeartbeats 800000 in
theorem exp2_pred (sb : Nat) (s : Int) (W : World) (x : Pk) (hs : W.heap[sb]? = some (.cells #[.int .i64 s] 3 (0, 0))) :
    Calls Try.prog 86 #[.agg #[.int .i64 x.id, .int .i64 x.dst, .int .i64 x.pr, .int .i64 x.born, .int .i64 x.life, .string x.data], .pointer (some ⟨sb, 0, none⟩)] W fun e w' => e = .returned (.bool (freshP s x)) ∧ Below W.heap.size W w' := by
  have hc := blk_cell hs 0
  have hl := blk_lt hs
  have hne : ¬ sb = W.heap.size := by omega
  have HB := Lib.hid (show Below W.heap.size W (W.alloc (.cells #[.int .i64 x.id, .int .i64 x.dst, .int .i64 x.pr, .int .i64 x.born, .int .i64 x.life, .string x.data] 30)) from (Below.refl _ _).alloc (Nat.le_refl _) _)
  clear hs
  go_enter Try.func86, Try.ntmps86
  go_wp2_with fail
  refine (stale_any x s _).mono ?_
  rintro e w1 ⟨rfl, hb1⟩
  have HB1 := Lib.hid (HB.out.trans (hb1.mono (by simp)))
  clear hb1
  go_wp2
  go_ret
  exact ⟨rfl, HB1.out⟩
end Go.Proofs.Ytckanomabhbkaaa
