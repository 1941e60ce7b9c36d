/- A range over an iterator that keeps marks of its own: one law. -/
import Derived.Test.YtckanomabhbkaaaDY
import Derived.RangeFuncNested
import Derived.RangeFuncBound
import Derived.RangeFuncCalls
import Derived.RangeFuncLeaves
import Derived.RangeFuncWrites
namespace Go.Proofs.Ytckanomabhbkaaa
open Go.RowKit Go.Shelf
set_option linter.unusedVariables false
/-- An object that is no part of the call's own row: no cells, or thirty-two marks. -/
def Foreign (o : Obj) : Prop := o.isCells = false ∨ ∃ cur, o = .cells cur 128 (0, 0)
/-- Below m, and of all marks, nothing has turned. -/
structure KeepV (m : Nat) (W W' : World) : Prop where
  bel : Below m W W'
  vis : ∀ (r : Nat) (cur : Array Value), W.heap[r]? = some (.cells cur 128 (0, 0)) → W'.heap[r]? = some (.cells cur 128 (0, 0))
theorem KeepV.trans {m : Nat} {A B C : World} (h : KeepV m A B) (k : KeepV m B C) : KeepV m A C := ⟨h.bel.trans k.bel, fun r cur hr => k.vis r cur (h.vis r cur hr)⟩
theorem KeepV.put {m : Nat} {W : World} {l : Nat} {o : Obj} (h : W.heap[l]? = some o) (ho : o.isCells = false) (hm : m ≤ l) (o' : Obj) : KeepV m W (W.putObj l o') := by
  have hlt := (Array.getElem?_eq_some_iff.1 h).1
  refine ⟨(Below.refl m W).grown (grownBy_putObj' W l o') (by omega) (fun k e => by cases e; exact hm), fun r cur hr => ?_⟩
  have hne : r ≠ l := by
    rintro rfl
    rw [h] at hr
    cases hr
    cases ho
  rw [World.putObj_heap_other hne]; exact hr
/-- What an iterator over numbers promises, one that keeps marks of its own: the numbers of a list come, one by one. -/
def SeqV (P : Program) (gf : Nat) (lb : Array Value) (S : List Int) (m : Nat) (w : World) : Prop :=
  ∀ (n l : Nat) (J : List Int → World → Prop) (W : World), Below m w W →
    (∀ pre A B row, J pre A → A.grownBy B row → (∀ r, row = some r → m ≤ r ∧ ∃ cur, A.heap[r]? = some (.cells cur 128 (0, 0))) → J pre B) →
    (∀ pre x W1, J pre W1 → pre.length < 40 → YieldAt Fence.wide (n - 1) P l #[.int .i64 x] W1 fun e W' => e = .returned (.bool true) ∧ J (pre ++ [x]) W' ∧ KeepV m W1 W') →
    J [] W → CallsIn Fence.wide n P gf (#[.func (.yield l) #[] #[]] ++ lb) W fun e W' => (∃ v, e = .returned v) ∧ J S W'
/-- How a round's body may end. -/
def vPost (m : Nat) (I : List Int → World → Prop) (xs : List Int) (W : World) : Exit → Act → World → Prop
  | .normal, _, W' => KeepsOthers W W' ∧ KeepV m W W' ∧ I xs W'
  | _, _, _ => False
variable {P : Program}
theorem wpIn_range_vis {n : Nat} {g : Operand} {p : Tmp} {assign body : Code} {Q : Exit → Act → World → Prop} {a : Act} {w : World} {gf : Nat} {lb : Array Value} {S : List Int}
    (hg : a.eval g = .func (.func gf) #[] lb) (eg : ∀ args w, (callFunc gf args).run P w = .ok (.enter gf args) w) {m : Nat} (hm : m ≤ w.heap.size) {w0 : World} (hb0 : Below m w0 w) (hseq : SeqV P gf lb S m w0)
    (I : List Int → World → Prop) (hI : ∀ pre A B row, I pre A → A.grownBy B row → (∀ r, row = some r → m ≤ r ∧ ∃ o, A.heap[r]? = some o ∧ Foreign o) → I pre B) (h0 : I [] w) (a₁ : Int → Act)
    (hassign : ∀ (l : Nat) (x : Int) (W : World) (K : Act → World → Prop), K (a₁ x) W → assign.wpIn (Fence.wide.inRound l) (n - 1 - 1) P (Exit.then K (fun _ _ _ => False)) { tmps := a.tmps.setIfInBounds p (.int .i64 x), defers := [] } W)
    (hbody : ∀ (l : Nat) (pre : List Int) (x : Int) (W : World), I pre W → pre.length < 40 → body.wpIn (Fence.wide.inRound l) (n - 1 - 1) P (vPost m I (pre ++ [x]) W) (a₁ x) W)
    (hdone : ∀ (D : Nat) (W : World), I S W → W.heap[D]? = some (.deferred (some [])) → m ≤ D → Q .normal { a with defers := { target := .collected D, args := #[] } :: a.defers } W) :
    (Code.rangeFunc g #[p] assign body).wpIn Fence.wide n P Q a w := by
  refine wpIn_rangeFunc fun fn hfn => ?_
  obtain ⟨rc, hrc⟩ : ∃ rc : LoopState → Loop, rc = fun st => { state := st, pending := none, fn, tmps := a.tmps, params := #[p], assign, body, defers := w.heap.size } := ⟨_, rfl⟩
  -- the deferred calls' block D, the record L
  have hen := run_enterLoop_outer (P := P) (w := w) fn a.tmps #[p] assign body
  obtain ⟨W1, hW1⟩ : ∃ W1, (w.alloc (.deferred (some []))).alloc (.loop (rc .ready)) = W1 := ⟨_, rfl⟩
  have hen' : (Instr.enterLoop fn a.tmps #[p] assign body none).run P w = .ok (w.heap.size + 1, [{ target := .collected w.heap.size, args := #[] }]) W1 := by rw [← hW1, hrc]; exact hen
  have hD1 : W1.heap[w.heap.size]? = some (.deferred (some [])) := by rw [← hW1]; exact blk_old (blk_new w _ rfl) _
  have hL1 : W1.heap[w.heap.size + 1]? = some (.loop (rc .ready)) := by rw [← hW1]; exact blk_new _ _ (by simp)
  have hg1 : w.grownBy W1 none := by rw [← hW1]; exact (World.grownBy_alloc w _ none).trans (World.grownBy_alloc _ _ none)
  have hB1 : Below m w0 W1 := hb0.grown hg1 hm (fun k e => by cases e)
  have hI1 : I [] W1 := hI _ _ _ _ h0 hg1 (fun r e => by cases e)
  obtain ⟨L, hL⟩ : ∃ L, w.heap.size + 1 = L := ⟨_, rfl⟩
  obtain ⟨D, hD⟩ : ∃ D, w.heap.size = D := ⟨_, rfl⟩
  have hmL : m ≤ L := by omega
  have hmD : m ≤ D := by omega
  have hLD : D ≠ L := by omega
  rw [hL] at hen' hL1
  rw [hD] at hen' hD1 hrc
  clear hen hW1
  refine ⟨L, [{ target := .collected D, args := #[] }], W1, { target := .fn (.func gf) lb, args := #[.func (.yield L) #[] #[]] }, W1, gf, #[.func (.yield L) #[] #[]] ++ lb, W1, hen', ?_, fun _ _ => trivial, ?_, fun h => (by cases h), ?_⟩
  · simp only [resolve, hg]
    simp [go_sem]
  · simp [invoke, go_sem, eg]
  refine (hseq (n - 1) L (fun pre W => I pre W ∧ W.heap[L]? = some (.loop (rc .ready)) ∧ W.heap[D]? = some (.deferred (some []))) W1 hB1 ?_ ?_ ⟨hI1, hL1, hD1⟩).mono ?_
  · rintro pre A B row ⟨h1, h2, h3⟩ hgr hrow
    have hk : ∀ {k : Nat} {o : Obj}, A.heap[k]? = some o → o.isCells = false → B.heap[k]? = some o := fun {k o} hk ho => by
      refine (hgr.block k (Array.getElem?_eq_some_iff.1 hk).1 fun e => ?_).trans hk
      obtain ⟨_, cur, hc⟩ := hrow k e.symm
      rw [hk] at hc; cases hc; cases ho
    exact ⟨hI _ _ _ _ h1 hgr (fun r e => ⟨(hrow r e).1, _, (hrow r e).2.choose_spec, .inr ⟨_, rfl⟩⟩), hk h2 rfl, hk h3 rfl⟩
  · rintro pre x W ⟨h1, h2, h3⟩ hlen
    have hy := run_yield (P := P) (args := #[.int .i64 x]) h2 (by rw [hrc]; rfl)
    rw [hrc] at hy
    refine ⟨fn, a.tmps.setIfInBounds p (.int .i64 x), assign, body, by simpa using hy, roundIn_of_wpIn hfn ?_⟩
    have hbusy := run_beginRound (P := P) h2 (by rw [hrc])
    obtain ⟨W2, hW2⟩ : ∃ W2, W.putObj L (.loop { rc .ready with state := .busy }) = W2 := ⟨_, rfl⟩
    rw [hW2] at hbusy
    have hLlt := (Array.getElem?_eq_some_iff.1 h2).1
    have k2 : KeepV m W W2 := by rw [← hW2]; exact KeepV.put h2 rfl hmL _
    have i2 : I pre W2 := by rw [← hW2]; exact hI _ _ _ _ h1 (grownBy_putObj' W L _) (fun r e => by cases e; exact ⟨hmL, _, h2, .inl rfl⟩)
    have l2 : W2.heap[L]? = some (.loop { rc .ready with state := .busy }) := by rw [← hW2]; exact World.putObj_heap_same hLlt
    have d2 : W2.heap[D]? = some (.deferred (some [])) := by rw [← hW2, World.putObj_heap_other hLD]; exact h3
    refine hassign L x W _ ?_
    refine Exists.intro W2 (And.intro hbusy ?_)
    refine wpIn_mono (hbody L pre x W2 i2 hlen) ?_
    intro e a3 W3 hp
    cases e with
    | normal =>
      obtain ⟨ho, k3, i3⟩ := hp
      have l3 := ho.same _ _ l2 rfl
      have d3 := ho.same _ _ d2 rfl
      have hend := run_endRound (P := P) none l3
      have hL3 := (Array.getElem?_eq_some_iff.1 l3).1
      refine ⟨_, _, hend, ?_⟩
      refine And.intro rfl (And.intro (And.intro ?_ (And.intro ?_ ?_)) ((k2.trans k3).trans (KeepV.put l3 rfl hmL _)))
      · exact hI _ _ _ _ i3 (grownBy_putObj' W3 L _) (fun r e => by cases e; exact ⟨hmL, _, l3, .inl rfl⟩)
      · rw [World.putObj_heap_same hL3, hrc]; rfl
      · rw [World.putObj_heap_other hLD]; exact d3
    | ret => exact hp.elim
    | exit id => exact hp.elim
    | goto t => exact hp.elim
    | panic ch => exact hp.elim
    | outgrown => exact hp.elim
  · rintro e W2 ⟨⟨v, rfl⟩, h1, h2, h3⟩
    have hend := run_endLoop (P := P) h2 (by rw [hrc]; simp)
    refine ⟨none, _, by rw [hend, hrc], hdone D _ (hI _ _ _ _ h1 (grownBy_putObj' W2 L _) (fun r e => by cases e; exact ⟨hmL, _, h2, .inl rfl⟩)) (by rw [World.putObj_heap_other hLD]; exact h3) hmD⟩
end Go.Proofs.Ytckanomabhbkaaa
