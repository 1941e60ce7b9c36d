/- What the queue's functions answer, in plain words. -/
import Derived.Test.YtckanomabhbkaaaQOwn
namespace Go.Proofs.Ytckanomabhbkaaa
open Go.RowKit
set_option linter.unusedVariables false

/-- A slice of packets that is read: its address, its capacity, its elements. -/
structure PkAt (w : World) (A : Option Addr) (c : Nat) (l : List Pk) : Prop where
  row : RowAt Pk.cells 6 w A l
  le : l.length ≤ c
  cap : c ≤ 9223372036854775807
  nil : A = none → c = 0
theorem PkAt.below {w w1 : World} {A : Option Addr} {c : Nat} {l : List Pk} (h : PkAt w A c l) (hb : Below w.heap.size w w1) : PkAt w1 A c l := ⟨h.row.below hb, h.le, h.cap, h.nil⟩
theorem PkAt.zero (w : World) : PkAt w none 0 [] := ⟨⟨by simp, fun h => by simp at h⟩, by simp, by simp, fun _ => rfl⟩
theorem Own.pk {w : World} {base : Nat} {v : Value} {l : List Pk} {e : TypeId} (h : Own Pk.cells 6 w base e v l) : ∃ A c, v = .slice A l.length c ∧ PkAt w A c l := by
  obtain ⟨A, c, rfl, h1, h2, h3⟩ := h.reads Pk.cells_len
  refine ⟨A, c, rfl, ⟨h3, h1, by unfold maxLen at h2; omega, fun hA => ?_⟩⟩
  subst hA
  rcases h.2 with ⟨e, _⟩ | ⟨g, cap, cur, e, _⟩
  · injection e with _ _ e3
  · cases e
theorem Own.pkAt {w : World} {base : Nat} {A : Option Addr} {c : Nat} {l : List Pk} {e : TypeId} (h : Own Pk.cells 6 w base e (.slice A l.length c) l) : PkAt w A c l := by
  obtain ⟨A', c', he, hp⟩ := h.pk
  injection he with e1 _ e3
  subst e1 e3
  exact hp
theorem Own.cut {w : World} {base : Nat} {A : Option Addr} {c : Nat} {l : List Pk} {e : TypeId} (h : Own Pk.cells 6 w base e (.slice A l.length c) l) (hpos : 0 < l.length) (m : Nat) (hm : m ≤ l.length) : Own Pk.cells 6 w base e (.slice A (l.take m).length c) (l.take m) := by
  have hml : (l.take m).length = m := by rw [List.length_take]; omega
  rcases h.2 with ⟨he, h0⟩ | ⟨g, cap, cur, he, hb, hg, hn, hc, hcs, ht⟩
  · omega
  · injection he with e1 e2 e3
    subst e1 e3
    refine ⟨by rw [flat_len Pk.cells_len], .inr ⟨g, c, cur, rfl, hb, hg, by omega, hc, hcs, ?_⟩⟩
    have hF : ((l.take m).flatMap Pk.cells).length = m * 6 := by rw [flat_len Pk.cells_len, hml]
    have h2 := congrArg (List.flatMap Pk.cells) (List.take_append_drop m l)
    rw [List.flatMap_append, ← ht] at h2
    have h3 := congrArg (List.take (m * 6)) h2
    rw [List.take_append_of_le_length (by omega), List.take_of_length_le (l := (l.take m).flatMap Pk.cells) (by omega), List.take_take, Nat.min_eq_left (by omega)] at h3
    rw [hml]; exact h3.symm
/-- A store into a block below the base leaves an own row. -/
theorem Own.setBelow {w : World} {base : Nat} {A : Option Addr} {c : Nat} {l : List Pk} {e : TypeId} (h : Own Pk.cells 6 w base e (.slice A l.length c) l) {q : Addr} (hq : q.block < base) (u : Value) : Own Pk.cells 6 (w.setCell q u) base e (.slice A l.length c) l :=
  h.setCell (fun e => by have := (h.lt e).1; omega) u

def top (tt : Int) : Pk → Bool := fun p => p.dst == tt
def abovep (pr : Int) : Pk → Bool := fun p => decide (pr < p.pr)
/-- Where a packet of this priority comes. -/
def insPos (pr : Int) (l : List Pk) : Nat := if fidx (abovep pr) l < 0 then l.length else (fidx (abovep pr) l).toNat
def ins (l : List Pk) (p : Pk) : List Pk := l.take (insPos p.pr l) ++ p :: l.drop (insPos p.pr l)
theorem insPos_le (pr : Int) (l : List Pk) : insPos pr l ≤ l.length := by
  have := fidx_range (abovep pr) l
  unfold insPos; split <;> omega
def lastPk (l : List Pk) : Pk := gp l ((l.length : Int) - 1)
/-- The error of Put. -/
def putE (L : Int) (l : List Pk) (p : Pk) : Int :=
  if chk L l ≠ 0 then 1 else if pform p ≠ 0 then pform p else if 0 ≤ idx l p.id then 6 else if (l.length : Int) = L ∧ (lastPk l).pr ≤ p.pr then 13 else 0
def putL (L : Int) (l : List Pk) (p : Pk) : Int := if putE L l p = 0 then L else 0
def putQ (L : Int) (l : List Pk) (p : Pk) : List Pk := if putE L l p = 0 then (if (l.length : Int) = L then ins l.dropLast p else ins l p) else []
def putG (L : Int) (l : List Pk) (p : Pk) : List Pk := if putE L l p = 0 then (if (l.length : Int) = L then [lastPk l] else []) else []
theorem chk_ok {L : Int} {l : List Pk} (h : chk L l = 0) : 1 ≤ L ∧ L ≤ 64 ∧ (l.length : Int) ≤ L := by
  unfold chk at h
  by_cases h1 : L < 1 ∨ 64 < L
  · rw [if_pos h1] at h; cases h
  · rw [if_neg h1] at h
    by_cases h2 : L < l.length
    · rw [if_pos h2] at h; cases h
    · omega
/-- A row of the call's own. -/
def Fresh (B : Nat) (A : Option Addr) : Prop := ∀ a, A = some a → B ≤ a.block
theorem Own.fresh {α : Type} {enc : α → List Value} {k n c base B : Nat} {w : World} {A : Option Addr} {l : List α} {e : TypeId} (h : Own enc k w base e (.slice A n c) l) (hB : B ≤ base) : Fresh B A := by
  rintro a rfl
  exact Nat.le_trans hB (h.lt rfl).1
/-- The answer of Put. -/
def PutAns (B : Nat) (w' : World) (e : Ending) (L : Int) (l : List Pk) (p : Pk) : Prop :=
  ∃ A c A2 c2, e = .returned (.tuple #[.agg #[.int .i64 (putL L l p), .slice A (putQ L l p).length c], .slice A2 (putG L l p).length c2, .int .i64 (putE L l p)]) ∧ PkAt w' A c (putQ L l p) ∧ PkAt w' A2 c2 (putG L l p) ∧ Fresh B A ∧ Fresh B A2
theorem PutAns.bad {B : Nat} {w' : World} {L : Int} {l : List Pk} {p : Pk} {E : Int} (h : putE L l p = E) (hE : E ≠ 0) : PutAns B w' (.returned (.tuple #[.agg #[.int .i64 0, .slice none 0 0], .slice none 0 0, .int .i64 E])) L l p := by
  have h1 : putL L l p = 0 := by unfold putL; rw [if_neg (by rw [h]; exact hE)]
  have h2 : putQ L l p = [] := by unfold putQ; rw [if_neg (by rw [h]; exact hE)]
  have h3 : putG L l p = [] := by unfold putG; rw [if_neg (by rw [h]; exact hE)]
  refine ⟨none, 0, none, 0, by rw [h, h1, h2, h3]; rfl, ?_, ?_, (fun a h => by cases h), (fun a h => by cases h)⟩
  · rw [h2]; exact PkAt.zero _
  · rw [h3]; exact PkAt.zero _
theorem PutAns.good {B : Nat} {w' : World} {L : Int} {l : List Pk} {p : Pk} (h : putE L l p = 0) {A A2 : Option Addr} {c c2 : Nat} {Q G : List Pk} (hQ : Q = if (l.length : Int) = L then ins l.dropLast p else ins l p) (hG : G = if (l.length : Int) = L then [lastPk l] else [])
    (h1 : PkAt w' A c Q) (h2 : PkAt w' A2 c2 G) (hf : Fresh B A) (hf2 : Fresh B A2) : PutAns B w' (.returned (.tuple #[.agg #[.int .i64 L, .slice A Q.length c], .slice A2 G.length c2, .int .i64 0])) L l p := by
  have e1 : putL L l p = L := by unfold putL; rw [if_pos h]
  have e2 : putQ L l p = Q := by unfold putQ; rw [if_pos h, hQ]
  have e3 : putG L l p = G := by unfold putG; rw [if_pos h, hG]
  exact ⟨A, c, A2, c2, by rw [e1, e2, e3, h], by rw [e2]; exact h1, by rw [e3]; exact h2, hf, hf2⟩
end Go.Proofs.Ytckanomabhbkaaa
