/- The reference's Serve: what its loops keep. -/
import Derived.Test.YtckanomabhbkaaaYE
import Derived.Test.YtckanomabhbkaaaQV2
import Derived.Test.YtckanomabhbkaaaPL
namespace Go.Proofs.Ytckanomabhbkaaa
open Go.RowKit Go.Shelf
set_option linter.unusedVariables false
/-- A row of packets lies apart from a row of the call's own. -/
def Apart (l : List Pk) (A A9 : Option Addr) : Prop := 0 < l.length → ∀ a, A = some a → ob A9 ≠ some a.block
theorem row_lt {w : World} {a : Addr} {l : List Pk} (h : RowAt Pk.cells 6 w (some a) l) (hl : 0 < l.length) : a.block < w.heap.size := by
  have := cell_lt (RowAt.pkn h hl).1
  rwa [show (a.add (0 * 6)).block = a.block from by unfold Addr.add; split <;> rfl] at this
theorem Apart.app {l : List Pk} {A A9 A8 : Option Addr} {wr : World} {V : Nat} (h : Apart l A A9) (hr : RowAt Pk.cells 6 wr A l) (hV : wr.heap.size ≤ V) (hat : ob A8 = ob A9 ∨ ob A8 = some V) : Apart l A A8 := by
  intro hl a ha e
  subst ha
  rcases hat with h' | h'
  · rw [h'] at e; exact h hl a rfl e
  · rw [h'] at e; have := row_lt hr hl; injection e with e; omega
theorem add_block (a : Addr) (n : Nat) : (a.add n).block = a.block := by unfold Addr.add; split <;> rfl
theorem PkAt.keep {w w1 : World} {A : Option Addr} {c : Nat} {l : List Pk} (h : PkAt w A c l) (hk : 0 < l.length → ∀ a, A = some a → w1.heap[a.block]? = w.heap[a.block]?) : PkAt w1 A c l :=
  ⟨⟨h.row.1, fun hl => by
    obtain ⟨ad, e, hc⟩ := h.row.2 hl
    exact ⟨ad, e, fun i x hx j v hv => (World.cell?_of_block (a := ad.add (i * 6 + j)) (by rw [add_block]; exact hk hl ad e)).trans (hc i x hx j v hv)⟩⟩, h.le, h.cap, h.nil⟩
theorem PkAt.grown {wr V w5 : World} {A A9 : Option Addr} {c : Nat} {l : List Pk} (h : PkAt wr A c l) (hV : Below wr.heap.size wr V) (hg : V.grownBy w5 (ob A9)) (hap : Apart l A A9) : PkAt w5 A c l :=
  h.keep fun hl a ha => by
    subst ha
    have hlt := row_lt h.row hl
    exact (hg.block a.block (Nat.lt_of_lt_of_le hlt hV.size) (fun e => hap hl a rfl e.symm)).trans (hV.block a.block hlt)
def dps (s : Int) (l : List Pk) : List Dp := l.map fun p => ⟨p.id, s, true⟩
theorem dps_gone (s : Int) (l : List Pk) : deps s l = dps s (kept (freshP s) l) := by
  unfold deps dps kept freshP
  congr 2
  funext p
  simp
theorem dps_next {s : Int} {l : List Pk} {j : Nat} (h : j < l.length) : dps s (l.take (j + 1)) = dps s (l.take j) ++ [⟨(gp l j).id, s, true⟩] := by
  unfold dps
  rw [take_next h, List.map_append]; rfl
theorem dps_len (s : Int) (l : List Pk) : (dps s l).length = l.length := by simp [dps]
/-- At the head of a round of the reference's Serve. -/
structure SrI (w : World) (L : Int) (A5 : Option Addr) (c5 : Nat) (m : List Pk) (A9 : Option Addr) (c9 : Nat) (o : List Dp) (W : World) : Prop where
  bel : Below w.heap.size w W
  bq : W.heap[w.heap.size]? = some (.cells #[.int .i64 L, .slice A5 m.length c5] 24 (0, 0))
  br : W.heap[w.heap.size + 1]? = some (.cells #[.int .i64 0, .slice none 0 0] 24 (0, 0))
  row : PkAt W A5 c5 m
  ap : Apart m A5 A9
  far : 0 < m.length → ∀ a, A5 = some a → a.block ≠ w.heap.size ∧ a.block ≠ w.heap.size + 1
  own : Own Dp.cells 3 W (w.heap.size + 2) 46 (.slice A9 o.length c9) o
/-- While the stale ones are written down. -/
structure SrJ (w : World) (L : Int) (A5 : Option Addr) (n5 c5 : Nat) (X : Nat) (A3 : Option Addr) (c3 : Nat) (rest : List Pk) (A4 : Option Addr) (c4 : Nat) (gone : List Pk) (A9 : Option Addr) (c9 : Nat) (o : List Dp) (W : World) : Prop where
  bel : Below w.heap.size w W
  bq : W.heap[w.heap.size]? = some (.cells #[.int .i64 L, .slice A5 n5 c5] 24 (0, 0))
  br : W.heap[w.heap.size + 1]? = some (.cells #[.int .i64 0, .slice none 0 0] 24 (0, 0))
  bx : W.heap[X]? = some (.cells #[.int .i64 L, .slice A3 rest.length c3] 24 (0, 0))
  row3 : PkAt W A3 c3 rest
  row4 : PkAt W A4 c4 gone
  ap3 : Apart rest A3 A9
  ap4 : Apart gone A4 A9
  own : Own Dp.cells 3 W (w.heap.size + 2) 46 (.slice A9 o.length c9) o
theorem own_keep {w V w5 : World} {base : Nat} {v : Value} {o : List Dp} (h : Own Dp.cells 3 w base 46 v o) (hV : Below w.heap.size w V) (hg : V.grownBy w5 v.ownBlock) : ∀ (b : Nat) (cs : Array Value) (t : TypeId), w.heap[b]? = some (.cells cs t (0, 0)) → 46 ≠ t → w5.heap[b]? = some (.cells cs t (0, 0)) := fun b cs t hx ht => by
  have hl := blk_lt hx
  exact (hg.block b (Nat.lt_of_lt_of_le hl hV.size) (fun e => h.ne hx ht e.symm)).trans ((hV.block b hl).trans hx)
theorem SrJ.app {w : World} {L : Int} {A5 A3 A4 A9 A8 : Option Addr} {n5 c5 X c3 c4 c9 c8 : Nat} {rest gone : List Pk} {o o' : List Dp} {wr V w5 : World} (h : SrJ w L A5 n5 c5 X A3 c3 rest A4 c4 gone A9 c9 o wr) (hV : Below wr.heap.size wr V) (hO : Own Dp.cells 3 w5 (w.heap.size + 2) 46 (.slice A8 o'.length c8) o')
    (hg : V.grownBy w5 (Value.slice A9 o.length c9).ownBlock) (hat : (Value.slice A8 o'.length c8).ownBlock = (Value.slice A9 o.length c9).ownBlock ∨ (Value.slice A8 o'.length c8).ownBlock = some V.heap.size) : SrJ w L A5 n5 c5 X A3 c3 rest A4 c4 gone A8 c8 o' w5 := by
  have hk := own_keep h.own hV hg
  have hg' : V.grownBy w5 (ob A9) := by rw [← ob_eq A9 o.length c9]; exact hg
  rw [ob_eq, ob_eq] at hat
  have hw := h.bel.size
  have hb : Below w.heap.size w V := h.bel.trans (hV.mono hw)
  refine ⟨hb.grown hg (Nat.le_trans hw hV.size) (fun b e => by have := (h.own.lt e).1; omega), hk _ _ _ h.bq (by decide), hk _ _ _ h.br (by decide), hk _ _ _ h.bx (by decide), h.row3.grown hV hg' h.ap3, h.row4.grown hV hg' h.ap4, h.ap3.app h.row3.row hV.size hat, h.ap4.app h.row4.row hV.size hat, hO⟩
theorem SrI.app {w : World} {L : Int} {A5 A9 A8 : Option Addr} {c5 c9 c8 : Nat} {m : List Pk} {o o' : List Dp} {wr V w5 : World} (h : SrI w L A5 c5 m A9 c9 o wr) (hV : Below wr.heap.size wr V) (hO : Own Dp.cells 3 w5 (w.heap.size + 2) 46 (.slice A8 o'.length c8) o')
    (hg : V.grownBy w5 (Value.slice A9 o.length c9).ownBlock) (hat : (Value.slice A8 o'.length c8).ownBlock = (Value.slice A9 o.length c9).ownBlock ∨ (Value.slice A8 o'.length c8).ownBlock = some V.heap.size) : SrI w L A5 c5 m A8 c8 o' w5 := by
  have hk := own_keep h.own hV hg
  have hg' : V.grownBy w5 (ob A9) := by rw [← ob_eq A9 o.length c9]; exact hg
  rw [ob_eq, ob_eq] at hat
  have hw := h.bel.size
  have hb : Below w.heap.size w V := h.bel.trans (hV.mono hw)
  exact ⟨hb.grown hg (Nat.le_trans hw hV.size) (fun b e => by have := (h.own.lt e).1; omega), hk _ _ _ h.bq (by decide), hk _ _ _ h.br (by decide), h.row.grown hV hg' h.ap, h.ap.app h.row.row hV.size hat, h.far, hO⟩
theorem SrI.below {w : World} {L : Int} {A5 A9 : Option Addr} {c5 c9 : Nat} {m : List Pk} {o : List Dp} {W W1 : World} (h : SrI w L A5 c5 m A9 c9 o W) (hb : Below W.heap.size W W1) : SrI w L A5 c5 m A9 c9 o W1 :=
  ⟨h.bel.trans (hb.mono h.bel.size), blk_below h.bq hb (blk_lt h.bq), blk_below h.br hb (blk_lt h.br), h.row.below hb, h.ap, h.far, h.own.below hb (Nat.le_refl _)⟩
/-- The queue's variable is set to a row that was made behind the departures' last change. -/
theorem SrI.set {w : World} {L : Int} {A5 A9 A3 : Option Addr} {n5 c5 c9 c3 n : Nat} {rest : List Pk} {o : List Dp} {W : World} (bel : Below w.heap.size w W) (bq : W.heap[w.heap.size]? = some (.cells #[.int .i64 L, .slice A5 n5 c5] 24 (0, 0))) (br : W.heap[w.heap.size + 1]? = some (.cells #[.int .i64 0, .slice none 0 0] 24 (0, 0)))
    (h3 : PkAt W A3 c3 rest) (hap : Apart rest A3 A9) (hfr : Fresh (w.heap.size + 2) A3) (own : Own Dp.cells 3 W (w.heap.size + 2) 46 (.slice A9 o.length c9) o) (hn : n = rest.length) :
    SrI w L A3 c3 rest A9 c9 o ((W.setCell ⟨w.heap.size, 0, none⟩ (.int .i64 L)).setCell ⟨w.heap.size, 1, none⟩ (.slice A3 n c3)) := by
  subst hn
  have e1 := set1_at bq 0 (.int .i64 L)
  have e2 := set1_at e1 1 (.slice A3 rest.length c3)
  have k : ∀ (W : World) (q : Addr) (u : Value) b, b ≠ q.block → (W.setCell q u).heap[b]? = W.heap[b]? := fun W q u b hne => Below.heap_setCell W q u b hne
  refine ⟨(bel.setCell (by simp) _).setCell (by simp) _, e2, ?_, (h3.setFresh hfr (by show w.heap.size < _; omega) _).setFresh hfr (by show w.heap.size < _; omega) _, hap, fun _ a ha => by have := hfr a ha; omega, (own.setCell (fun e => by have := (own.lt e).1; simp at this; omega) _).setCell (fun e => by have := (own.lt e).1; simp at this; omega) _⟩
  rw [k _ _ _ _ (by show w.heap.size + 1 ≠ w.heap.size; omega), k _ _ _ _ (by show w.heap.size + 1 ≠ w.heap.size; omega)]
  exact br
end Go.Proofs.Ytckanomabhbkaaa
