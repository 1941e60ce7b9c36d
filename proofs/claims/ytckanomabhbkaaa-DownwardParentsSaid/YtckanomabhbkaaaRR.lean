/- Inputs of the laws on reports, opened: rows of reports, reports, rows of numbers. -/
import Derived.Test.YtckanomabhbkaaaDA
import Derived.Test.YtckanomabhbkaaaDK
import Derived.Deep.Slices
import Derived.Deep.Fields
import Derived.ChangeSame
import Derived.WideShapes
import Derived.ChangeArms
namespace Go.Proofs.Ytckanomabhbkaaa
open Go.RowKit Go.Shelf
set_option linter.unusedVariables false
open Go.Deep Go.ChangeShapes Go.WideShapes
instance : Inhabited Rp := ⟨Rp.zero⟩
theorem len3 {α : Type} {l : List α} (h : l.length = 3) : ∃ c0 c1 c2, l = [c0, c1, c2] := by
  match l, h with
  | [c0, c1, c2], _ => exact ⟨_, _, _, rfl⟩
section
variable {H : Type} {enc : TypeId × Value → H} {w : World} {base : Nat} {spare : Nat → Bool} {held : Bool}
/-- Three cells that read as a report. -/
theorem open_cells70 {fuel : Nat} {cs : List Value} {x : DataW H × List MemPlace} (h : DataW.trod enc Try.prog w base spare held fuel 70 cs = some x) : ∃ p : Rp, cs = p.cells := by
  obtain ⟨ys, n, _, _, hlen, hyl, hf⟩ := DataW.trod_struct Try.underlying70 h
  have hC : Try.prog.cellsOf 70 = 3 := by kernel_rfl
  rw [hC] at hlen
  obtain ⟨c0, c1, c2, rfl⟩ := len3 hlen
  have hy3 : ys.length = 3 := hyl
  have k3 : Try.prog.cellsOf 3 = 1 := by kernel_rfl
  have h0 : DataW.trod enc Try.prog w base spare held n 3 ((([c0, c1, c2] : List Value).drop 0).take (Try.prog.cellsOf 3)) = ys[0]? := hf 0 _ rfl
  rw [k3] at h0
  have h1 : DataW.trod enc Try.prog w base spare held n 3 ((([c0, c1, c2] : List Value).drop 1).take (Try.prog.cellsOf 3)) = ys[1]? := hf 1 _ rfl
  rw [k3] at h1
  have h2 : DataW.trod enc Try.prog w base spare held n 3 ((([c0, c1, c2] : List Value).drop 2).take (Try.prog.cellsOf 3)) = ys[2]? := hf 2 _ rfl
  rw [k3] at h2
  have e : ∀ j, j < 3 → ∃ y, ys[j]? = some y := fun j hj => ⟨_, List.getElem?_eq_getElem (by omega)⟩
  obtain ⟨y0, e0⟩ := e 0 (by omega)
  obtain ⟨y1, e1⟩ := e 1 (by omega)
  obtain ⟨y2, e2⟩ := e 2 (by omega)
  obtain ⟨n0, g0, _, w0⟩ := DataW.trod_int Try.underlying3 (h0.trans e0)
  obtain ⟨n1, g1, _, w1⟩ := DataW.trod_int Try.underlying3 (h1.trans e1)
  obtain ⟨n2, g2, _, w2⟩ := DataW.trod_int Try.underlying3 (h2.trans e2)
  simp at g0 g1 g2
  subst g0 g1 g2
  exact ⟨⟨n0, n1, n2⟩, rfl⟩
theorem open_ints40 {fuel : Nat} {cs : List Value} {x : DataW H × List MemPlace} (h : DataW.trod enc Try.prog w base spare held fuel 40 cs = some x) : ∃ A c l, cs = [.slice A (l : List Int).length c] ∧ SlAt intc 1 w A c l := by
  have hC : Try.prog.cellsOf 3 = 1 := by kernel_rfl
  rcases open_slice1 Try.underlying40 hC h with ⟨rfl, _⟩ | ⟨a, len, cap, m, n, V, D, Pl, rfl, hb, hl, hm, hmm, hx, hi⟩
  · exact ⟨none, 0, [], rfl, SlAt.zero _⟩
  · have hml : len ≤ m := by rw [hmm]; split <;> omega
    obtain ⟨f, hf⟩ := choose_lt (α := Int) (n := len) (p := fun i k => w.cell? (a.add i) = some (.int .i64 k)) (fun i him => by
      obtain ⟨h1, h2⟩ := hi i (by omega)
      obtain ⟨k, hk, _, _⟩ := DataW.trod_int Try.underlying3 h2
      simp at hk
      exact ⟨k, by rw [h1, hk]⟩)
    have hlen : ((List.range len).map f).length = len := by simp
    unfold maxLen at hm
    refine ⟨some a, cap, (List.range len).map f, by rw [hlen], ⟨⟨by rw [hlen]; omega, fun _ => ⟨a, rfl, fun i p hp j v hv => ?_⟩⟩, by rw [hlen]; exact hl, by omega, fun e => by cases e⟩⟩
    have hil : i < len := by have := (List.getElem?_eq_some_iff.1 hp).1; rwa [hlen] at this
    have : p = f i := by
      rw [List.getElem?_map, List.getElem?_range hil] at hp
      simpa using hp.symm
    subst this
    match j, hv with
    | 0, hv =>
      simp [intc] at hv
      subst hv
      rw [Nat.mul_one, Nat.add_zero]
      exact hf i hil
    | j + 1, hv => simp [intc] at hv
theorem open_rps {fuel : Nat} {cs : List Value} {x : DataW H × List MemPlace} (h : DataW.trod enc Try.prog w base spare held fuel 68 cs = some x) : ∃ A c l, cs = [.slice A (l : List Rp).length c] ∧ RpAt w A c l := by
  have hC : Try.prog.cellsOf 70 = 3 := by kernel_rfl
  rcases open_slice Try.underlying68 h with ⟨rfl, _⟩ | ⟨a, len, cap, m, n, D, Pl, rfl, hb, hl, hm, hmm, hx, hi⟩
  · exact ⟨none, 0, [], rfl, RpAt.zero _⟩
  · rw [hC] at hi
    have hml : len ≤ m := by rw [hmm]; split <;> omega
    obtain ⟨f, hf⟩ := choose_lt (α := Rp) (n := len) (p := fun i p => ∀ j v, p.cells[j]? = some v → w.cell? (a.add (i * 3 + j)) = some v) (fun i him => by
      obtain ⟨cs', h1, h2⟩ := hi i (by omega)
      obtain ⟨p, rfl⟩ := open_cells70 h2
      obtain ⟨_, _, hat⟩ := World.cells?_some h1
      refine ⟨p, fun j v hv => ?_⟩
      have hj : j < 3 := by have := (List.getElem?_eq_some_iff.1 hv).1; rwa [Rp.cells_len] at this
      rw [← add_add, hat j hj, hv])
    have hlen : ((List.range len).map f).length = len := by simp
    unfold maxLen at hm
    refine ⟨some a, cap, (List.range len).map f, by rw [hlen], ⟨⟨by rw [hlen]; omega, fun _ => ⟨a, rfl, fun i p hp j v hv => ?_⟩⟩, by rw [hlen]; exact hl, by omega, fun e => by cases e⟩⟩
    have hil : i < len := by have := (List.getElem?_eq_some_iff.1 hp).1; rwa [hlen] at this
    have : p = f i := by
      rw [List.getElem?_map, List.getElem?_range hil] at hp
      simpa using hp.symm
    subst this
    exact hf i hil j v hv
set_option maxRecDepth 100000 in
theorem open_sl40 {r : Reach} {b0 : Nat} {v : Value} {d : DataW H} {p : List MemPlace} (hv : Value.okWide Try.prog w r b0 40 v) (h : DataW.Trod enc Try.prog w base spare held 40 v d p) : ∃ A c l, v = .slice A (l : List Int).length c ∧ SlAt intc 1 w A c l := by
  obtain ⟨a, n, m, rfl⟩ := okWide_slice Try.underlying40 hv
  obtain ⟨fuel, h⟩ := h
  obtain ⟨A, c, l, he, hs⟩ := open_ints40 h
  exact ⟨A, c, l, by simpa [Value.cells] using he, hs⟩
set_option maxRecDepth 100000 in
theorem open_sl68 {r : Reach} {b0 : Nat} {v : Value} {d : DataW H} {p : List MemPlace} (hv : Value.okWide Try.prog w r b0 68 v) (h : DataW.Trod enc Try.prog w base spare held 68 v d p) : ∃ A c l, v = .slice A (l : List Rp).length c ∧ RpAt w A c l := by
  obtain ⟨a, n, m, rfl⟩ := okWide_slice Try.underlying68 hv
  obtain ⟨fuel, h⟩ := h
  obtain ⟨A, c, l, he, hs⟩ := open_rps h
  exact ⟨A, c, l, by simpa [Value.cells] using he, hs⟩
set_option maxRecDepth 100000 in
theorem open_report {r : Reach} {b0 : Nat} {v : Value} {d : DataW H} {p : List MemPlace} (hv : Value.okWide Try.prog w r b0 70 v) (h : DataW.Trod enc Try.prog w base spare held 70 v d p) : ∃ q : Rp, v = .agg #[.int .i64 q.node, .int .i64 q.parent, .int .i64 q.num] := by
  obtain ⟨cs, rfl, hsz⟩ := okWide_struct Try.underlying70 hv
  obtain ⟨fuel, h⟩ := h
  obtain ⟨q, hq⟩ := open_cells70 h
  obtain ⟨cs⟩ := cs
  simp only [Value.cells] at hq
  subst hq
  exact ⟨q, rfl⟩
end
end Go.Proofs.Ytckanomabhbkaaa
