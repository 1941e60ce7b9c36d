/- Inputs of the law on any order, opened: bytes, pairs of bytes. -/
import Derived.Test.YtckanomabhbkaaaRR
import Derived.OpenShut
namespace Go.Proofs.Ytckanomabhbkaaa
open Go.RowKit Go.Shelf
set_option linter.unusedVariables false
open Go.Deep Go.ChangeShapes Go.WideShapes
def byi (n : Int) : List Value := [.int .u8 n]
def pri (p : Int × Int) : List Value := [.int .u8 p.1, .int .u8 p.2]
theorem byi_len (n : Int) : (byi n).length = 1 := rfl
theorem pri_len (p : Int × Int) : (pri p).length = 2 := rfl
theorem wf_u8 {n : Int} (h : (Lit.int .u8 n).wf = true) : 0 ≤ n ∧ n ≤ 255 := by
  have e1 : IntKind.u8.min = 0 := by decide
  have e2 : IntKind.u8.max = 255 := by decide
  simp [Lit.wf, e1, e2] at h
  exact h
section
variable {H : Type} {enc : TypeId × Value → H} {w : World} {base : Nat} {spare : Nat → Bool} {held : Bool}
theorem open_bytes82 {fuel : Nat} {cs : List Value} {x : DataW H × List MemPlace} (h : DataW.trod enc Try.prog w base spare held fuel 82 cs = some x) : ∃ A c l, cs = [.slice A (l : List Int).length c] ∧ SlAt byi 1 w A c l ∧ ∀ x ∈ l, 0 ≤ x ∧ x ≤ 255 := by
  have hC : Try.prog.cellsOf 5 = 1 := by kernel_rfl
  rcases open_slice1 Try.underlying82 hC h with ⟨rfl, _⟩ | ⟨a, len, cap, m, n, V, D, Pl, rfl, hb, hl, hm, hmm, hx, hi⟩
  · exact ⟨none, 0, [], rfl, SlAt.zero _, by simp⟩
  · have hml : len ≤ m := by rw [hmm]; split <;> omega
    obtain ⟨f, hf⟩ := choose_lt (α := Int) (n := len) (p := fun i k => w.cell? (a.add i) = some (.int .u8 k) ∧ 0 ≤ k ∧ k ≤ 255) (fun i him => by
      obtain ⟨h1, h2⟩ := hi i (by omega)
      obtain ⟨k, hk, _, hw⟩ := DataW.trod_int Try.underlying5 h2
      simp at hk
      exact ⟨k, by rw [h1, hk], wf_u8 hw⟩)
    have hlen : ((List.range len).map f).length = len := by simp
    unfold maxLen at hm
    refine ⟨some a, cap, (List.range len).map f, by rw [hlen], ⟨⟨by rw [hlen]; omega, fun _ => ⟨a, rfl, fun i p hp j v hv => ?_⟩⟩, by rw [hlen]; exact hl, by omega, fun e => by cases e⟩, fun x hx => ?_⟩
    · have hil : i < len := by have := (List.getElem?_eq_some_iff.1 hp).1; rwa [hlen] at this
      have : p = f i := by
        rw [List.getElem?_map, List.getElem?_range hil] at hp
        simpa using hp.symm
      subst this
      match j, hv with
      | 0, hv =>
        simp [byi] at hv
        subst hv
        rw [Nat.mul_one, Nat.add_zero]
        exact (hf i hil).1
      | j + 1, hv => simp [byi] at hv
    · obtain ⟨i, hi', rfl⟩ := List.mem_map.1 hx
      exact (hf i (by simpa using hi')).2
theorem len2' {α : Type} {l : List α} (h : l.length = 2) : ∃ c0 c1, l = [c0, c1] := by
  match l, h with
  | [c0, c1], _ => exact ⟨_, _, rfl⟩
set_option maxRecDepth 100000 in
theorem open_cells86 {fuel : Nat} {cs : List Value} {x : DataW H × List MemPlace} (h : DataW.trod enc Try.prog w base spare held fuel 86 cs = some x) : ∃ p : Int × Int, cs = pri p ∧ (0 ≤ p.1 ∧ p.1 ≤ 255) ∧ 0 ≤ p.2 ∧ p.2 ≤ 255 := by
  obtain ⟨xs, m, _, _, hlen, hxl, hf⟩ := DataW.trod_array Try.underlying86 h
  have hC : Try.prog.cellsOf 86 = 2 := by kernel_rfl
  have k5 : Try.prog.cellsOf 5 = 1 := by kernel_rfl
  rw [hC] at hlen
  obtain ⟨c0, c1, rfl⟩ := len2' hlen
  have h0 : DataW.trod enc Try.prog w base spare held m 5 ((([c0, c1] : List Value).drop (0 * Try.prog.cellsOf 5)).take (Try.prog.cellsOf 5)) = xs[0]? := hf 0 (by decide)
  have h1 : DataW.trod enc Try.prog w base spare held m 5 ((([c0, c1] : List Value).drop (1 * Try.prog.cellsOf 5)).take (Try.prog.cellsOf 5)) = xs[1]? := hf 1 (by decide)
  have hx2 : xs.length = 2 := hxl
  rw [k5] at h0 h1
  obtain ⟨y0, e0⟩ : ∃ y, xs[0]? = some y := ⟨_, List.getElem?_eq_getElem (by rw [hx2]; decide)⟩
  obtain ⟨y1, e1⟩ : ∃ y, xs[1]? = some y := ⟨_, List.getElem?_eq_getElem (by rw [hx2]; decide)⟩
  obtain ⟨n0, g0, _, w0⟩ := DataW.trod_int Try.underlying5 (h0.trans e0)
  obtain ⟨n1, g1, _, w1⟩ := DataW.trod_int Try.underlying5 (h1.trans e1)
  simp at g0 g1
  subst g0 g1
  exact ⟨(n0, n1), rfl, wf_u8 w0, wf_u8 w1⟩
theorem open_pairs81 {fuel : Nat} {cs : List Value} {x : DataW H × List MemPlace} (h : DataW.trod enc Try.prog w base spare held fuel 81 cs = some x) : ∃ A c l, cs = [.slice A (l : List (Int × Int)).length c] ∧ SlAt pri 2 w A c l ∧ ∀ p ∈ l, (0 ≤ p.1 ∧ p.1 ≤ 255) ∧ 0 ≤ p.2 ∧ p.2 ≤ 255 := by
  have hC : Try.prog.cellsOf 86 = 2 := by kernel_rfl
  rcases open_slice Try.underlying81 h with ⟨rfl, _⟩ | ⟨a, len, cap, m, n, D, Pl, rfl, hb, hl, hm, hmm, hx, hi⟩
  · exact ⟨none, 0, [], rfl, SlAt.zero _, by simp⟩
  · rw [hC] at hi
    have hml : len ≤ m := by rw [hmm]; split <;> omega
    obtain ⟨f, hf⟩ := choose_lt (α := Int × Int) (n := len) (p := fun i p => (∀ j v, (pri p)[j]? = some v → w.cell? (a.add (i * 2 + j)) = some v) ∧ (0 ≤ p.1 ∧ p.1 ≤ 255) ∧ 0 ≤ p.2 ∧ p.2 ≤ 255) (fun i him => by
      obtain ⟨cs', h1, h2⟩ := hi i (by omega)
      obtain ⟨p, rfl, hp⟩ := open_cells86 h2
      obtain ⟨_, _, hat⟩ := World.cells?_some h1
      refine ⟨p, fun j v hv => ?_, hp⟩
      have hj : j < 2 := by have := (List.getElem?_eq_some_iff.1 hv).1; rwa [pri_len] at this
      rw [← add_add, hat j hj, hv])
    have hlen : ((List.range len).map f).length = len := by simp
    unfold maxLen at hm
    refine ⟨some a, cap, (List.range len).map f, by rw [hlen], ⟨⟨by rw [hlen]; omega, fun _ => ⟨a, rfl, fun i p hp j v hv => ?_⟩⟩, by rw [hlen]; exact hl, by omega, fun e => by cases e⟩, fun p hp => ?_⟩
    · have hil : i < len := by have := (List.getElem?_eq_some_iff.1 hp).1; rwa [hlen] at this
      have : p = f i := by
        rw [List.getElem?_map, List.getElem?_range hil] at hp
        simpa using hp.symm
      subst this
      exact (hf i hil).1 j v hv
    · obtain ⟨i, hi', rfl⟩ := List.mem_map.1 hp
      exact (hf i (by simpa using hi')).2
set_option maxRecDepth 100000 in
theorem open_sl82 {r : Reach} {b0 : Nat} {v : Value} {d : DataW H} {p : List MemPlace} (hv : Value.okWide Try.prog w r b0 82 v) (h : DataW.Trod enc Try.prog w base spare held 82 v d p) : ∃ A c l, v = .slice A (l : List Int).length c ∧ (SlAt byi 1 w A c l ∧ ∀ x ∈ l, 0 ≤ x ∧ x ≤ 255) := by
  obtain ⟨a, n, m, rfl⟩ := okWide_slice Try.underlying82 hv
  obtain ⟨fuel, h⟩ := h
  obtain ⟨A, c, l, he, hs⟩ := open_bytes82 h
  exact ⟨A, c, l, by simpa [Value.cells] using he, hs⟩
set_option maxRecDepth 100000 in
theorem open_sl81 {r : Reach} {b0 : Nat} {v : Value} {d : DataW H} {p : List MemPlace} (hv : Value.okWide Try.prog w r b0 81 v) (h : DataW.Trod enc Try.prog w base spare held 81 v d p) : ∃ A c l, v = .slice A (l : List (Int × Int)).length c ∧ (SlAt pri 2 w A c l ∧ ∀ p ∈ l, (0 ≤ p.1 ∧ p.1 ≤ 255) ∧ 0 ≤ p.2 ∧ p.2 ≤ 255) := by
  obtain ⟨a, n, m, rfl⟩ := okWide_slice Try.underlying81 hv
  obtain ⟨fuel, h⟩ := h
  obtain ⟨A, c, l, he, hs⟩ := open_pairs81 h
  exact ⟨A, c, l, by simpa [Value.cells] using he, hs⟩
end
end Go.Proofs.Ytckanomabhbkaaa
