/- The laws' inputs, opened to packets: a packet, a row of packets, a queue, a row of numbers. -/
import Derived.Test.YtckanomabhbkaaaQV
import Derived.Test.YtckanomabhbkaaaQC2
import Derived.Deep.Slices
import Derived.Deep.Fields
import Derived.ChangeSame
import Derived.WideShapes
import Derived.ChangeArms
namespace Go.Proofs.Ytckanomabhbkaaa
open Go.RowKit Go.Deep Go.ChangeShapes Go.WideShapes
set_option linter.unusedVariables false
instance : Inhabited Pk := ⟨Pk.zero⟩
theorem len6 {α : Type} {l : List α} (h : l.length = 6) : ∃ c0 c1 c2 c3 c4 c5, l = [c0, c1, c2, c3, c4, c5] := by
  match l, h with
  | [c0, c1, c2, c3, c4, c5], _ => exact ⟨_, _, _, _, _, _, rfl⟩
theorem len2 {α : Type} {l : List α} (h : l.length = 2) : ∃ c0 c1, l = [c0, c1] := by
  match l, h with
  | [c0, c1], _ => exact ⟨_, _, rfl⟩
section
variable {H : Type} {enc : TypeId × Value → H} {w : World} {base : Nat} {spare : Nat → Bool} {held : Bool}
/-- Six cells that read as a packet. -/
theorem open_cells30 {fuel : Nat} {cs : List Value} {x : DataW H × List MemPlace} (h : DataW.trod enc Try.prog w base spare held fuel 30 cs = some x) : ∃ p : Pk, cs = p.cells ∧ (Lit.int .i64 p.id).wf = true := by
  obtain ⟨ys, n, _, _, hlen, hyl, hf⟩ := DataW.trod_struct Try.underlying30 h
  have hC : Try.prog.cellsOf 30 = 6 := by kernel_rfl
  rw [hC] at hlen
  obtain ⟨c0, c1, c2, c3, c4, c5, rfl⟩ := len6 hlen
  · have hy6 : ys.length = 6 := hyl
    have k3 : Try.prog.cellsOf 3 = 1 := by kernel_rfl
    have k9 : Try.prog.cellsOf 9 = 1 := by kernel_rfl
    have h0 : DataW.trod enc Try.prog w base spare held n 3 ((([c0, c1, c2, c3, c4, c5] : List Value).drop 0).take (Try.prog.cellsOf 3)) = ys[0]? := hf 0 _ rfl
    rw [k3] at h0
    have h1 : DataW.trod enc Try.prog w base spare held n 3 ((([c0, c1, c2, c3, c4, c5] : List Value).drop 1).take (Try.prog.cellsOf 3)) = ys[1]? := hf 1 _ rfl
    rw [k3] at h1
    have h2 : DataW.trod enc Try.prog w base spare held n 3 ((([c0, c1, c2, c3, c4, c5] : List Value).drop 2).take (Try.prog.cellsOf 3)) = ys[2]? := hf 2 _ rfl
    rw [k3] at h2
    have h3 : DataW.trod enc Try.prog w base spare held n 3 ((([c0, c1, c2, c3, c4, c5] : List Value).drop 3).take (Try.prog.cellsOf 3)) = ys[3]? := hf 3 _ rfl
    rw [k3] at h3
    have h4 : DataW.trod enc Try.prog w base spare held n 3 ((([c0, c1, c2, c3, c4, c5] : List Value).drop 4).take (Try.prog.cellsOf 3)) = ys[4]? := hf 4 _ rfl
    rw [k3] at h4
    have h5 : DataW.trod enc Try.prog w base spare held n 9 ((([c0, c1, c2, c3, c4, c5] : List Value).drop 5).take (Try.prog.cellsOf 9)) = ys[5]? := hf 5 _ rfl
    rw [k9] at h5
    have e : ∀ j, j < 6 → ∃ y, ys[j]? = some y := fun j hj => ⟨_, List.getElem?_eq_getElem (by omega)⟩
    obtain ⟨y0, e0⟩ := e 0 (by omega)
    obtain ⟨y1, e1⟩ := e 1 (by omega)
    obtain ⟨y2, e2⟩ := e 2 (by omega)
    obtain ⟨y3, e3⟩ := e 3 (by omega)
    obtain ⟨y4, e4⟩ := e 4 (by omega)
    obtain ⟨y5, e5⟩ := e 5 (by omega)
    obtain ⟨n0, g0, _, w0⟩ := DataW.trod_int Try.underlying3 (h0.trans e0)
    obtain ⟨n1, g1, _, w1⟩ := DataW.trod_int Try.underlying3 (h1.trans e1)
    obtain ⟨n2, g2, _, w2⟩ := DataW.trod_int Try.underlying3 (h2.trans e2)
    obtain ⟨n3, g3, _, w3⟩ := DataW.trod_int Try.underlying3 (h3.trans e3)
    obtain ⟨n4, g4, _, w4⟩ := DataW.trod_int Try.underlying3 (h4.trans e4)
    obtain ⟨s5, g5, _, w5⟩ := DataW.trod_string Try.underlying9 (h5.trans e5)
    simp at g0 g1 g2 g3 g4 g5
    subst g0 g1 g2 g3 g4 g5
    exact ⟨⟨n0, n1, n2, n3, n4, s5⟩, rfl, w0⟩
theorem open_pks {fuel : Nat} {cs : List Value} {x : DataW H × List MemPlace} (h : DataW.trod enc Try.prog w base spare held fuel 22 cs = some x) : ∃ A c l, cs = [.slice A (l : List Pk).length c] ∧ PkAt w A c l ∧ IdsOk l := by
  have hC : Try.prog.cellsOf 30 = 6 := by kernel_rfl
  rcases open_slice Try.underlying22 h with ⟨rfl, _⟩ | ⟨a, len, cap, m, n, D, Pl, rfl, hb, hl, hm, hmm, hx, hi⟩
  · exact ⟨none, 0, [], rfl, PkAt.zero _, fun p hp => by cases hp⟩
  · rw [hC] at hi
    have hml : len ≤ m := by rw [hmm]; split <;> omega
    obtain ⟨f, hf⟩ := choose_lt (α := Pk) (n := len) (p := fun i p => (∀ j v, p.cells[j]? = some v → w.cell? (a.add (i * 6 + j)) = some v) ∧ (Lit.int .i64 p.id).wf = true) (fun i him => by
      obtain ⟨cs', h1, h2⟩ := hi i (by omega)
      obtain ⟨p, rfl, hp⟩ := open_cells30 h2
      obtain ⟨_, _, hat⟩ := World.cells?_some h1
      refine ⟨p, fun j v hv => ?_, hp⟩
      have hj : j < 6 := by have := (List.getElem?_eq_some_iff.1 hv).1; rwa [Pk.cells_len] at this
      rw [← add_add, hat j hj, hv])
    have hlen : ((List.range len).map f).length = len := by simp
    unfold maxLen at hm
    refine ⟨some a, cap, (List.range len).map f, by rw [hlen], ⟨⟨by rw [hlen]; omega, fun _ => ⟨a, rfl, fun i p hp j v hv => ?_⟩⟩, by rw [hlen]; exact hl, by omega, fun e => by cases e⟩, fun p hp => ?_⟩
    · have hil : i < len := by have := (List.getElem?_eq_some_iff.1 hp).1; rwa [hlen] at this
      have : p = f i := by
        rw [List.getElem?_map, List.getElem?_range hil] at hp
        simpa using hp.symm
      subst this
      exact (hf i hil).1 j v hv
    · obtain ⟨i, hi', rfl⟩ := List.mem_map.1 hp
      exact (hf i (by simpa using hi')).2
theorem open_ints40 {fuel : Nat} {cs : List Value} {x : DataW H × List MemPlace} (h : DataW.trod enc Try.prog w base spare held fuel 40 cs = some x) : ∃ A c l, cs = [.slice A (l : List Int).length c] ∧ SlAt intc 1 w A c l := by
  have hC : Try.prog.cellsOf 3 = 1 := by kernel_rfl
  rcases open_slice1 Try.underlying40 hC h with ⟨rfl, _⟩ | ⟨a, len, cap, m, n, V, D, Pl, rfl, hb, hl, hm, hmm, hx, hi⟩
  · exact ⟨none, 0, [], rfl, SlAt.zero _⟩
  · have hml : len ≤ m := by rw [hmm]; split <;> omega
    obtain ⟨f, hf⟩ := choose_lt (α := Int) (n := len) (p := fun i k => w.cell? (a.add i) = some (.int .i64 k)) (fun i him => by
      obtain ⟨h1, h2⟩ := hi i (by omega)
      obtain ⟨k, hk, _, _⟩ := DataW.trod_int Try.underlying3 h2
      simp at hk
      exact ⟨k, by rw [h1, hk]⟩)
    have hlen : ((List.range len).map f).length = len := by simp
    unfold maxLen at hm
    refine ⟨some a, cap, (List.range len).map f, by rw [hlen], ⟨⟨by rw [hlen]; omega, fun _ => ⟨a, rfl, fun i p hp j v hv => ?_⟩⟩, by rw [hlen]; exact hl, by omega, fun e => by cases e⟩⟩
    have hil : i < len := by have := (List.getElem?_eq_some_iff.1 hp).1; rwa [hlen] at this
    have : p = f i := by
      rw [List.getElem?_map, List.getElem?_range hil] at hp
      simpa using hp.symm
    subst this
    match j, hv with
    | 0, hv =>
      simp [intc] at hv
      subst hv
      rw [Nat.mul_one, Nat.add_zero]
      exact hf i hil
    | j + 1, hv => simp [intc] at hv
set_option maxRecDepth 100000 in
theorem open_queue {r : Reach} {b0 : Nat} {v : Value} {d : DataW H} {p : List MemPlace} (hv : Value.okWide Try.prog w r b0 24 v) (h : DataW.Trod enc Try.prog w base spare held 24 v d p) : ∃ L A c l, v = .agg #[.int .i64 L, .slice A (l : List Pk).length c] ∧ PkAt w A c l ∧ IdsOk l := by
  obtain ⟨cs, rfl, hsz⟩ := okWide_struct Try.underlying24 hv
  obtain ⟨fuel, h⟩ := h
  obtain ⟨ys, n, _, _, hlen, hyl, hf⟩ := DataW.trod_struct Try.underlying24 h
  have hC : Try.prog.cellsOf 24 = 2 := by kernel_rfl
  rw [hC] at hlen
  obtain ⟨cs⟩ := cs
  simp only [Value.cells] at hlen hf
  obtain ⟨c0, c1, rfl⟩ := len2 hlen
  have k3 : Try.prog.cellsOf 3 = 1 := by kernel_rfl
  have k22 : Try.prog.cellsOf 22 = 1 := by kernel_rfl
  have h0 : DataW.trod enc Try.prog w base spare held n 3 ((([c0, c1] : List Value).drop 0).take (Try.prog.cellsOf 3)) = ys[0]? := hf 0 _ rfl
  have h1 : DataW.trod enc Try.prog w base spare held n 22 ((([c0, c1] : List Value).drop 1).take (Try.prog.cellsOf 22)) = ys[1]? := hf 1 _ rfl
  rw [k3] at h0
  rw [k22] at h1
  obtain ⟨y0, y1, rfl⟩ := len2 hyl
  obtain ⟨n0, g0, _, w0⟩ := DataW.trod_int Try.underlying3 h0
  obtain ⟨A, c, l, g1, hp, hids⟩ := open_pks h1
  simp at g0 g1
  subst g0 g1
  exact ⟨n0, A, c, l, rfl, hp, hids⟩
set_option maxRecDepth 100000 in
theorem open_packet {r : Reach} {b0 : Nat} {v : Value} {d : DataW H} {p : List MemPlace} (hv : Value.okWide Try.prog w r b0 30 v) (h : DataW.Trod enc Try.prog w base spare held 30 v d p) : ∃ q : Pk, v = .agg #[.int .i64 q.id, .int .i64 q.dst, .int .i64 q.pr, .int .i64 q.born, .int .i64 q.life, .string q.data] ∧ (Lit.int .i64 q.id).wf = true := by
  obtain ⟨cs, rfl, hsz⟩ := okWide_struct Try.underlying30 hv
  obtain ⟨fuel, h⟩ := h
  obtain ⟨q, hq, hw⟩ := open_cells30 h
  obtain ⟨cs⟩ := cs
  simp only [Value.cells] at hq
  subst hq
  exact ⟨q, rfl, hw⟩
end
end Go.Proofs.Ytckanomabhbkaaa
