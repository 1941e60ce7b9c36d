/- Plain words for the queue's laws: packets as cells, rows that are read. -/
import Derived.WalkKit
import Derived.Below
import Derived.RowKit3
import Derived.Lib.Hide
import Derived.Maps.AppendAt
import Derived.OwnWalk
import Derived.Deep.LoopGhost
import Derived.Deep.QuietTactic
import Derived.BigQuiet
import Derived.Deep.DeepCutAuto
import Derived.Laws.OwnMore
namespace Go.Proofs.Ytckanomabhbkaaa
open Go.RowKit
set_option linter.unusedVariables false

structure Pk where
  id : Int
  dst : Int
  pr : Int
  born : Int
  life : Int
  data : ByteArray
def Pk.cells (p : Pk) : List Value := [.int .i64 p.id, .int .i64 p.dst, .int .i64 p.pr, .int .i64 p.born, .int .i64 p.life, .string p.data]
def Pk.zero : Pk := ⟨0, 0, 0, 0, 0, ⟨#[]⟩⟩

/-- A row of elements that is read: k cells each. -/
def RowAt {α : Type} (enc : α → List Value) (k : Nat) (w : World) (A : Option Addr) (l : List α) : Prop :=
  l.length ≤ 9223372036854775807 ∧ (0 < l.length → ∃ ad, A = some ad ∧ ∀ i x, l[i]? = some x → ∀ j v, (enc x)[j]? = some v → w.cell? (ad.add (i * k + j)) = some v)

theorem blw_drewN {B : Nat} {a w : World} (h : Below B a w) (n : Nat) : Below B a (w.drewN n) := h.trans ⟨rfl, rfl, rfl, Nat.le_refl _, fun _ _ => rfl⟩
theorem ret_int {k : IntKind} {a b : Int} (h : a = b) : Ending.returned (.int k a) = .returned (.int k b) := by rw [h]
theorem ret_bool {a b : Bool} (h : a = b) : Ending.returned (.bool a) = .returned (.bool b) := by rw [h]
theorem cell_lt {w : World} {p : Addr} {v : Value} (h : w.cell? p = some v) : p.block < w.heap.size := by
  by_cases hb : p.block < w.heap.size
  · exact hb
  · exfalso
    have : w.heap[p.block]? = none := Array.getElem?_eq_none (by omega)
    simp [World.cell?, this] at h
theorem cell_below {w w1 : World} {p : Addr} {v : Value} (hb : Below w.heap.size w w1) (h : w.cell? p = some v) : w1.cell? p = some v := (hb.cell (cell_lt h)).trans h
theorem RowAt.below {α : Type} {enc : α → List Value} {k : Nat} {w w1 : World} {A : Option Addr} {l : List α} (h : RowAt enc k w A l) (hb : Below w.heap.size w w1) : RowAt enc k w1 A l :=
  ⟨h.1, fun hn => by
    obtain ⟨ad, e, hc⟩ := h.2 hn
    exact ⟨ad, e, fun i x hx j v hv => cell_below hb (hc i x hx j v hv)⟩⟩
theorem add_field (ad : Addr) (m j : Nat) (hj : 0 < j) : ad.add (m + j) = ⟨(ad.add m).block, (ad.add m).off + j, none⟩ := by
  unfold Addr.add
  by_cases hm : m = 0
  · subst hm
    simp [Nat.ne_of_gt hj]
  · simp [hm, Nat.add_assoc]
def gp (l : List Pk) (i : Int) : Pk := l.getD i.toNat Pk.zero
theorem gp_get {l : List Pk} {i : Int} (h0 : 0 ≤ i) (h1 : i < l.length) : l[i.toNat]? = some (gp l i) := by
  unfold gp
  have : i.toNat < l.length := by omega
  rw [List.getD_eq_getElem?_getD, List.getElem?_eq_getElem this]; rfl
theorem RowAt.pk {w : World} {A : Option Addr} {l : List Pk} (h : RowAt Pk.cells 6 w A l) (i : Int) (h0 : 0 ≤ i) (h1 : i < l.length) :
    ∃ ad, A = some ad ∧ w.cell? (ad.add (i.toNat * 6)) = some (.int .i64 (gp l i).id) ∧ w.cell? ⟨(ad.add (i.toNat * 6)).block, (ad.add (i.toNat * 6)).off + 1, none⟩ = some (.int .i64 (gp l i).dst) ∧ w.cell? ⟨(ad.add (i.toNat * 6)).block, (ad.add (i.toNat * 6)).off + 2, none⟩ = some (.int .i64 (gp l i).pr) ∧ w.cell? ⟨(ad.add (i.toNat * 6)).block, (ad.add (i.toNat * 6)).off + 3, none⟩ = some (.int .i64 (gp l i).born) ∧ w.cell? ⟨(ad.add (i.toNat * 6)).block, (ad.add (i.toNat * 6)).off + 4, none⟩ = some (.int .i64 (gp l i).life) ∧ w.cell? ⟨(ad.add (i.toNat * 6)).block, (ad.add (i.toNat * 6)).off + 5, none⟩ = some (.string (gp l i).data) := by
  obtain ⟨ad, e, hc⟩ := h.2 (by omega)
  have hc := hc _ _ (gp_get h0 h1)
  exact ⟨ad, e, hc 0 _ rfl, by rw [← add_field _ _ 1 (by omega)]; exact hc 1 _ rfl, by rw [← add_field _ _ 2 (by omega)]; exact hc 2 _ rfl, by rw [← add_field _ _ 3 (by omega)]; exact hc 3 _ rfl, by rw [← add_field _ _ 4 (by omega)]; exact hc 4 _ rfl, by rw [← add_field _ _ 5 (by omega)]; exact hc 5 _ rfl⟩

/-- The packet's own errors: 0, 2 (ErrRange), 8 (ErrTooLarge). -/
def pform (p : Pk) : Int :=
  if p.id < 0 ∨ p.dst < -1 ∨ p.dst ≥ 32 ∨ p.pr < 0 ∨ p.pr ≥ 4 ∨ p.born < 0 ∨ p.born > 1099511627776 ∨ p.life < 1 ∨ p.life > 4096 then 2
  else if (p.data.size : Int) > 127 then 8 else 0
/-- Where the first element is of which p holds; -1 if there is none. -/
def fidx (p : Pk → Bool) (l : List Pk) : Int := match l.findIdx? p with | some k => (k : Int) | none => -1
theorem gp_elem {l : List Pk} {n : Nat} (h : n < l.length) : gp l (n : Int) = l[n] := by
  simp [gp, List.getD_eq_getElem?_getD, List.getElem?_eq_getElem h]
theorem gp_elem' {l : List Pk} {i : Int} (h0 : 0 ≤ i) (h : i < l.length) : gp l i = l[i.toNat]'(by omega) := by
  have := gp_elem (l := l) (n := i.toNat) (by omega)
  rwa [Int.toNat_of_nonneg h0] at this
theorem fidx_hit {p : Pk → Bool} {l : List Pk} {i : Int} (h0 : 0 ≤ i) (h1 : i < l.length) (he : p (gp l i) = true) (hn : ∀ j : Int, 0 ≤ j → j < i → p (gp l j) = false) : fidx p l = i := by
  unfold fidx
  have hk : l.findIdx? p = some i.toNat := by
    rw [List.findIdx?_eq_some_iff_getElem]
    refine ⟨by omega, by rw [← gp_elem' h0 h1]; exact he, fun j hj => ?_⟩
    have := hn j (by omega) (by omega)
    rw [gp_elem (by omega)] at this
    simp [this]
  rw [hk]; simp only; omega
theorem fidx_miss {p : Pk → Bool} {l : List Pk} (hn : ∀ j : Int, 0 ≤ j → j < l.length → p (gp l j) = false) : fidx p l = -1 := by
  unfold fidx
  have hk : l.findIdx? p = none := by
    rw [List.findIdx?_eq_none_iff]
    intro x hx
    obtain ⟨j, hj, rfl⟩ := List.getElem_of_mem hx
    have := hn j (by omega) (by omega)
    rwa [gp_elem hj] at this
  rw [hk]
theorem fidx_range (p : Pk → Bool) (l : List Pk) : -1 ≤ fidx p l ∧ fidx p l < l.length := by
  unfold fidx
  cases hk : l.findIdx? p with
  | none => simp only; omega
  | some k =>
    rw [List.findIdx?_eq_some_iff_getElem] at hk
    obtain ⟨h, _⟩ := hk
    simp only; omega
theorem fidx_spec {p : Pk → Bool} {l : List Pk} (h : 0 ≤ fidx p l) : p (gp l (fidx p l)) = true ∧ ∀ j : Int, 0 ≤ j → j < fidx p l → p (gp l j) = false := by
  unfold fidx at h ⊢
  cases hk : l.findIdx? p with
  | none => rw [hk] at h; simp at h
  | some k =>
    rw [List.findIdx?_eq_some_iff_getElem] at hk
    obtain ⟨hl, hp, hn⟩ := hk
    simp only
    refine ⟨by rw [gp_elem hl]; exact hp, fun j h0 h1 => ?_⟩
    have := hn j.toNat (by omega)
    rw [gp_elem' h0 (by omega)]
    simpa using this
theorem fidx_neg {p : Pk → Bool} {l : List Pk} (h : fidx p l < 0) : ∀ j : Int, 0 ≤ j → j < l.length → p (gp l j) = false := by
  unfold fidx at h
  cases hk : l.findIdx? p with
  | none =>
    rw [List.findIdx?_eq_none_iff] at hk
    intro j h0 h1
    rw [gp_elem' h0 h1]
    exact hk _ (List.getElem_mem _)
  | some k => rw [hk] at h; simp only at h; omega
def idp (id : Int) : Pk → Bool := fun p => p.id == id
def idx (l : List Pk) (id : Int) : Int := fidx (idp id) l
theorem idx_hit {l : List Pk} {id : Int} {i : Int} (h0 : 0 ≤ i) (h1 : i < l.length) (he : (gp l i).id = id) (hn : ∀ j : Int, 0 ≤ j → j < i → (gp l j).id ≠ id) : idx l id = i :=
  fidx_hit h0 h1 (by simp [idp, he]) (fun j a b => by simp [idp, hn j a b])
theorem idx_miss {l : List Pk} {id : Int} (hn : ∀ j : Int, 0 ≤ j → j < l.length → (gp l j).id ≠ id) : idx l id = -1 :=
  fidx_miss (fun j a b => by simp [idp, hn j a b])
/-- At place i of a row: the packet's own error; then 6 (ErrTwice), 5 (ErrOrder). -/
def errAt (l : List Pk) (i : Int) : Int :=
  if pform (gp l i) ≠ 0 then pform (gp l i) else if idx l (gp l i).id < i then 6 else if 0 < i ∧ (gp l i).pr < (gp l (i - 1)).pr then 5 else 0
def firstErr (l : List Pk) : Nat → Int → Int
  | 0, _ => 0
  | n + 1, i => if errAt l i ≠ 0 then errAt l i else firstErr l n (i + 1)
/-- The first error of a queue. -/
def chk (L : Int) (l : List Pk) : Int := if L < 1 ∨ 64 < L then 2 else if L < l.length then 8 else firstErr l l.length 0
theorem firstErr_stop {l : List Pk} {i : Int} (h : i < l.length) (he : errAt l i ≠ 0) : firstErr l (l.length - i).toNat i = errAt l i := by
  obtain ⟨n, hn⟩ : ∃ n, (l.length - i).toNat = n + 1 := ⟨(l.length - i).toNat - 1, by omega⟩
  rw [hn, firstErr, if_pos he]
theorem firstErr_go {l : List Pk} {i : Int} (h : i < l.length) (he : errAt l i = 0) : firstErr l (l.length - i).toNat i = firstErr l (l.length - (i + 1)).toNat (i + 1) := by
  obtain ⟨n, hn⟩ : ∃ n, (l.length - i).toNat = n + 1 := ⟨(l.length - i).toNat - 1, by omega⟩
  rw [hn, firstErr, if_neg (by simp [he])]
  congr 1
  omega
theorem firstErr_end {l : List Pk} {i : Int} (h : ¬ i < l.length) : firstErr l (l.length - i).toNat i = 0 := by
  rw [show (l.length - i).toNat = 0 from by omega, firstErr]
theorem bcell {W w1 : World} (hb : Below W.heap.size W w1) : (∀ b o, b < W.heap.size → w1.cell? ⟨b, o, none⟩ = W.cell? ⟨b, o, none⟩) ∧ (∀ b o, b < W.heap.size → w1.frozen? ⟨b, o, none⟩ = W.frozen? ⟨b, o, none⟩) :=
  ⟨fun b o h => hb.cell (p := ⟨b, o, none⟩) h, fun b o h => hb.frozen (p := ⟨b, o, none⟩) h⟩
theorem blk_cell {w : World} {b : Nat} {cs : Array Value} {t : TypeId} {fr : Nat × Nat} (h : w.heap[b]? = some (.cells cs t fr)) (j : Nat) : w.cell? ⟨b, j, none⟩ = cs[j]? := by simp [World.cell?, h]
theorem blk_free {w : World} {b : Nat} {cs : Array Value} {t : TypeId} (h : w.heap[b]? = some (.cells cs t (0, 0))) (j : Nat) : w.frozen? ⟨b, j, none⟩ = false := by simp [World.frozen?, h]
theorem blk_lt {w : World} {b : Nat} {o : Obj} (h : w.heap[b]? = some o) : b < w.heap.size := (Array.getElem?_eq_some_iff.1 h).1
theorem blk_new (w : World) (o : Obj) {b : Nat} (hb : b = w.heap.size) : (w.alloc o).heap[b]? = some o := by subst hb; exact heap_alloc_new w o
theorem blk_old {w : World} {b : Nat} {o : Obj} (h : w.heap[b]? = some o) (o' : Obj) : (w.alloc o').heap[b]? = some o := (Below.heap_alloc w o' b (blk_lt h)).trans h
theorem blk_below {w w1 : World} {B b : Nat} {o : Obj} (h : w.heap[b]? = some o) (hb : Below B w w1) (hB : b < B) : w1.heap[b]? = some o := (hb.block b hB).trans h
end Go.Proofs.Ytckanomabhbkaaa
