/- Headers: plain words; a header of a route leads along the route. -/
import Derived.Test.YtckanomabhbkaaaDG
namespace Go.Proofs.Ytckanomabhbkaaa
open Go.RowKit Go.Shelf
set_option linter.unusedVariables false
theorem outB_no {l : List Int} : outB l = false ↔ ∀ x ∈ l, 0 ≤ x ∧ x < 32 := by
  unfold outB
  rw [List.any_eq_false]
  constructor
  · intro h x hx; have := h x hx; rw [← nodeB_iff]; simpa using this
  · intro h x hx; have := nodeB_iff.2 (h x hx); simp [this]
/-- Does a number occur twice? -/
def dupB (l : List Int) : Bool := decide (¬ l.Nodup)
theorem dupB_no {l : List Int} : dupB l = false ↔ l.Nodup := by simp [dupB]
theorem dupB_yes {l : List Int} : dupB l = true ↔ ¬ l.Nodup := by simp [dupB]
/-- Header's error: 0, 2 (ErrRange), 6 (ErrTwice), 9 (ErrShort), 8 (ErrTooLarge). -/
def hdrE (l : List Int) : Int := if outB l = true then 2 else if dupB l = true then 6 else if l = [] then 9 else if 9 < l.length then 8 else 0
def byteI (n : Int) : UInt8 := UInt8.ofNat n.toNat
def hdrL (l : List Int) : List UInt8 := if hdrE l = 0 then l.tail.map byteI else []
def hdrV (l : List Int) : ByteArray := ⟨(hdrL l).toArray⟩
theorem hdrE_ok {l : List Int} (h : hdrE l = 0) : (∀ x ∈ l, 0 ≤ x ∧ x < 32) ∧ l.Nodup ∧ 1 ≤ l.length ∧ l.length ≤ 9 := by
  unfold hdrE at h
  cases h1 : outB l
  · rw [h1, if_neg (by simp)] at h
    cases h2 : dupB l
    · rw [h2, if_neg (by simp)] at h
      by_cases h3 : l = []
      · rw [if_pos h3] at h; cases h
      · rw [if_neg h3] at h
        by_cases h4 : 9 < l.length
        · rw [if_pos h4] at h; cases h
        · refine ⟨outB_no.1 h1, dupB_no.1 h2, ?_, by omega⟩
          cases l with
          | nil => exact absurd rfl h3
          | cons a b => simp
    · rw [h2, if_pos rfl] at h; cases h
  · rw [h1, if_pos rfl] at h; cases h
theorem hdrE_of {l : List Int} (h1 : ∀ x ∈ l, 0 ≤ x ∧ x < 32) (h2 : l.Nodup) (h3 : 1 ≤ l.length) (h4 : l.length ≤ 9) : hdrE l = 0 := by
  unfold hdrE
  rw [outB_no.2 h1, dupB_no.2 h2, if_neg (by simp), if_neg (by simp), if_neg (by intro e; rw [e] at h3; simp at h3), if_neg (by omega)]
/-- A header that is right: at most 8 nodes, none twice. -/
def rightB (s : List UInt8) : Bool := decide (s.length ≤ 8 ∧ (∀ x ∈ s, x.toNat < 32) ∧ s.Nodup)
theorem rightB_iff {s : List UInt8} : rightB s = true ↔ s.length ≤ 8 ∧ (∀ x ∈ s, x.toNat < 32) ∧ s.Nodup := by simp [rightB]
/-- Step's error: 0, 10 (ErrCorrupt), 2 (ErrRange), 14 (ErrEmpty), 12 (ErrState). -/
def stepE (s : List UInt8) (self : Int) : Int :=
  if rightB s = false then 10 else if nodeB self = false then 2 else if s = [] then 14 else if ((s.headD 0).toNat : Int) = self then 12 else 0
def stepN (s : List UInt8) (self : Int) : Int := if stepE s self = 0 then ((s.headD 0).toNat : Int) else 0
def stepL (s : List UInt8) (self : Int) : List UInt8 := if stepE s self = 0 then s.tail else []
theorem byteI_nat {n : Int} (h0 : 0 ≤ n) (h1 : n < 32) : ((byteI n).toNat : Int) = n := by
  unfold byteI
  rw [UInt8.toNat_ofNat']
  omega
theorem nodup_byte {l : List Int} (hn : l.Nodup) (h : ∀ x ∈ l, 0 ≤ x ∧ x < 32) : (l.map byteI).Nodup := by
  induction l with
  | nil => simp
  | cons x l ih =>
    rw [List.nodup_cons] at hn
    rw [List.map_cons, List.nodup_cons]
    refine ⟨fun hm => ?_, ih hn.2 (fun y hy => h y (by simp [hy]))⟩
    obtain ⟨y, hy, he⟩ := List.mem_map.1 hm
    have h1 := h x (by simp)
    have h2 := h y (by simp [hy])
    have := byteI_nat h1.1 h1.2
    rw [← he, byteI_nat h2.1 h2.2] at this
    exact hn.1 (this ▸ hy)
/-- The header of the rest of a right route is right. -/
theorem right_rest {l : List Int} (hn : l.Nodup) (h : ∀ x ∈ l, 0 ≤ x ∧ x < 32) (hl : l.length ≤ 8) : rightB (l.map byteI) = true := by
  rw [rightB_iff]
  refine ⟨by simpa using hl, fun x hx => ?_, nodup_byte hn h⟩
  obtain ⟨y, hy, rfl⟩ := List.mem_map.1 hx
  have h2 := h y hy
  have := byteI_nat h2.1 h2.2
  omega
theorem step_go {a n : Int} {l : List Int} (hn : (a :: n :: l).Nodup) (h : ∀ x ∈ a :: n :: l, 0 ≤ x ∧ x < 32) (hl : l.length ≤ 7) :
    stepE ((n :: l).map byteI) a = 0 ∧ stepN ((n :: l).map byteI) a = n ∧ stepL ((n :: l).map byteI) a = l.map byteI := by
  have hr := right_rest (l := n :: l) (List.nodup_cons.1 hn).2 (fun x hx => h x (by simp at hx ⊢; exact .inr hx)) (by simp; omega)
  have ha := h a (by simp)
  have hnn := h n (by simp)
  have he : stepE ((n :: l).map byteI) a = 0 := by
    unfold stepE
    rw [hr, if_neg (by simp), nodeB_iff.2 ha, if_neg (by simp), if_neg (by simp)]
    rw [if_neg]
    simp only [List.map_cons, List.headD_cons]
    rw [byteI_nat hnn.1 hnn.2]
    rintro rfl
    simp at hn
  refine ⟨he, ?_, ?_⟩
  · unfold stepN; rw [if_pos he]; simp only [List.map_cons, List.headD_cons]; exact byteI_nat hnn.1 hnn.2
  · unfold stepL; rw [if_pos he]; rfl
theorem step_end {a : Int} (h : 0 ≤ a ∧ a < 32) : stepE [] a = 14 := by
  unfold stepE
  rw [show rightB [] = true from by decide, if_neg (by simp), nodeB_iff.2 h, if_neg (by simp), if_pos rfl]
end Go.Proofs.Ytckanomabhbkaaa
