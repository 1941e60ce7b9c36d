/- Slices that are read; slices.Contains of numbers: walked. (The texts on reports stand on these alone, not on those on queues.) -/
import Derived.Test.YtckanomabhbkaaaQA
import Derived.Test.YtckanomabhbkaaaQOwn
import Derived.Shelf.Abstract
import Derived.IntWalk
import Derived.Deep.QuietTactic
import Derived.BigQuiet
import Derived.Deep.Slices
namespace Go.Proofs.Ytckanomabhbkaaa
open Go.RowKit Go.Shelf
set_option linter.unusedVariables false
/-- A slice that is read: its address, its capacity, its elements. -/
structure SlAt {α : Type} (enc : α → List Value) (k : Nat) (w : World) (A : Option Addr) (c : Nat) (l : List α) : Prop where
  row : RowAt enc k w A l
  le : l.length ≤ c
  cap : c ≤ 9223372036854775807
  nil : A = none → c = 0
section
variable {α : Type} {enc : α → List Value} {k : Nat}
theorem SlAt.below {w w1 : World} {A : Option Addr} {c : Nat} {l : List α} (h : SlAt enc k w A c l) (hb : Below w.heap.size w w1) : SlAt enc k w1 A c l := ⟨h.row.below hb, h.le, h.cap, h.nil⟩
theorem SlAt.zero (w : World) : SlAt enc k w none 0 [] := ⟨⟨by simp, fun h => by simp at h⟩, by simp, by simp, fun _ => rfl⟩
theorem Own.slAt (hk : ∀ x, (enc x).length = k) {w : World} {base : Nat} {A : Option Addr} {c : Nat} {l : List α} {e : TypeId} (h : Own enc k w base e (.slice A l.length c) l) : SlAt enc k w A c l := by
  obtain ⟨A', c', he, h1, h2, h3⟩ := h.reads hk
  injection he with e1 _ e3
  subst e1 e3
  refine ⟨h3, h1, by unfold maxLen at h2; omega, fun hA => ?_⟩
  subst hA
  rcases h.2 with ⟨e, _⟩ | ⟨g, cap, cur, e, _⟩
  · injection e with _ _ e3
  · cases e
end
def intc (n : Int) : List Value := [.int .i64 n]
theorem intc_len (n : Int) : (intc n).length = 1 := rfl
theorem RowAt.int {w : World} {A : Option Addr} {l : List Int} (h : RowAt intc 1 w A l) (i : Nat) (h1 : i < l.length) : ∃ ad, A = some ad ∧ w.cell? (ad.add i) = some (.int .i64 (l.getD i 0)) := by
  obtain ⟨ad, e, hc⟩ := h.2 (by omega)
  refine ⟨ad, e, ?_⟩
  have := hc i _ (List.getElem?_eq_getElem h1) 0 _ rfl
  rwa [Nat.mul_one, Nat.add_zero, show l[i] = l.getD i 0 from by rw [List.getD_eq_getElem?_getD, List.getElem?_eq_getElem h1]; rfl] at this

theorem RowAt.of_block {α : Type} {enc : α → List Value} {k : Nat} (hk : ∀ x, (enc x).length = k) {w : World} {b : Nat} {cs : Array Value} {t : TypeId} {fr : Nat × Nat} {l : List α} (h : w.heap[b]? = some (.cells cs t fr)) (hl : l.flatMap enc = cs.toList) (hn : l.length ≤ 9223372036854775807) : RowAt enc k w (some ⟨b, 0, none⟩) l := by
  refine ⟨hn, fun _ => ⟨_, rfl, fun i x hx j v hv => ?_⟩⟩
  have hadd : ∀ j, (⟨b, 0, none⟩ : Addr).add j = ⟨b, j, none⟩ := fun j => by unfold Addr.add; split <;> simp_all
  rw [hadd, blk_cell h]
  have := flat_get hk l i j x v hx hv
  rw [hl] at this
  simpa using this
def iix (l : List Int) (k : Int) : Int := match l.findIdx? (fun d => k == d) with | some n => (n : Int) | none => -1
set_option maxHeartbeats 800000 in
theorem indexI_any (A : Option Addr) (c : Nat) (l : List Int) (k : Int) (w : World) (hr : RowAt intc 1 w A l) :
    Calls Try.prog 102 #[.slice A l.length c, .int .i64 k] w fun e w' => e = .returned (.int .i64 (iix l k)) ∧ w = w' := by
  have HR := Lib.hid hr
  have hb := hr.1
  clear hr
  go_enter Try.func102, Try.ntmps102
  go_wp2
  go_loop [8] (fun v => ∃ i : Nat, v = .int .i64 i ∧ i ≤ l.length ∧ Hid (∀ j : Nat, j < i → k ≠ l.getD j 0)) (fun v => (l.length - (intOf v)).toNat)
  case atStart => exact ⟨0, rfl, by omega, fun j h => by omega⟩
  case round =>
    obtain ⟨i, rfl, hil, HN⟩ := hrel
    by_cases hlt : i < l.length
    · obtain ⟨ad, rfl, c0⟩ := HR.out.int i hlt
      have hli : decide ((i : Int) < l.length) = true := by simp; omega
      have g1 : (0 : Int) ≤ i := by omega
      have g2 : (i : Int) < l.length := by omega
      obtain ⟨y, hy⟩ : ∃ y, l.getD i 0 = y := ⟨_, rfl⟩
      have HY := Lib.hid hy
      rw [hy] at c0
      clear hy
      by_cases he : k = y
      · have b : (k == y) = true := by simp [he]
        have HF := Lib.hid (show iix l k = i by
          unfold iix
          have hk : l.findIdx? (fun d => k == d) = some i := by
            rw [List.findIdx?_eq_some_iff_getElem]
            have hg : ∀ n, (hn : n < l.length) → l.getD n 0 = l[n] := fun n hn => by rw [List.getD_eq_getElem?_getD, List.getElem?_eq_getElem hn]; rfl
            refine ⟨hlt, by rw [← hg i hlt, HY.out]; simp [he], fun j hj => ?_⟩
            have := HN.out j hj
            rw [hg j (by omega)] at this
            simp [this]
          rw [hk])
        clear he
        go_wp2
        go_ret
        exact ⟨ret_int HF.out.symm, rfl⟩
      · have b : (k == y) = false := by simp [he]
        have HN2 := Lib.hid (show ∀ j : Nat, j < i + 1 → k ≠ l.getD j 0 from fun j hj => by
          by_cases e : j = i
          · subst e; rw [HY.out]; exact he
          · exact HN.out j (by omega))
        clear he
        go_wp2
        go_round
        case rel => exact ⟨i + 1, by simp, by omega, HN2⟩
        case measure => simp [intOf]; omega
    · have hli : decide ((i : Int) < l.length) = false := by simp; omega
      obtain rfl : i = l.length := by omega
      have HF := Lib.hid (show iix l k = -1 by
        unfold iix
        have hk : l.findIdx? (fun d => k == d) = none := by
          rw [List.findIdx?_eq_none_iff]
          intro x hx
          obtain ⟨j, hj, rfl⟩ := List.getElem_of_mem hx
          have := HN.out j hj
          rw [List.getD_eq_getElem?_getD, List.getElem?_eq_getElem hj] at this
          simpa using this
        rw [hk])
      go_wp2
      go_ret
      exact ⟨ret_int HF.out.symm, rfl⟩
def hasI (l : List Int) (k : Int) : Bool := decide (0 ≤ iix l k)
theorem hasI_iff {l : List Int} {k : Int} : hasI l k = true ↔ k ∈ l := by
  unfold hasI iix
  rw [decide_eq_true_eq]
  cases hk : l.findIdx? (fun d => k == d) with
  | none =>
    rw [List.findIdx?_eq_none_iff] at hk
    constructor
    · intro h; simp at h
    · intro h
      have := hk k h
      simp at this
  | some n =>
    rw [List.findIdx?_eq_some_iff_getElem] at hk
    obtain ⟨hl, hp, _⟩ := hk
    constructor
    · intro _
      have e : k = l[n] := by simpa using hp
      rw [e]
      exact List.getElem_mem _
    · intro _
      show (0 : Int) ≤ (n : Int)
      omega
theorem containsI_any (A : Option Addr) (c : Nat) (l : List Int) (k : Int) (w : World) (hr : RowAt intc 1 w A l) :
    Calls Try.prog 63 #[.slice A l.length c, .int .i64 k] w fun e w' => e = .returned (.bool (hasI l k)) ∧ w = w' := by
  have HC := Lib.hid (indexI_any A c l k w hr)
  clear hr
  go_enter Try.func63, Try.ntmps63
  go_wp2_with fail
  refine HC.out.mono ?_
  rintro e w1 ⟨rfl, rfl⟩
  go_wp2
  go_ret
  exact ⟨rfl, rfl⟩
end Go.Proofs.Ytckanomabhbkaaa
