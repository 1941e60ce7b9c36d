/- stale, the predicates of Expire, Few, Same. -/
import Derived.Test.YtckanomabhbkaaaQA3
import Derived.Test.YtckanomabhbkaaaQSpec
import Derived.Shelf.Abstract
import Derived.Deep.RegionWith
namespace Go.Proofs.Ytckanomabhbkaaa
open Go.RowKit Go.Shelf
set_option linter.unusedVariables false

def staleB (p : Pk) (slot : Int) : Bool := decide (0 ≤ slot) && decide (p.life ≤ wrap64 (slot - p.born))
set_option maxHeartbeats 800000 in
theorem stale_any (p : Pk) (slot : Int) (w : World) : Calls Try.prog 81 #[.agg #[.int .i64 p.id, .int .i64 p.dst, .int .i64 p.pr, .int .i64 p.born, .int .i64 p.life, .string p.data], .int .i64 slot] w fun e w' => e = .returned (.bool (staleB p slot)) ∧ Below w.heap.size w w' := by
  by_cases h0 : 0 ≤ slot
  · have b0 : decide (0 ≤ slot) = true := by simp [h0]
    have HS := Lib.hid (show decide (p.life ≤ wrap64 (slot - p.born)) = staleB p slot by unfold staleB; rw [b0]; rfl)
    go_enter Try.func81, Try.ntmps81
    go_wp2
    go_ret
    exact ⟨ret_bool HS.out, (Below.refl _ _).alloc (Nat.le_refl _) _⟩
  · have b0 : decide (0 ≤ slot) = false := by simp; omega
    have HS := Lib.hid (show false = staleB p slot by unfold staleB; rw [b0]; rfl)
    go_enter Try.func81, Try.ntmps81
    go_wp2
    go_ret
    exact ⟨ret_bool HS.out, (Below.refl _ _).alloc (Nat.le_refl _) _⟩

def few (l : List Pk) : Bool := decide (l.length ≤ 70) && l.all (fun p => decide (p.data.size ≤ 200))
theorem few_iff {l : List Pk} : few l = true ↔ l.length ≤ 70 ∧ ∀ j : Int, 0 ≤ j → j < l.length → (gp l j).data.size ≤ 200 := by
  simp only [few, Bool.and_eq_true, decide_eq_true_eq, List.all_eq_true]
  constructor
  · rintro ⟨h1, h2⟩
    exact ⟨h1, fun j a b => by rw [gp_elem' a b]; exact h2 _ (List.getElem_mem _)⟩
  · rintro ⟨h1, h2⟩
    refine ⟨h1, fun x hx => ?_⟩
    obtain ⟨j, hj, rfl⟩ := List.getElem_of_mem hx
    have := h2 j (by omega) (by omega)
    rwa [gp_elem hj] at this
theorem few_no {l : List Pk} {j : Int} (h0 : 0 ≤ j) (h1 : j < l.length) (h : ¬ (gp l j).data.size ≤ 200) : false = few l := by
  symm; rw [← Bool.not_eq_true, few_iff]
  exact fun hh => h (hh.2 j h0 h1)
set_option maxHeartbeats 800000 in
theorem few_any (L : Int) (A : Option Addr) (c : Nat) (l : List Pk) (w : World) (hr : RowAt Pk.cells 6 w A l) :
    Calls Try.prog 19 #[.agg #[.int .i64 L, .slice A l.length c]] w fun e w' => e = .returned (.bool (few l)) ∧ Below w.heap.size w w' := by
  have HR := Lib.hid hr
  have hb := hr.1
  clear hr
  have hu24 := Try.underlying24
  by_cases h1 : 70 < l.length
  · have HF := Lib.hid (show false = few l by symm; rw [← Bool.not_eq_true, few_iff]; omega)
    go_enter Try.func19, Try.ntmps19
    set_option maxRecDepth 100000 in go_wp2
    go_ret
    exact ⟨ret_bool HF.out, (Below.refl _ _).alloc (Nat.le_refl _) _⟩
  go_enter Try.func19, Try.ntmps19
  set_option maxRecDepth 100000 in go_wp2
  go_loopw [3] (fun v wr => ∃ i : Int, v = .int .i64 i ∧ 0 ≤ i ∧ i ≤ l.length ∧ Hid (∀ j : Int, 0 ≤ j → j < i → (gp l j).data.size ≤ 200) ∧ Hid (Below (w.heap.size + 1) (w.alloc (.cells #[.int .i64 L, .slice A l.length c] 24)) wr)) (fun v _ => (l.length - (intOf v)).toNat)
  case atStart => exact ⟨0, rfl, by omega, by omega, fun j h0 h1 => by omega, Below.refl _ _⟩
  case round =>
    obtain ⟨i, rfl, h0, hle, HN, HB⟩ := hrel
    have HBw : Hid (Below w.heap.size w wr) := ((Below.refl _ _).alloc (Nat.le_refl _) _).trans (HB.out.mono (by omega))
    have B0 := Lib.hid (blk_below (blk_new w (.cells #[.int .i64 L, .slice A l.length c] 24) rfl) HB.out (by omega))
    have q1 : wr.cell? ⟨w.heap.size, 1, none⟩ = some (.slice A l.length c) := blk_cell B0.out 1
    by_cases hlt : i < l.length
    · obtain ⟨ad, rfl, c0, c1, c2, c3, c4, c5⟩ := (HR.out.below HBw.out).pk i h0 hlt
      clear c0 c1 c2 c3 c4
      by_cases hs : (gp l i).data.size ≤ 200
      · have e1 : decide (200 < (gp l i).data.size) = false := by simp; omega
        have e2 : decide ((200 : Int) < ((gp l i).data.size : Int)) = false := by simp; omega
        set_option maxRecDepth 100000 in go_wp2
        go_roundw
        case rel => exact ⟨i + 1, rfl, by omega, by omega, fun j a b => by
          by_cases hj : j = i
          · rw [hj]; exact hs
          · exact HN.out j a (by omega), HB⟩
        case measure => simp [intOf]; omega
      · have e1 : decide (200 < (gp l i).data.size) = true := by simp; omega
        have e2 : decide ((200 : Int) < ((gp l i).data.size : Int)) = true := by simp; omega
        set_option maxRecDepth 100000 in go_wp2
        go_ret
        exact ⟨ret_bool (few_no h0 hlt hs), HBw.out⟩
    · go_wp2
      go_ret
      exact ⟨ret_bool (by symm; rw [few_iff]; exact ⟨by omega, fun j a b => HN.out j a (by omega)⟩), HBw.out⟩

def sameQ (L : Int) (l : List Pk) (L2 : Int) (l2 : List Pk) : Bool := L == L2 && samePk l l2
theorem sameQ_self (L : Int) (l : List Pk) : sameQ L l L l = true := by
  unfold sameQ; rw [samePk_iff.2 rfl]; simp
set_option maxHeartbeats 800000 in
theorem same_any (L : Int) (A : Option Addr) (c : Nat) (l : List Pk) (L2 : Int) (A2 : Option Addr) (c2 : Nat) (l2 : List Pk) (w : World) (hr : RowAt Pk.cells 6 w A l) (hr2 : RowAt Pk.cells 6 w A2 l2) :
    Calls Try.prog 24 #[.agg #[.int .i64 L, .slice A l.length c], .agg #[.int .i64 L2, .slice A2 l2.length c2]] w fun e w' => e = .returned (.bool (sameQ L l L2 l2)) ∧ Below w.heap.size w w' := by
  have HR := Lib.hid hr
  have HR2 := Lib.hid hr2
  clear hr hr2
  have hu24 := Try.underlying24
  have HB := Lib.hid (show Below w.heap.size w ((w.alloc (.cells #[.int .i64 L, .slice A l.length c] 24)).alloc (.cells #[.int .i64 L2, .slice A2 l2.length c2] 24)) from ((Below.refl _ _).alloc (Nat.le_refl _) _).alloc (by simp) _)
  obtain ⟨x, hx⟩ : ∃ x, (L == L2) = x := ⟨_, rfl⟩
  cases x
  · have HS := Lib.hid (show false = sameQ L l L2 l2 by unfold sameQ; rw [hx]; rfl)
    go_enter Try.func24, Try.ntmps24
    go_wp2
    go_ret
    exact ⟨ret_bool HS.out, HB.out⟩
  · have HS := Lib.hid (show samePk l l2 = sameQ L l L2 l2 by unfold sameQ; rw [hx]; rfl)
    go_enter Try.func24, Try.ntmps24
    go_wp2_with (go_at_call 25; refine (samePackets_any A c l A2 c2 l2 _ (HR.out.below HB.out) (HR2.out.below HB.out)).mono ?_; rintro e w' ⟨rfl, hb'⟩)
    go_ret
    exact ⟨ret_bool HS.out, HB.out.trans (Below.mono (by assumption) (by simp; omega))⟩
end Go.Proofs.Ytckanomabhbkaaa
