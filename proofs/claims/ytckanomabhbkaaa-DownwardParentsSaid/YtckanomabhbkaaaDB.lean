/- Check of reports, of the program and of the reference; the reference's index; walked. -/
import Derived.Test.YtckanomabhbkaaaDA
import Derived.Deep.QuietTactic
import Derived.BigQuiet
namespace Go.Proofs.Ytckanomabhbkaaa
open Go.RowKit
set_option linter.unusedVariables false
/-- At place i of a list: the report's own error, then 5 (ErrOrder). -/
def rerrAt (l : List Rp) (i : Int) : Int :=
  if rform (gr l i) ≠ 0 then rform (gr l i) else if 0 < i ∧ (gr l i).node ≤ (gr l (i - 1)).node then 5 else 0
def rfirstErr (l : List Rp) : Nat → Int → Int
  | 0, _ => 0
  | n + 1, i => if rerrAt l i ≠ 0 then rerrAt l i else rfirstErr l n (i + 1)
/-- The first error of a list. -/
def rchk (l : List Rp) : Int := rfirstErr l l.length 0
theorem rfirstErr_stop {l : List Rp} {i : Int} (h : i < l.length) (he : rerrAt l i ≠ 0) : rfirstErr l (l.length - i).toNat i = rerrAt l i := by
  obtain ⟨n, hn⟩ : ∃ n, (l.length - i).toNat = n + 1 := ⟨(l.length - i).toNat - 1, by omega⟩
  rw [hn, rfirstErr, if_pos he]
theorem rfirstErr_go {l : List Rp} {i : Int} (h : i < l.length) (he : rerrAt l i = 0) : rfirstErr l (l.length - i).toNat i = rfirstErr l (l.length - (i + 1)).toNat (i + 1) := by
  obtain ⟨n, hn⟩ : ∃ n, (l.length - i).toNat = n + 1 := ⟨(l.length - i).toNat - 1, by omega⟩
  rw [hn, rfirstErr, if_neg (by simp [he])]
  congr 1
  omega
theorem rfirstErr_end {l : List Rp} {i : Int} (h : ¬ i < l.length) : rfirstErr l (l.length - i).toNat i = 0 := by
  rw [show (l.length - i).toNat = 0 from by omega, rfirstErr]
set_option maxHeartbeats 1600000 in
theorem refRcheck_any (A : Option Addr) (c : Nat) (l : List Rp) (w : World) (hr : RpAt w A c l) :
    Calls Try.prog 48 #[.slice A l.length c] w fun e w' => e = .returned (.int .i64 (rchk l)) ∧ Below w.heap.size w w' := by
  have HR := Lib.hid hr.row
  have hb := hr.row.1
  clear hr
  have hu70 := Try.underlying70
  have HC := Lib.hid (show rchk l = rfirstErr l (l.length - (0 : Int)).toNat 0 by unfold rchk; simp)
  go_enter Try.func48, Try.ntmps48
  go_wp2
  go_loopw [3] (fun v wr => ∃ i : Int, v = .int .i64 i ∧ 0 ≤ i ∧ i ≤ l.length ∧ Hid (rchk l = rfirstErr l (l.length - i).toNat i) ∧ Hid (Below w.heap.size w wr)) (fun v _ => (l.length - (intOf v)).toNat)
  case atStart => exact ⟨0, rfl, by omega, by omega, HC.out, Below.refl _ _⟩
  case round =>
    obtain ⟨i, rfl, h0, hle, HN, HB⟩ := hrel
    by_cases hlt : i < l.length
    · obtain ⟨ad, rfl, c0, c1, c2⟩ := (HR.out.below HB.out).rp i h0 hlt
      go_wp2_with fail
      refine (rreport_any _ _).mono ?_
      rintro e w1 ⟨rfl, hb1⟩
      have HB1 := Lib.hid (HB.out.trans (hb1.mono HB.out.size))
      clear hb1 c0 c1 c2
      by_cases hp : rform (gr l i) = 0
      · have b1 : (rform (gr l i) != 0) = false := by simp [hp]
        have HP := Lib.hid hp
        clear hp
        by_cases hi0 : 0 < i
        · have b3 : decide (0 < i) = true := by simp [hi0]
          obtain ⟨ad', e', c0, _, _⟩ := (HR.out.below HB1.out).rp i h0 hlt
          cases e'
          obtain ⟨ad', e', d0, _, _⟩ := (HR.out.below HB1.out).rp (i - 1) (by omega) (by omega)
          cases e'
          rw [show (i - 1).toNat = i.toNat - 1 from by omega] at d0
          have g1 : IntKind.i64.wrap (i - 1) = i - 1 := IntWalk.i64_in _ (by omega)
          have g2 : 0 ≤ i - 1 := by omega
          have g3 : i - 1 < l.length := by omega
          have g4 : 1 ≤ i := by omega
          by_cases ho : (gr l i).node ≤ (gr l (i - 1)).node
          · have HE := Lib.hid (show rerrAt l i = 5 by unfold rerrAt; rw [if_neg (by simp [HP.out]), if_pos ⟨hi0, ho⟩])
            have b4 : decide ((gr l i).node ≤ (gr l (i - 1)).node) = true := by simp [ho]
            go_wp2
            go_quiet (fail)
            clear g1 g2 g3 g4
            go_wp2
            go_ret
            exact ⟨ret_int (by rw [HN.out, rfirstErr_stop hlt (by rw [HE.out]; decide), HE.out]), by repeat (first | exact HB1.out | apply Below.drew | apply blw_drewN)⟩
          · have HE := Lib.hid (show rerrAt l i = 0 by unfold rerrAt; rw [if_neg (by simp [HP.out]), if_neg (fun h => ho h.2)])
            have b4 : decide ((gr l i).node ≤ (gr l (i - 1)).node) = false := by simp [ho]
            go_wp2
            go_quiet (fail)
            clear g1 g2 g3 g4
            go_wp2
            go_roundw
            case rel => exact ⟨i + 1, rfl, by omega, by omega, HN.out.trans (rfirstErr_go hlt HE.out), by repeat (first | exact HB1.out | apply Below.drew | apply blw_drewN)⟩
            case measure => simp [intOf]; omega
        · have HE := Lib.hid (show rerrAt l i = 0 by unfold rerrAt; rw [if_neg (by simp [HP.out]), if_neg (fun h => hi0 h.1)])
          have b3 : decide (0 < i) = false := by simp [hi0]
          go_wp2
          go_quiet (fail)
          go_wp2
          go_roundw
          case rel => exact ⟨i + 1, rfl, by omega, by omega, HN.out.trans (rfirstErr_go hlt HE.out), by repeat (first | exact HB1.out | apply Below.drew | apply blw_drewN)⟩
          case measure => simp [intOf]; omega
      · have b1 : (rform (gr l i) != 0) = true := by simp [hp]
        have HE := Lib.hid (show rerrAt l i = rform (gr l i) by unfold rerrAt; rw [if_pos hp])
        have HP := Lib.hid hp
        clear hp
        go_wp2
        go_ret
        exact ⟨ret_int (by rw [HN.out, rfirstErr_stop hlt (by rw [HE.out]; exact HP.out), HE.out]), HB1.out⟩
    · go_wp2
      go_ret
      exact ⟨ret_int (by rw [HN.out, rfirstErr_end (by omega)]), HB.out⟩
set_option maxHeartbeats 1600000 in
theorem rcheck_any (A : Option Addr) (c : Nat) (l : List Rp) (w : World) (hr : RpAt w A c l) :
    Calls Try.prog 47 #[.slice A l.length c] w fun e w' => e = .returned (.int .i64 (rchk l)) ∧ Below w.heap.size w w' := by
  have HR := Lib.hid hr.row
  have hb := hr.row.1
  clear hr
  have hu70 := Try.underlying70
  have HC := Lib.hid (show rchk l = rfirstErr l (l.length - (0 : Int)).toNat 0 by unfold rchk; simp)
  go_enter Try.func47, Try.ntmps47
  go_wp2
  go_loopw [8] (fun v wr => ∃ i : Int, v = .int .i64 i ∧ 0 ≤ i ∧ i ≤ l.length ∧ Hid (rchk l = rfirstErr l (l.length - i).toNat i) ∧ Hid (Below w.heap.size w wr)) (fun v _ => (l.length - (intOf v)).toNat)
  case atStart => exact ⟨0, rfl, by omega, by omega, HC.out, Below.refl _ _⟩
  case round =>
    obtain ⟨i, rfl, h0, hle, HN, HB⟩ := hrel
    by_cases hlt : i < l.length
    · obtain ⟨ad, rfl, c0, c1, c2⟩ := (HR.out.below HB.out).rp i h0 hlt
      go_wp2_with fail
      refine (rform_any _ _).mono ?_
      rintro e w1 ⟨rfl, hb1⟩
      have HPB := Lib.hid (blk_below (blk_new wr (.cells #[.int .i64 (gr l i).node, .int .i64 (gr l i).parent, .int .i64 (gr l i).num] 70) rfl) hb1 (by simp))
      have HB1 := Lib.hid ((HB.out.alloc HB.out.size (.cells #[.int .i64 (gr l i).node, .int .i64 (gr l i).parent, .int .i64 (gr l i).num] 70)).trans (hb1.mono (by have := HB.out.size; simp; omega)))
      have p0 : w1.cell? ⟨wr.heap.size, 0, none⟩ = some (.int .i64 (gr l i).node) := blk_cell HPB.out 0
      clear hb1 c0 c1 c2
      by_cases hp : rform (gr l i) = 0
      · have b1 : (rform (gr l i) != 0) = false := by simp [hp]
        have HP := Lib.hid hp
        clear hp
        by_cases hi0 : 0 < i
        · have b3 : decide (0 < i) = true := by simp [hi0]
          obtain ⟨ad', e', d0, _, _⟩ := (HR.out.below HB1.out).rp (i - 1) (by omega) (by omega)
          cases e'
          rw [show (i - 1).toNat = i.toNat - 1 from by omega] at d0
          have g1 : IntKind.i64.wrap (i - 1) = i - 1 := IntWalk.i64_in _ (by omega)
          have g2 : 0 ≤ i - 1 := by omega
          have g3 : i - 1 < l.length := by omega
          have g4 : 1 ≤ i := by omega
          by_cases ho : (gr l i).node ≤ (gr l (i - 1)).node
          · have HE := Lib.hid (show rerrAt l i = 5 by unfold rerrAt; rw [if_neg (by simp [HP.out]), if_pos ⟨hi0, ho⟩])
            have b4 : decide ((gr l i).node ≤ (gr l (i - 1)).node) = true := by simp [ho]
            go_wp2
            go_quiet (fail)
            clear g1 g2 g3 g4
            go_wp2
            go_ret
            exact ⟨ret_int (by rw [HN.out, rfirstErr_stop hlt (by rw [HE.out]; decide), HE.out]), by repeat (first | exact HB1.out | apply Below.drew | apply blw_drewN)⟩
          · have HE := Lib.hid (show rerrAt l i = 0 by unfold rerrAt; rw [if_neg (by simp [HP.out]), if_neg (fun h => ho h.2)])
            have b4 : decide ((gr l i).node ≤ (gr l (i - 1)).node) = false := by simp [ho]
            go_wp2
            go_quiet (fail)
            clear g1 g2 g3 g4
            go_wp2
            go_roundw
            case rel => exact ⟨i + 1, rfl, by omega, by omega, HN.out.trans (rfirstErr_go hlt HE.out), by repeat (first | exact HB1.out | apply Below.drew | apply blw_drewN)⟩
            case measure => simp [intOf]; omega
        · have HE := Lib.hid (show rerrAt l i = 0 by unfold rerrAt; rw [if_neg (by simp [HP.out]), if_neg (fun h => hi0 h.1)])
          have b3 : decide (0 < i) = false := by simp [hi0]
          go_wp2
          go_quiet (fail)
          go_wp2
          go_roundw
          case rel => exact ⟨i + 1, rfl, by omega, by omega, HN.out.trans (rfirstErr_go hlt HE.out), by repeat (first | exact HB1.out | apply Below.drew | apply blw_drewN)⟩
          case measure => simp [intOf]; omega
      · have b1 : (rform (gr l i) != 0) = true := by simp [hp]
        have HE := Lib.hid (show rerrAt l i = rform (gr l i) by unfold rerrAt; rw [if_pos hp])
        have HP := Lib.hid hp
        clear hp
        go_wp2
        go_ret
        exact ⟨ret_int (by rw [HN.out, rfirstErr_stop hlt (by rw [HE.out]; exact HP.out), HE.out]), HB1.out⟩
    · go_wp2
      go_ret
      exact ⟨ret_int (by rw [HN.out, rfirstErr_end (by omega)]), HB.out⟩
/-- Where the report of a node is, -1 if there is none. -/
def ridx (l : List Rp) (n : Int) : Int := match l.findIdx? (fun r => r.node == n) with | some k => (k : Int) | none => -1
theorem ridx_hit {l : List Rp} {n i : Int} (h0 : 0 ≤ i) (h1 : i < l.length) (he : (gr l i).node = n) (hn : ∀ j : Int, 0 ≤ j → j < i → (gr l j).node ≠ n) : ridx l n = i := by
  unfold ridx
  have hk : l.findIdx? (fun r => r.node == n) = some i.toNat := by
    rw [List.findIdx?_eq_some_iff_getElem]
    refine ⟨by omega, by rw [← gr_elem' h0 h1]; simp [he], fun j hj => ?_⟩
    have := hn j (by omega) (by omega)
    rw [gr_elem (by omega)] at this
    simp [this]
  rw [hk]; simp only; omega
theorem ridx_miss {l : List Rp} {n : Int} (hn : ∀ j : Int, 0 ≤ j → j < l.length → (gr l j).node ≠ n) : ridx l n = -1 := by
  unfold ridx
  have hk : l.findIdx? (fun r => r.node == n) = none := by
    rw [List.findIdx?_eq_none_iff]
    intro x hx
    obtain ⟨j, hj, rfl⟩ := List.getElem_of_mem hx
    have := hn j (by omega) (by omega)
    rw [gr_elem hj] at this
    simp [this]
  rw [hk]
theorem ridx_range (l : List Rp) (n : Int) : -1 ≤ ridx l n ∧ ridx l n < l.length := by
  unfold ridx
  cases hk : l.findIdx? (fun r => r.node == n) with
  | none => simp only; omega
  | some k =>
    rw [List.findIdx?_eq_some_iff_getElem] at hk
    obtain ⟨h, _⟩ := hk
    simp only; omega
theorem ridx_spec {l : List Rp} {n : Int} (h : 0 ≤ ridx l n) : (gr l (ridx l n)).node = n := by
  unfold ridx at h ⊢
  cases hk : l.findIdx? (fun r => r.node == n) with
  | none => rw [hk] at h; simp at h
  | some k =>
    rw [List.findIdx?_eq_some_iff_getElem] at hk
    obtain ⟨hl, hp, _⟩ := hk
    simp only
    rw [gr_elem hl]
    simpa using hp
theorem ridx_neg {l : List Rp} {n : Int} (h : ridx l n < 0) : ∀ j : Int, 0 ≤ j → j < l.length → (gr l j).node ≠ n := by
  unfold ridx at h
  cases hk : l.findIdx? (fun r => r.node == n) with
  | none =>
    rw [List.findIdx?_eq_none_iff] at hk
    intro j h0 h1
    rw [gr_elem' h0 h1]
    simpa using hk _ (List.getElem_mem _)
  | some k => rw [hk] at h; simp only at h; omega
set_option maxHeartbeats 800000 in
theorem refRindex_any (A : Option Addr) (c : Nat) (l : List Rp) (n : Int) (w : World) (hr : RpAt w A c l) :
    Calls Try.prog 91 #[.slice A l.length c, .int .i64 n] w fun e w' => e = .returned (.int .i64 (ridx l n)) ∧ w = w' := by
  have HR := Lib.hid hr.row
  have hb := hr.row.1
  clear hr
  go_enter Try.func91, Try.ntmps91
  go_wp2
  go_loop [5] (fun v => ∃ i : Nat, v = .int .i64 i ∧ i ≤ l.length ∧ Hid (∀ j : Int, 0 ≤ j → j < i → (gr l j).node ≠ n)) (fun v => (l.length - (intOf v)).toNat)
  case atStart => exact ⟨0, rfl, by omega, fun j h0 h1 => by omega⟩
  case round =>
    obtain ⟨i, rfl, hle, HN⟩ := hrel
    by_cases hlt : i < l.length
    · obtain ⟨ad, rfl, c0, _, _⟩ := HR.out.rp i (by omega) (by omega)
      rw [Int.toNat_natCast] at c0
      have g1 : (0 : Int) ≤ i := by omega
      have g2 : (i : Int) < l.length := by omega
      have bl : decide ((i : Int) < l.length) = true := by simp; omega
      by_cases hp : (gr l i).node = n
      · have b1 : ((gr l i).node == n) = true := by simp [hp]
        have HF := Lib.hid (ridx_hit g1 g2 hp HN.out)
        clear hp
        go_wp2
        go_ret
        exact ⟨ret_int HF.out.symm, rfl⟩
      · have b1 : ((gr l i).node == n) = false := by simp [hp]
        have HN2 := Lib.hid (show ∀ j : Int, 0 ≤ j → j < ((i + 1 : Nat) : Int) → (gr l j).node ≠ n from fun j h0 h1 => by
          by_cases hj : j = i
          · subst hj; exact hp
          · exact HN.out j h0 (by omega))
        clear hp
        go_wp2
        go_round
        case rel => exact ⟨i + 1, by simp, by omega, HN2⟩
        case measure => simp [intOf]; omega
    · have bl : decide ((i : Int) < l.length) = false := by simp; omega
      obtain rfl : i = l.length := by omega
      go_wp2
      go_ret
      exact ⟨ret_int (ridx_miss HN.out).symm, rfl⟩
end Go.Proofs.Ytckanomabhbkaaa
