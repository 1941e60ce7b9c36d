/- First of the program and of the reference, walked. -/
import Derived.Test.YtckanomabhbkaaaQX2
import Derived.Test.YtckanomabhbkaaaQX3
import Derived.Deep.RegionWith
namespace Go.Proofs.Ytckanomabhbkaaa
open Go.RowKit Go.Shelf
set_option linter.unusedVariables false
def firstI (L : Int) (l : List Pk) (d : Int) : Int := if chk L l ≠ 0 then -1 else fidx (top d) l
def firstP (L : Int) (l : List Pk) (d : Int) : Pk := if firstI L l d < 0 then Pk.zero else gp l (firstI L l d)
def firstB (L : Int) (l : List Pk) (d : Int) : Bool := decide (0 ≤ firstI L l d)
theorem first_no {L : Int} {l : List Pk} {d : Int} (h : firstI L l d < 0) : Ending.returned (.tuple #[pkv Pk.zero, .bool false]) = .returned (.tuple #[pkv (firstP L l d), .bool (firstB L l d)]) := by
  unfold firstP firstB; rw [if_pos h, decide_eq_false (by omega)]
theorem first_yes {L : Int} {l : List Pk} {d : Int} {m : Nat} (h : firstI L l d = m) : Ending.returned (.tuple #[pkv (gp l m), .bool true]) = .returned (.tuple #[pkv (firstP L l d), .bool (firstB L l d)]) := by
  unfold firstP firstB; rw [if_neg (by omega), decide_eq_true (by omega), h]
def fsW (w : World) (L : Int) (A : Option Addr) (c : Nat) (l : List Pk) : World := (w.alloc (.cells #[.int .i64 L, .slice A l.length c] 24)).alloc (.cells #[.int .i64 0, .int .i64 0, .int .i64 0, .int .i64 0, .int .i64 0, .string ⟨#[]⟩] 30)
theorem fsW_size (w : World) (L : Int) (A : Option Addr) (c : Nat) (l : List Pk) : (fsW w L A c l).heap.size = w.heap.size + 2 := by simp [fsW]
theorem fsW_below (w : World) (L : Int) (A : Option Addr) (c : Nat) (l : List Pk) : Below w.heap.size w (fsW w L A c l) := ((Below.refl _ _).alloc (Nat.le_refl _) _).alloc (by simp) _
theorem fsW_blocks {w w1 : World} {L : Int} {A : Option Addr} {c : Nat} {l : List Pk} (hb : Below (w.heap.size + 2) (fsW w L A c l) w1) :
    w1.heap[w.heap.size]? = some (.cells #[.int .i64 L, .slice A l.length c] 24 (0, 0)) ∧ w1.heap[w.heap.size + 1]? = some (.cells #[.int .i64 0, .int .i64 0, .int .i64 0, .int .i64 0, .int .i64 0, .string ⟨#[]⟩] 30 (0, 0)) :=
  ⟨blk_below (blk_old (blk_new w _ rfl) _) hb (by omega), blk_below (blk_new (w.alloc (.cells #[.int .i64 L, .slice A l.length c] 24)) _ (by simp)) hb (by omega)⟩
theorem cells24 {w1 : World} {Q : Nat} {L : Int} {A : Option Addr} {n c : Nat} (h : w1.heap[Q]? = some (.cells #[.int .i64 L, .slice A n c] 24 (0, 0))) : w1.cell? ⟨Q, 0, none⟩ = some (.int .i64 L) ∧ w1.cell? ⟨Q, 1, none⟩ = some (.slice A n c) := ⟨blk_cell h 0, blk_cell h 1⟩
set_option maxHeartbeats 1600000 in
theorem qfirst_any (L : Int) (A : Option Addr) (c : Nat) (l : List Pk) (d : Int) (w : World) (hr : PkAt w A c l) (hids : IdsOk l) :
    Calls Try.prog 38 #[.agg #[.int .i64 L, .slice A l.length c], .int .i64 d] w fun e w' => e = .returned (.tuple #[pkv (firstP L l d), .bool (firstB L l d)]) ∧ Below w.heap.size w w' := by
  have HR := Lib.hid hr
  have hu24 := Try.underlying24
  have hu30 := Try.underlying30
  have HW := Lib.hid (fsW_below w L A c l)
  have HIDS := Lib.hid hids
  clear hr hids
  by_cases h1 : chk L l = 0
  case neg =>
    have HE := Lib.hid (show firstI L l d < 0 by unfold firstI; rw [if_pos h1]; decide)
    have b1 : (chk L l != 0) = true := by simp [h1]
    clear h1
    go_enter Try.func38, Try.ntmps38
    go_wp2_with fail
    refine (check_any L A c l _ (HR.out.row.below HW.out) HIDS.out).mono ?_
    rintro e w1 ⟨rfl, hb1⟩
    have HB1 := Lib.hid (show Below (w.heap.size + 2) (fsW w L A c l) w1 from by have h := hb1; rw [← fsW_size w L A c l]; exact h)
    have hB := fsW_blocks HB1.out
    obtain ⟨s0, s1, s2, s3, s4, s5⟩ := box6 hB.2
    obtain ⟨t0, t1, t2, t3, t4, t5⟩ := box6f hB.2
    clear hb1 hB
    go_wp2
    refine bodyPost_ret (v := .tuple #[pkv Pk.zero, .bool false]) (by simp [results, Try.results38, go_sem, s0, s1, s2, s3, s4, s5, pkv, Pk.zero]) rfl ⟨first_no HE.out, ?_⟩
    have HX := HW.out.trans (HB1.out.mono (by omega))
    exact (((((HX.setCell (by simp) _).setCell (by simp) _).setCell (by simp) _).setCell (by simp) _).setCell (by simp) _).setCell (by simp) _
  have b1 : (chk L l != 0) = false := by simp [h1]
  have hkr := fidx_range (top d) l
  obtain ⟨k, hk⟩ : ∃ k, fidx (top d) l = k := ⟨_, rfl⟩
  have HK := Lib.hid hk
  have HI := Lib.hid (show firstI L l d = k by unfold firstI; rw [if_neg (by rw [h1]; simp), hk])
  rw [hk] at hkr
  have hcap := HR.out.cap
  by_cases h3 : k < 0
  case pos =>
    have HE := Lib.hid (show firstI L l d < 0 by rw [HI.out]; exact h3)
    have b3 : decide (0 ≤ k) = false := by simp; omega
    clear h1 hk h3
    go_enter Try.func38, Try.ntmps38
    go_wp2_with fail
    refine (check_any L A c l _ (HR.out.row.below HW.out) HIDS.out).mono ?_
    rintro e w1 ⟨rfl, hb1⟩
    have HB1 := Lib.hid (show Below (w.heap.size + 2) (fsW w L A c l) w1 from by have h := hb1; rw [← fsW_size w L A c l]; exact h)
    have hB := fsW_blocks HB1.out
    obtain ⟨q0, q1⟩ := cells24 hB.1
    have hz1 : w.heap.size + 2 ≤ w1.heap.size := by have := HB1.out.size; rwa [fsW_size] at this
    clear hb1 hB
    go_wp2_with fail
    refine (first_any A c l d _ (HR.out.row.below (HW.out.trans (HB1.out.mono (by omega))))).mono ?_
    rintro e w2 ⟨rfl, hb2⟩
    rw [HK.out]
    have HB2 := Lib.hid (HB1.out.trans (hb2.mono hz1))
    have hB := fsW_blocks HB2.out
    clear q0 q1 hb2
    obtain ⟨q0, q1⟩ := cells24 hB.1
    obtain ⟨s0, s1, s2, s3, s4, s5⟩ := box6 hB.2
    obtain ⟨t0, t1, t2, t3, t4, t5⟩ := box6f hB.2
    clear hB
    go_wp2
    refine bodyPost_ret (v := .tuple #[pkv Pk.zero, .bool false]) (by simp [results, Try.results38, go_sem, s0, s1, s2, s3, s4, s5, pkv, Pk.zero]) rfl ⟨first_no HE.out, ?_⟩
    have HX := HW.out.trans (HB2.out.mono (by omega))
    exact (((((HX.setCell (by simp) _).setCell (by simp) _).setCell (by simp) _).setCell (by simp) _).setCell (by simp) _).setCell (by simp) _
  obtain ⟨m, rfl⟩ : ∃ m : Nat, k = m := ⟨k.toNat, by omega⟩
  have hml : m < l.length := by omega
  have b3 : decide ((0 : Int) ≤ (m : Int)) = true := by simp
  have b4 : (0 : Int) ≤ (m : Int) := by omega
  have b5 : (m : Int) < l.length := by omega
  clear h1 hk h3 hkr
  go_enter Try.func38, Try.ntmps38
  go_wp2_with fail
  refine (check_any L A c l _ (HR.out.row.below HW.out) HIDS.out).mono ?_
  rintro e w1 ⟨rfl, hb1⟩
  have HB1 := Lib.hid (show Below (w.heap.size + 2) (fsW w L A c l) w1 from by have h := hb1; rw [← fsW_size w L A c l]; exact h)
  have hB := fsW_blocks HB1.out
  obtain ⟨q0, q1⟩ := cells24 hB.1
  have hz1 : w.heap.size + 2 ≤ w1.heap.size := by have := HB1.out.size; rwa [fsW_size] at this
  clear hb1 hB
  go_wp2_with fail
  refine (first_any A c l d _ (HR.out.row.below (HW.out.trans (HB1.out.mono (by omega))))).mono ?_
  rintro e w2 ⟨rfl, hb2⟩
  rw [HK.out]
  have HB2 := Lib.hid (HB1.out.trans (hb2.mono hz1))
  have hB := fsW_blocks HB2.out
  clear q0 q1 hb2
  obtain ⟨q0, q1⟩ := cells24 hB.1
  obtain ⟨s0, s1, s2, s3, s4, s5⟩ := box6 hB.2
  obtain ⟨t0, t1, t2, t3, t4, t5⟩ := box6f hB.2
  clear hB
  obtain ⟨ad, e', c0, c1, c2, c3, c4, c5⟩ := (HR.out.row.below (HW.out.trans (HB2.out.mono (by omega)))).pk m b4 b5
  subst e'
  rw [Int.toNat_natCast] at c0 c1 c2 c3 c4 c5
  have hab : (ad.add (m * 6)).block < w.heap.size := cell_lt (RowAt.pkn HR.out.row hml).1
  go_wp2
  refine bodyPost_ret (v := .tuple #[pkv (gp l m), .bool true]) (by simp [results, Try.results38, go_sem, s0, s1, s2, s3, s4, s5, pkv]) rfl ⟨first_yes HI.out, ?_⟩
  have HX := HW.out.trans (HB2.out.mono (by omega))
  exact (((((HX.setCell (by simp) _).setCell (by simp) _).setCell (by simp) _).setCell (by simp) _).setCell (by simp) _).setCell (by simp) _
set_option maxHeartbeats 1600000 in
theorem refFirst_any (L : Int) (A : Option Addr) (c : Nat) (l : List Pk) (d : Int) (w : World) (hr : PkAt w A c l) :
    Calls Try.prog 39 #[.agg #[.int .i64 L, .slice A l.length c], .int .i64 d] w fun e w' => e = .returned (.tuple #[pkv (firstP L l d), .bool (firstB L l d)]) ∧ Below w.heap.size w w' := by
  have HR := Lib.hid hr
  have hu24 := Try.underlying24
  have hu30 := Try.underlying30
  have HW := Lib.hid (fsW_below w L A c l)
  have hcap := hr.cap
  have hle := hr.le
  clear hr
  by_cases h1 : chk L l = 0
  case neg =>
    have HE := Lib.hid (show firstI L l d < 0 by unfold firstI; rw [if_pos h1]; decide)
    have b1 : (chk L l != 0) = true := by simp [h1]
    clear h1
    go_enter Try.func39, Try.ntmps39
    go_wp2_with fail
    refine (refCheck_any L A c l _ (HR.out.row.below HW.out)).mono ?_
    rintro e w1 ⟨rfl, hb1⟩
    have HB1 := Lib.hid (show Below (w.heap.size + 2) (fsW w L A c l) w1 from by have h := hb1; rw [← fsW_size w L A c l]; exact h)
    have hB := fsW_blocks HB1.out
    obtain ⟨s0, s1, s2, s3, s4, s5⟩ := box6 hB.2
    obtain ⟨t0, t1, t2, t3, t4, t5⟩ := box6f hB.2
    clear hb1 hB
    go_wp2
    refine bodyPost_ret (v := .tuple #[pkv Pk.zero, .bool false]) (by simp [results, Try.results39, go_sem, s0, s1, s2, s3, s4, s5, pkv, Pk.zero]) rfl ⟨first_no HE.out, ?_⟩
    have HX := HW.out.trans (HB1.out.mono (by omega))
    exact (((((HX.setCell (by simp) _).setCell (by simp) _).setCell (by simp) _).setCell (by simp) _).setCell (by simp) _).setCell (by simp) _
  have b1 : (chk L l != 0) = false := by simp [h1]
  have HI := Lib.hid (show firstI L l d = fidx (top d) l by unfold firstI; rw [if_neg (by rw [h1]; simp)])
  clear h1
  go_enter Try.func39, Try.ntmps39
  go_wp2_with fail
  refine (refCheck_any L A c l _ (HR.out.row.below HW.out)).mono ?_
  rintro e w1 ⟨rfl, hb1⟩
  have HB1 := Lib.hid (show Below (w.heap.size + 2) (fsW w L A c l) w1 from by have h := hb1; rw [← fsW_size w L A c l]; exact h)
  have hB := fsW_blocks HB1.out
  obtain ⟨q0, q1⟩ := cells24 hB.1
  obtain ⟨s0, s1, s2, s3, s4, s5⟩ := box6 hB.2
  obtain ⟨t0, t1, t2, t3, t4, t5⟩ := box6f hB.2
  clear hb1 hB
  go_wp2
  go_loop [6] (fun v => ∃ i : Nat, v = .int .i64 i ∧ i ≤ l.length ∧ Hid (∀ j : Int, 0 ≤ j → j < i → top d (gp l j) = false)) (fun v => (l.length - (intOf v)).toNat)
  case atStart => exact ⟨0, rfl, by omega, fun j h0 h1 => by omega⟩
  case round =>
    obtain ⟨i, rfl, hil, HN⟩ := hrel
    by_cases hlt : i < l.length
    · obtain ⟨ad, e', c0, c1, c2, c3, c4, c5⟩ := (HR.out.row.below (HW.out.trans (HB1.out.mono (by omega)))).pk i (by omega) (by omega)
      subst e'
      rw [Int.toNat_natCast] at c0 c1 c2 c3 c4 c5
      have hli : decide ((i : Int) < l.length) = true := by simp; omega
      have g1 : (0 : Int) ≤ i := by omega
      have g2 : (i : Int) < l.length := by omega
      have hab : (ad.add (i * 6)).block < w.heap.size := cell_lt (RowAt.pkn HR.out.row hlt).1
      by_cases hp : (gp l i).dst = d
      · have hd2 : ((gp l i).dst == d) = true := by simp [hp]
        have HF := Lib.hid (show firstI L l d = i by rw [HI.out]; exact fidx_hit (by omega) (by omega) (by simp [top, hp]) HN.out)
        clear hp
        go_wp2
        refine bodyPost_ret (v := .tuple #[pkv (gp l i), .bool true]) (by simp [results, Try.results39, go_sem, s0, s1, s2, s3, s4, s5, pkv]) rfl ⟨first_yes HF.out, ?_⟩
        have HX := HW.out.trans (HB1.out.mono (by omega))
        exact (((((HX.setCell (by simp) _).setCell (by simp) _).setCell (by simp) _).setCell (by simp) _).setCell (by simp) _).setCell (by simp) _
      · have hd2 : ((gp l i).dst == d) = false := by simp [hp]
        have HN2 := Lib.hid (show ∀ j : Int, 0 ≤ j → j < ((i + 1 : Nat) : Int) → top d (gp l j) = false from fun j h0 h1 => by
          by_cases hj : j = i
          · subst hj; simp [top, hp]
          · exact HN.out j h0 (by omega))
        clear hp
        go_wp2
        go_round
        case rel => exact ⟨i + 1, by simp, by omega, HN2⟩
        case measure => simp [intOf]; omega
    · have hli : decide ((i : Int) < l.length) = false := by simp; omega
      obtain rfl : i = l.length := by omega
      have HF := Lib.hid (show firstI L l d < 0 by rw [HI.out, fidx_miss HN.out]; decide)
      go_wp2
      refine bodyPost_ret (v := .tuple #[pkv Pk.zero, .bool false]) (by simp [results, Try.results39, go_sem, s0, s1, s2, s3, s4, s5, pkv, Pk.zero]) rfl ⟨first_no HF.out, ?_⟩
      have HX := HW.out.trans (HB1.out.mono (by omega))
      exact (((((HX.setCell (by simp) _).setCell (by simp) _).setCell (by simp) _).setCell (by simp) _).setCell (by simp) _).setCell (by simp) _
end Go.Proofs.Ytckanomabhbkaaa
