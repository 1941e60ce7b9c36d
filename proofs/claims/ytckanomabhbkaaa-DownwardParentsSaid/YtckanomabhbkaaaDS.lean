/- Step of the program and of the reference, walked. -/
import Derived.Test.YtckanomabhbkaaaDZ
import Derived.Test.YtckanomabhbkaaaQA3
namespace Go.Proofs.Ytckanomabhbkaaa
open Go.RowKit Go.Shelf
set_option linter.unusedVariables false
def sI (s : ByteArray) : List UInt8 := s.data.toList
def restS (s : ByteArray) : ByteArray := ⟨(sI s).tail.toArray⟩
/-- Step's results. -/
def stepAns (s : ByteArray) (self : Int) : Value := .tuple #[.int .i64 (stepN (sI s) self), .string ⟨(stepL (sI s) self).toArray⟩, .int .i64 (stepE (sI s) self)]
theorem stepAns_bad {s : ByteArray} {self E : Int} (h : stepE (sI s) self = E) (h0 : E ≠ 0) : Ending.returned (.tuple #[.int .i64 0, .string ⟨#[]⟩, .int .i64 E]) = .returned (stepAns s self) := by
  unfold stepAns stepN stepL
  rw [h, if_neg h0, if_neg h0]
theorem head_get (s : ByteArray) (h : 0 < s.size) : (sI s).headD 0 = s[0] := by
  have h2 : 0 < s.data.toList.length := by simpa using h
  have hd0 : ∀ (l : List UInt8) (h : 0 < l.length), l.headD 0 = l[0] := fun l h => by
    cases l with
    | nil => simp at h
    | cons a b => rfl
  exact hd0 _ h2
theorem rest_extract (s : ByteArray) : s.extract 1 s.size = ⟨(sI s).tail.toArray⟩ := by
  apply bytes_ext
  rw [ByteArray.toList_eq, ByteArray.toList_eq, ByteArray.data_extract]
  unfold sI
  rw [Array.toList_extract, List.extract_eq_take_drop, List.drop_one]
  have hz : s.size = s.data.toList.length := by simp
  rw [List.take_of_length_le (by rw [List.length_tail, hz]; exact Nat.le_refl _)]
theorem stepAns_good {s : ByteArray} {self : Int} (h : stepE (sI s) self = 0) (h0 : 0 < s.size) : Ending.returned (.tuple #[.int .i64 s[0].toNat, .string (s.extract 1 s.size), .int .i64 0]) = .returned (stepAns s self) := by
  unfold stepAns stepN stepL
  rw [h, if_pos rfl, if_pos rfl, head_get s h0, rest_extract]
theorem sI_nil (s : ByteArray) : sI s = [] ↔ s.size = 0 := by
  unfold sI
  rw [← List.length_eq_zero_iff]
  simp
set_option maxHeartbeats 3200000 in
theorem step_any (s : ByteArray) (self : Int) (w : World) (hs : s.size ≤ 17592186044416) :
    Calls Try.prog 52 #[.string s, .int .i64 self] w fun e w' => e = .returned (stepAns s self) ∧ Below w.heap.size w w' := by
  have HR := Lib.hid (right_any s w hs)
  have hrb := rightB_eq s
  obtain ⟨r, hr⟩ : ∃ r, rightI (bI s) = r := ⟨_, rfl⟩
  rw [hr] at HR hrb
  cases r
  case false =>
    have HE := Lib.hid (show stepE (sI s) self = 10 by unfold stepE; rw [show rightB (sI s) = false from hrb, if_pos rfl])
    clear hrb hr
    go_enter Try.func52, Try.ntmps52
    go_wp2_with (go_at_call 97; refine HR.out.mono ?_; rintro e w1 ⟨rfl, hb1⟩; (have HB := Lib.hid hb1); clear hb1)
    go_ret3
    exact ⟨stepAns_bad HE.out (by decide), HB.out⟩
  have HN := Lib.hid (fun W => node_any self W)
  obtain ⟨d, hd⟩ : ∃ d, nodeB self = d := ⟨_, rfl⟩
  rw [hd] at HN
  cases d
  case false =>
    have HE := Lib.hid (show stepE (sI s) self = 2 by unfold stepE; rw [show rightB (sI s) = true from hrb, if_neg (by simp), hd, if_pos rfl])
    clear hrb hr hd
    go_enter Try.func52, Try.ntmps52
    go_wp2_with (first | (go_at_call 97; refine HR.out.mono ?_; rintro e w1 ⟨rfl, hb1⟩; (have HB := Lib.hid hb1); clear hb1) | (go_at_call 94; refine (HN.out _).mono ?_; rintro e w' ⟨rfl, rfl⟩))
    go_ret3
    exact ⟨stepAns_bad HE.out (by decide), HB.out⟩
  by_cases h0 : s.size = 0
  · have HE := Lib.hid (show stepE (sI s) self = 14 by unfold stepE; rw [show rightB (sI s) = true from hrb, if_neg (by simp), hd, if_neg (by simp), if_pos ((sI_nil s).2 h0)])
    have t0 : s.toList = [] := by rw [ByteArray.toList_eq]; exact (sI_nil s).2 h0
    clear hrb hr hd h0
    go_enter Try.func52, Try.ntmps52
    go_wp2_with (first | (go_at_call 97; refine HR.out.mono ?_; rintro e w1 ⟨rfl, hb1⟩; (have HB := Lib.hid hb1); clear hb1) | (go_at_call 94; refine (HN.out _).mono ?_; rintro e w' ⟨rfl, rfl⟩))
    go_ret3
    exact ⟨stepAns_bad HE.out (by decide), HB.out⟩
  have hpos : 0 < s.size := by omega
  have t0 : ¬ s.toList = [] := by rw [ByteArray.toList_eq]; intro e; exact h0 ((sI_nil s).1 e)
  have t1 : s.toList.isEmpty = false := by simpa using t0
  have hb1 : (s[0].toNat : Int) ≤ 255 := by have := UInt8.toNat_lt s[0]; omega
  have hb0 : (0 : Int) ≤ s[0].toNat := by omega
  have p1 : (0 : Int) < s.size := by omega
  have p2 : (1 : Int) ≤ s.size := by omega
  by_cases hq : (s[0].toNat : Int) = self
  · have HE := Lib.hid (show stepE (sI s) self = 12 by unfold stepE; rw [show rightB (sI s) = true from hrb, if_neg (by simp), hd, if_neg (by simp), if_neg (fun e => h0 ((sI_nil s).1 e)), head_get s hpos, if_pos hq])
    have b1 : ((s[0].toNat : Int) == self) = true := by simp [hq]
    clear hrb hr hd h0 hq
    go_enter Try.func52, Try.ntmps52
    go_wp2_with (first | (go_at_call 97; refine HR.out.mono ?_; rintro e w1 ⟨rfl, hb1⟩; (have HB := Lib.hid hb1); clear hb1) | (go_at_call 94; refine (HN.out _).mono ?_; rintro e w' ⟨rfl, rfl⟩))
    go_ret3
    exact ⟨stepAns_bad HE.out (by decide), HB.out⟩
  · have HE := Lib.hid (show stepE (sI s) self = 0 by unfold stepE; rw [show rightB (sI s) = true from hrb, if_neg (by simp), hd, if_neg (by simp), if_neg (fun e => h0 ((sI_nil s).1 e)), head_get s hpos, if_neg hq])
    have b1 : ((s[0].toNat : Int) == self) = false := by simp [hq]
    clear hrb hr hd h0 hq
    go_enter Try.func52, Try.ntmps52
    go_wp2_with (first | (go_at_call 97; refine HR.out.mono ?_; rintro e w1 ⟨rfl, hb1⟩; (have HB := Lib.hid hb1); clear hb1) | (go_at_call 94; refine (HN.out _).mono ?_; rintro e w' ⟨rfl, rfl⟩))
    go_quiet (fail)
    go_wp2
    go_ret3
    exact ⟨stepAns_good HE.out hpos, blw_drewN HB.out _⟩
set_option maxHeartbeats 3200000 in
theorem refStep_any (s : ByteArray) (self : Int) (w : World) (hs : s.size ≤ 17592186044416) :
    Calls Try.prog 53 #[.string s, .int .i64 self] w fun e w' => e = .returned (stepAns s self) ∧ Below w.heap.size w w' := by
  have HR := Lib.hid (refRight_any s w (by unfold maxLen; omega))
  have hrb := rightB_eq s
  obtain ⟨r, hr⟩ : ∃ r, rightI (bI s) = r := ⟨_, rfl⟩
  rw [hr] at HR hrb
  cases r
  case false =>
    have HE := Lib.hid (show stepE (sI s) self = 10 by unfold stepE; rw [show rightB (sI s) = false from hrb, if_pos rfl])
    clear hrb hr
    go_enter Try.func53, Try.ntmps53
    go_wp2_with (go_at_call 98; refine HR.out.mono ?_; rintro e w1 ⟨rfl, hb1⟩; (have HB := Lib.hid hb1); clear hb1)
    go_ret3
    exact ⟨stepAns_bad HE.out (by decide), HB.out⟩
  obtain ⟨d, hd⟩ : ∃ d, nodeB self = d := ⟨_, rfl⟩
  cases d
  case false =>
    have HE := Lib.hid (show stepE (sI s) self = 2 by unfold stepE; rw [show rightB (sI s) = true from hrb, if_neg (by simp), hd, if_pos rfl])
    have hor : (decide (self < 0) = true) ∨ (decide (self < 0) = false ∧ decide (32 ≤ self) = true) := by
      have := nodeB_no.1 hd
      by_cases h1 : self < 0
      · left; simp [h1]
      · right; exact ⟨by simp [h1], by simp; omega⟩
    clear hrb hr hd
    rcases hor with n1 | ⟨n1, n2⟩
    all_goals
     go_enter Try.func53, Try.ntmps53
     go_wp2_with (go_at_call 98; refine HR.out.mono ?_; rintro e w1 ⟨rfl, hb1⟩; (have HB := Lib.hid hb1); clear hb1)
     go_ret3
     exact ⟨stepAns_bad HE.out (by decide), HB.out⟩
  have hn := nodeB_iff.1 hd
  have n1 : decide (self < 0) = false := by simp; omega
  have n2 : decide (32 ≤ self) = false := by simp; omega
  have hn0 := hn.1
  have hn1 := hn.2
  clear hn
  by_cases h0 : s.size = 0
  · have HE := Lib.hid (show stepE (sI s) self = 14 by unfold stepE; rw [show rightB (sI s) = true from hrb, if_neg (by simp), hd, if_neg (by simp), if_pos ((sI_nil s).2 h0)])
    have t0 : s.toList = [] := by rw [ByteArray.toList_eq]; exact (sI_nil s).2 h0
    clear hrb hr hd h0
    go_enter Try.func53, Try.ntmps53
    go_wp2_with (go_at_call 98; refine HR.out.mono ?_; rintro e w1 ⟨rfl, hb1⟩; (have HB := Lib.hid hb1); clear hb1)
    go_ret3
    exact ⟨stepAns_bad HE.out (by decide), HB.out⟩
  have hpos : 0 < s.size := by omega
  have t0 : ¬ s.toList = [] := by rw [ByteArray.toList_eq]; intro e; exact h0 ((sI_nil s).1 e)
  have t1 : s.toList.isEmpty = false := by simpa using t0
  have hb1 : (s[0].toNat : Int) ≤ 255 := by have := UInt8.toNat_lt s[0]; omega
  have hb0 : (0 : Int) ≤ s[0].toNat := by omega
  have p1 : (0 : Int) < s.size := by omega
  have p2 : (1 : Int) ≤ s.size := by omega
  by_cases hq : (s[0].toNat : Int) = self
  · have HE := Lib.hid (show stepE (sI s) self = 12 by unfold stepE; rw [show rightB (sI s) = true from hrb, if_neg (by simp), hd, if_neg (by simp), if_neg (fun e => h0 ((sI_nil s).1 e)), head_get s hpos, if_pos hq])
    have b1 : ((s[0].toNat : Int) == self) = true := by simp [hq]
    clear hrb hr hd h0 hq
    go_enter Try.func53, Try.ntmps53
    go_wp2_with (go_at_call 98; refine HR.out.mono ?_; rintro e w1 ⟨rfl, hb1⟩; (have HB := Lib.hid hb1); clear hb1)
    go_ret3
    exact ⟨stepAns_bad HE.out (by decide), HB.out⟩
  · have HE := Lib.hid (show stepE (sI s) self = 0 by unfold stepE; rw [show rightB (sI s) = true from hrb, if_neg (by simp), hd, if_neg (by simp), if_neg (fun e => h0 ((sI_nil s).1 e)), head_get s hpos, if_neg hq])
    have b1 : ((s[0].toNat : Int) == self) = false := by simp [hq]
    clear hrb hr hd h0 hq
    go_enter Try.func53, Try.ntmps53
    go_wp2_with (go_at_call 98; refine HR.out.mono ?_; rintro e w1 ⟨rfl, hb1⟩; (have HB := Lib.hid hb1); clear hb1)
    go_quiet (fail)
    go_wp2
    go_ret3
    exact ⟨stepAns_good HE.out hpos, blw_drewN HB.out _⟩
end Go.Proofs.Ytckanomabhbkaaa
