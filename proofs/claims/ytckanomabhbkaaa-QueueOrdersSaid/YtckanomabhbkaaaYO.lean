/- slices.Contains of packets, walked; what is taken in the order of a queue, in plain words. -/
import Derived.Test.YtckanomabhbkaaaYD
import Derived.Test.YtckanomabhbkaaaQA3
namespace Go.Proofs.Ytckanomabhbkaaa
open Go.RowKit Go.Shelf
set_option linter.unusedVariables false
section
attribute [local go_sem high] eqA30
set_option maxHeartbeats 1600000 in
theorem indexPk_any (A : Option Addr) (c : Nat) (l : List Pk) (p : Pk) (w : World) (hr : RowAt Pk.cells 6 w A l) :
    Calls Try.prog 99 #[.slice A l.length c, .agg #[.int .i64 p.id, .int .i64 p.dst, .int .i64 p.pr, .int .i64 p.born, .int .i64 p.life, .string p.data]] w fun e w' => e = .returned (.int .i64 (fidx (pkEq p) l)) ∧ Below w.heap.size w w' := by
  have HR := Lib.hid hr
  have hb := hr.1
  clear hr
  have hu30 := Try.underlying30
  have HQ := Lib.hid (blk_new w (.cells #[.int .i64 p.id, .int .i64 p.dst, .int .i64 p.pr, .int .i64 p.born, .int .i64 p.life, .string p.data] 30) rfl)
  have HW := Lib.hid (show Below w.heap.size w (w.alloc (.cells #[.int .i64 p.id, .int .i64 p.dst, .int .i64 p.pr, .int .i64 p.born, .int .i64 p.life, .string p.data] 30)) from (Below.refl _ _).alloc (Nat.le_refl _) _)
  have hz : (w.alloc (.cells #[.int .i64 p.id, .int .i64 p.dst, .int .i64 p.pr, .int .i64 p.born, .int .i64 p.life, .string p.data] 30)).heap.size = w.heap.size + 1 := by simp
  obtain ⟨w1, hw1⟩ : ∃ w1, w.alloc (.cells #[.int .i64 p.id, .int .i64 p.dst, .int .i64 p.pr, .int .i64 p.born, .int .i64 p.life, .string p.data] 30) = w1 := ⟨_, rfl⟩
  go_enter Try.func99, Try.ntmps99
  go_wp2
  rw [hw1] at HQ HW hz
  clear hw1
  go_loopw [8] (fun v wr => ∃ i : Nat, v = .int .i64 i ∧ i ≤ l.length ∧ Hid (∀ j : Int, 0 ≤ j → j < i → pkEq p (gp l j) = false) ∧ Hid (Below w1.heap.size w1 wr)) (fun v _ => (l.length - (intOf v)).toNat)
  case atStart => exact ⟨0, rfl, by omega, fun j h0 h1 => by omega, Below.refl _ _⟩
  case round =>
    obtain ⟨i, rfl, hil, HN, HB⟩ := hrel
    obtain ⟨s0, s1, s2, s3, s4, s5⟩ := box6 (blk_below HQ.out HB.out (by omega))
    have HBW := Lib.hid (HW.out.trans (HB.out.mono (by omega)))
    by_cases hlt : i < l.length
    · obtain ⟨ad, rfl, c0, c1, c2, c3, c4, c5⟩ := (HR.out.below HBW.out).pk i (by omega) (by omega)
      rw [Int.toNat_natCast] at c0 c1 c2 c3 c4 c5
      have hli : decide ((i : Int) < l.length) = true := by simp; omega
      have g1 : (0 : Int) ≤ i := by omega
      have g2 : (i : Int) < l.length := by omega
      obtain ⟨b, hbb⟩ : ∃ b, pkEq p (gp l i) = b := ⟨_, rfl⟩
      have HBB := Lib.hid hbb
      cases b
      · have HN2 := Lib.hid (show ∀ j : Int, 0 ≤ j → j < ((i + 1 : Nat) : Int) → pkEq p (gp l j) = false from fun j h0 h1 => by
          by_cases hj : j = i
          · subst hj; exact hbb
          · exact HN.out j h0 (by omega))
        go_wp2_with fail
        go_quiet (fail)
        go_wp2
        go_roundw
        case rel => exact ⟨i + 1, by simp, by omega, HN2, blw_drewN HB.out _⟩
        case measure => simp [intOf]; omega
      · have HF := Lib.hid (fidx_hit (p := pkEq p) g1 g2 hbb HN.out)
        go_wp2_with fail
        go_quiet (fail)
        go_wp2
        go_ret
        exact ⟨ret_int HF.out.symm, blw_drewN HBW.out _⟩
    · have hli : decide ((i : Int) < l.length) = false := by simp; omega
      obtain rfl : i = l.length := by omega
      go_wp2
      go_ret
      exact ⟨ret_int (fidx_miss HN.out).symm, HBW.out⟩
end
def hasPk (l : List Pk) (p : Pk) : Bool := decide (0 ≤ fidx (pkEq p) l)
theorem hasPk_iff {l : List Pk} {p : Pk} : hasPk l p = true ↔ p ∈ l := by
  unfold hasPk
  rw [decide_eq_true_eq]
  constructor
  · intro h
    have hs := (fidx_spec h).1
    have hr := fidx_range (pkEq p) l
    rw [gp_elem' h hr.2] at hs
    rw [pkEq_iff.1 hs]
    exact List.getElem_mem _
  · intro h
    by_cases hn : fidx (pkEq p) l < 0
    · obtain ⟨k, hk, rfl⟩ := List.getElem_of_mem h
      have := fidx_neg hn k (by omega) (by omega)
      rw [gp_elem hk, pkEq_iff.2 rfl] at this
      cases this
    · omega
set_option maxHeartbeats 800000 in
theorem containsPk_any (A : Option Addr) (c : Nat) (l : List Pk) (p : Pk) (w : World) (hr : RowAt Pk.cells 6 w A l) :
    Calls Try.prog 58 #[.slice A l.length c, .agg #[.int .i64 p.id, .int .i64 p.dst, .int .i64 p.pr, .int .i64 p.born, .int .i64 p.life, .string p.data]] w fun e w' => e = .returned (.bool (hasPk l p)) ∧ Below w.heap.size w w' := by
  have HR := Lib.hid hr
  clear hr
  have hu30 := Try.underlying30
  have HW := Lib.hid (show Below w.heap.size w (w.alloc (.cells #[.int .i64 p.id, .int .i64 p.dst, .int .i64 p.pr, .int .i64 p.born, .int .i64 p.life, .string p.data] 30)) from (Below.refl _ _).alloc (Nat.le_refl _) _)
  go_enter Try.func58, Try.ntmps58
  go_wp2_with fail
  refine (indexPk_any A c l p _ (HR.out.below HW.out)).mono ?_
  rintro e w1 ⟨rfl, hb1⟩
  have HB := Lib.hid (HW.out.trans (hb1.mono (by simp)))
  clear hb1
  go_wp2
  go_ret
  exact ⟨rfl, HB.out⟩
/-- What is left when the first packet for a neighbour has been taken. -/
theorem fidx_filter_none {l : List Pk} {d : Int} (h : l.filter (top d) = []) : fidx (top d) l = -1 := by
  refine fidx_miss fun j h0 h1 => ?_
  rw [gp_elem' h0 h1]
  have := List.filter_eq_nil_iff.1 h (l[j.toNat]'(by omega)) (List.getElem_mem _)
  simpa using this
theorem filter_first {l rest : List Pk} {x : Pk} {d : Int} (h : l.filter (top d) = x :: rest) : ∃ m : Nat, fidx (top d) l = m ∧ m < l.length ∧ gp l m = x ∧ (l.take m ++ l.drop (m + 1)).filter (top d) = rest := by
  have h0 : 0 ≤ fidx (top d) l := by
    by_cases hn : fidx (top d) l < 0
    · exfalso
      have hx : x ∈ l.filter (top d) := by rw [h]; simp
      rw [List.mem_filter] at hx
      obtain ⟨k, hk, rfl⟩ := List.getElem_of_mem hx.1
      have := fidx_neg hn k (by omega) (by omega)
      rw [gp_elem hk, hx.2] at this
      cases this
    · omega
  have hr := fidx_range (top d) l
  obtain ⟨m, hm⟩ : ∃ m : Nat, fidx (top d) l = m := ⟨(fidx (top d) l).toNat, by omega⟩
  have hml : m < l.length := by omega
  have hs := fidx_spec h0
  rw [hm, gp_elem hml] at hs
  have hl : l = l.take m ++ l[m] :: l.drop (m + 1) := by rw [List.getElem_cons_drop, List.take_append_drop]
  have ht : (l.take m).filter (top d) = [] := by
    rw [List.filter_eq_nil_iff]
    intro a ha
    obtain ⟨j, hj, rfl⟩ := List.getElem_of_mem ha
    rw [List.length_take] at hj
    have := hs.2 j (by omega) (by omega)
    rw [gp_elem (by omega)] at this
    rw [List.getElem_take]; simp [this]
  have h2 : l.filter (top d) = l[m] :: (l.drop (m + 1)).filter (top d) := by
    conv => lhs; rw [hl]
    rw [List.filter_append, ht, List.nil_append, List.filter_cons, if_pos hs.1]
  rw [h] at h2
  injection h2 with e1 e2
  exact ⟨m, hm, hml, by rw [gp_elem hml, e1], by rw [List.filter_append, ht, List.nil_append, e2]⟩
/-- A step of taking all that is for a neighbour: First and Take answer the next one. -/
theorem take_step {L d : Int} {m rest : List Pk} {x : Pk} (h : chk L m = 0) (hf : m.filter (top d) = x :: rest) :
    firstP L m d = x ∧ firstB L m d = true ∧ aheadE L m x.id = 0 ∧ takeL L m x.id = L ∧ takeP L m x.id = x ∧ (takeQ L m x.id).filter (top d) = rest ∧ (takeQ L m x.id).length + 1 = m.length ∧ chk L (takeQ L m x.id) = 0 := by
  obtain ⟨i, hi, hil, hx, hrest⟩ := filter_first hf
  have hids := (chk_iff.1 h).ids
  have hidx : idx m x.id = i := by rw [← hx]; exact idx_self hids hil
  have hE : aheadE L m x.id = 0 := by unfold aheadE; rw [if_neg (by rw [h]; simp), if_neg (by omega)]
  have hI : firstI L m d = i := by unfold firstI; rw [if_neg (by rw [h]; simp), hi]
  have hQ : takeQ L m x.id = m.take i ++ m.drop (i + 1) := by unfold takeQ; rw [if_pos hE]; exact kept_id hids hidx hil
  refine ⟨by unfold firstP; rw [hI, if_neg (by omega), hx], by unfold firstB; rw [hI]; simp, hE, by unfold takeL; rw [if_pos hE], by unfold takeP; rw [if_pos hE, hidx, hx], by rw [hQ]; exact hrest, ?_, ?_⟩
  · rw [hQ, List.length_append, List.length_take, List.length_drop]; omega
  · unfold takeQ; rw [if_pos hE]; exact kept_chk h _
theorem take_end {L d : Int} {m : List Pk} (h : chk L m = 0) (hf : m.filter (top d) = []) : firstB L m d = false := by
  unfold firstB firstI
  rw [if_neg (by rw [h]; simp), fidx_filter_none hf]
  rfl
theorem stale_has {L : Int} {l : List Pk} {s : Int} (h : chk L l = 0) {p : Pk} (hp : p ∈ l) : hasPk (expG L l s) p = staleB p s ∧ hasPk (expQ L l s) p = !staleB p s := by
  have e1 : expG L l s = kept (freshP s) l := by unfold expG; rw [if_pos h]
  have e2 : expQ L l s = kept (staleP s) l := by unfold expQ; rw [if_pos h]
  rw [e1, e2]
  constructor
  · rw [Bool.eq_iff_iff, hasPk_iff]
    unfold kept freshP
    rw [List.mem_filter]
    simp [hp]
  · rw [Bool.eq_iff_iff, hasPk_iff]
    unfold kept staleP
    rw [List.mem_filter]
    simp [hp]
theorem stale_len {L : Int} {l : List Pk} {s : Int} (h : chk L l = 0) : (expQ L l s).length + (expG L l s).length = l.length := by
  have e1 : expG L l s = kept (freshP s) l := by unfold expG; rw [if_pos h]
  have e2 : expQ L l s = kept (staleP s) l := by unfold expQ; rw [if_pos h]
  rw [e1, e2]
  unfold kept freshP staleP
  simp only [Bool.not_not]
  clear h e1 e2
  induction l with
  | nil => rfl
  | cons x l ih => simp only [List.filter_cons]; cases staleB x s <;> simp <;> omega
end Go.Proofs.Ytckanomabhbkaaa
