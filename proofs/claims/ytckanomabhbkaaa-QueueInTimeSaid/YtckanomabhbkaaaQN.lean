/- slices.Insert of one packet. -/
import Derived.Test.YtckanomabhbkaaaQL
import Derived.Test.YtckanomabhbkaaaQMem
import Derived.Deep.RegionLaw
namespace Go.Proofs.Ytckanomabhbkaaa
open Go.RowKit Go.Shelf
set_option linter.unusedVariables false

theorem RowAt.at_block {w : World} {b : Nat} {p : Pk} {t : TypeId} (hv : w.heap[b]? = some (.cells #[.int .i64 p.id, .int .i64 p.dst, .int .i64 p.pr, .int .i64 p.born, .int .i64 p.life, .string p.data] t (0, 0))) : RowAt Pk.cells 6 w (some ⟨b, 0, none⟩) [p] := by
  refine ⟨by simp, fun _ => ⟨_, rfl, fun i y hy j v hj => ?_⟩⟩
  match i, hy with
  | 0, hy =>
    simp at hy; subst hy
    rw [Nat.zero_mul, Nat.zero_add]
    have hadd : (⟨b, 0, none⟩ : Addr).add j = ⟨b, j, none⟩ := by unfold Addr.add; split <;> simp_all
    rw [hadd]
    simp only [World.cell?, hv]
    simpa [Pk.cells] using hj
  | i + 1, hy => simp at hy

theorem F_len (l : List Pk) : (l.flatMap Pk.cells).length = l.length * 6 := flat_len Pk.cells_len l
theorem F_take (l : List Pk) (i : Nat) : (l.take i).flatMap Pk.cells = (l.flatMap Pk.cells).take (i * 6) := by
  have hF := F_len l
  by_cases hi : i ≤ l.length
  · have h := congrArg (List.flatMap Pk.cells) (List.take_append_drop i l)
    rw [List.flatMap_append] at h
    have h6 : ((l.take i).flatMap Pk.cells).length = i * 6 := by rw [F_len, List.length_take]; omega
    conv => rhs; rw [← h]
    rw [List.take_append_of_le_length (by omega), List.take_of_length_le (l := (l.take i).flatMap Pk.cells) (by omega)]
  · rw [List.take_of_length_le (show l.length ≤ i by omega), List.take_of_length_le (l := l.flatMap Pk.cells) (by omega)]
theorem F_drop (l : List Pk) (i : Nat) : (l.drop i).flatMap Pk.cells = (l.flatMap Pk.cells).drop (i * 6) := by
  have hF := F_len l
  by_cases hi : i ≤ l.length
  · have h := congrArg (List.flatMap Pk.cells) (List.take_append_drop i l)
    rw [List.flatMap_append] at h
    have h6 : ((l.take i).flatMap Pk.cells).length = i * 6 := by rw [F_len, List.length_take]; omega
    conv => rhs; rw [← h]
    rw [List.drop_append_of_le_length (by omega), List.drop_of_length_le (l := (l.take i).flatMap Pk.cells) (by omega), List.nil_append]
  · rw [List.drop_of_length_le (show l.length ≤ i by omega), List.drop_of_length_le (l := l.flatMap Pk.cells) (by omega)]; rfl
/-- The cells of a row after one element has been let in at place i: what stood from i on lies one further. -/
theorem let_in (L : List Value) (n i : Nat) (F : List Value) (q : List Value) (hL : L.take (n * 6) = F) (hF : F.length = n * 6) (hi : i ≤ n) (hq : q.length = 6) (hfit : (n + 1) * 6 ≤ L.length) :
    (splice (splice L ((i + 1) * 6) (F.drop (i * 6))) (i * 6) q).take ((n + 1) * 6) = F.take (i * 6) ++ (q ++ F.drop (i * 6)) := by
  have h1 : (F.drop (i * 6)).length = n * 6 - i * 6 := by rw [List.length_drop, hF]
  have h2 : (splice L ((i + 1) * 6) (F.drop (i * 6))).length = L.length := length_splice _ _ _ (by rw [h1]; omega)
  apply List.ext_getElem?
  intro j
  rw [List.getElem?_take]
  by_cases hj : j < (n + 1) * 6
  · rw [if_pos hj, splice_get _ _ _ (by rw [h2, hq]; omega), splice_get _ _ _ (by rw [h1]; omega), h1, hq]
    have hFL : ∀ k, k < n * 6 → L[k]? = F[k]? := fun k hk => by rw [← hL, List.getElem?_take, if_pos hk]
    by_cases c1 : j < i * 6
    · rw [if_pos c1, if_pos (by omega), List.getElem?_append_left (by rw [List.length_take, hF]; omega), List.getElem?_take, if_pos c1]
      exact hFL j (by omega)
    · rw [if_neg c1, List.getElem?_append_right (by rw [List.length_take, hF]; omega), List.length_take, hF, show min (i * 6) (n * 6) = i * 6 from by omega]
      by_cases c2 : j < i * 6 + 6
      · rw [if_pos c2, List.getElem?_append_left (by omega)]
      · rw [if_neg c2, if_neg (by omega), if_pos (by omega), List.getElem?_append_right (by omega), hq]
        congr 1; omega
  · rw [if_neg hj]
    symm
    apply List.getElem?_eq_none
    rw [List.length_append, List.length_append, List.length_take, h1, hF, hq]; omega
set_option maxHeartbeats 800000 in
theorem insert_end (A : Option Addr) (c : Nat) (l : List Pk) (p : Pk) (vb : Nat) (w : World) (base : Nat) (hO : Own Pk.cells 6 w base 30 (.slice A l.length c) l)
    (hv : w.heap[vb]? = some (.cells #[.int .i64 p.id, .int .i64 p.dst, .int .i64 p.pr, .int .i64 p.born, .int .i64 p.life, .string p.data] 30 (0, 0))) (hbase : base ≤ w.heap.size) (hlen : (l.length + 1) * 56 ≤ 140737488355328) :
    Calls Try.prog 78 #[.slice A l.length c, .int .i64 l.length, .slice (some ⟨vb, 0, none⟩) 1 1] w fun e w' => ∃ v1, e = .returned v1 ∧ Own Pk.cells 6 w' base 30 v1 (l ++ [p]) ∧ w.grownBy w' (ob A) := by
  have HO := Lib.hid hO
  have HV := Lib.hid (RowAt.at_block hv)
  have HL := Lib.hid hlen
  obtain ⟨A', c', e', hle, _⟩ := hO.form
  have hlm : l.length ≤ 9223372036854775807 := by omega
  cases e'
  clear hO hv hlen
  have b1 : ((l.length : Int) == (l.length : Int)) = true := by simp
  go_enter Try.func78, Try.ntmps78
  go_wp2_with (at_builtin; refine Own.append Pk.cells_len Pk.cells_one rfl _ _ 22 30 _ 56 rfl Try.underlying22 info30 rfl (by decide) (by decide) (.slice A l.length c) l rfl HO.out ⟨vb, 0, none⟩ [p] 1 rfl HV.out hbase HL.out ?_; intro v1 w1 hown hg hat)
  all_goals
    go_ret
    rw [ob_eq] at hg
    exact ⟨_, rfl, hown, hg⟩
end Go.Proofs.Ytckanomabhbkaaa
