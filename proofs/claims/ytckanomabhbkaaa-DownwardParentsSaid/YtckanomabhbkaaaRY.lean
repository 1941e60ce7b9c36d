/- Reachable, Children and the law's predicate, walked. -/
import Derived.Test.YtckanomabhbkaaaRT
import Derived.Test.YtckanomabhbkaaaRU
import Derived.Test.YtckanomabhbkaaaRX
namespace Go.Proofs.Ytckanomabhbkaaa
open Go.RowKit Go.Shelf
set_option linter.unusedVariables false
/-- The nodes below i to which there is a route. -/
def reachT (l : List Rp) (i : Nat) : List Int := ((List.range i).filter (fun k : Nat => decide (routeL l (k : Int) ≠ []))).map (fun k : Nat => (k : Int))
theorem reachT_succ (l : List Rp) (i : Nat) : reachT l (i + 1) = if routeL l (i : Int) ≠ [] then reachT l i ++ [(i : Int)] else reachT l i := by
  unfold reachT
  rw [List.range_succ, List.filter_append, List.map_append]
  by_cases h : routeL l (i : Int) ≠ []
  · rw [if_pos h]
    simp [h]
  · rw [if_neg h]
    simp only [Classical.not_not] at h
    simp [h]
theorem reachT_mem {l : List Rp} {n : Int} (h0 : 0 ≤ n) (h1 : n < 32) (h : routeL l n ≠ []) : n ∈ reachT l 32 := by
  unfold reachT
  obtain ⟨k, rfl⟩ : ∃ k : Nat, n = k := ⟨n.toNat, by omega⟩
  exact List.mem_map.2 ⟨k, List.mem_filter.2 ⟨by rw [List.mem_range]; omega, by simpa using h⟩, rfl⟩
theorem reachT_len (l : List Rp) (i : Nat) : (reachT l i).length ≤ i := by
  unfold reachT
  rw [List.length_map]
  have := List.length_filter_le (fun k : Nat => decide (routeL l (k : Int) ≠ [])) (List.range i)
  simpa using this
theorem own_new {α : Type} {enc : α → List Value} {k base : Nat} {w : World} {e : TypeId} {v : Value} {l : List α} (h : Own enc k w base e v l) : v.ownBlock = none ∨ v.ownBlock ≠ none := by
  cases v.ownBlock with
  | none => exact .inl rfl
  | some b => exact .inr (by simp)
set_option maxHeartbeats 3200000 in
theorem reachable_any (A : Option Addr) (c : Nat) (l : List Rp) (w : World) (hr : RpAt w A c l) (hok : Rok l) :
    Calls Try.prog 67 #[.slice A l.length c] w fun e w' => (∃ A2 c2, e = .returned (.slice A2 (reachT l 32).length c2) ∧ RowAt intc 1 w' A2 (reachT l 32)) ∧ Below w.heap.size w w' := by
  have HC := Lib.hid (rcheck_any A c l w hr)
  rw [rchk_iff.2 hok] at HC
  have HR := Lib.hid hr
  have HOK := Lib.hid hok
  have b1 : ((0 : Int) != 0) = false := rfl
  have hq : ∀ (W : World) (a : Option Addr) (m k : Nat), (binOp .neq 40 (.slice a m k) (.slice none 0 0)).run Try.prog W = .ok (.bool (!a.isNone)) W := fun W a m k => run_neq_slice_nil_any W 40 3 a m k 0 0 Try.underlying40
  clear hr hok
  go_enter Try.func67, Try.ntmps67
  set_option maxRecDepth 100000 in go_wp2_with (go_at_call 47; refine HC.out.mono ?_; rintro e w1 ⟨rfl, hb1⟩; (have HB1 := Lib.hid hb1); clear hb1)
  go_loopw [8, 3] (fun u a3 wr => ∃ (i : Nat) (A3 : Option Addr) (c3 N : Nat), u = .int .i64 i ∧ a3 = .slice A3 N c3 ∧ i ≤ 32 ∧ N ≤ i ∧ Hid (N = (reachT l i).length) ∧ Hid (Own intc 1 wr w.heap.size 3 (.slice A3 N c3) (reachT l i)) ∧ Hid (Below w.heap.size w wr)) (fun u _ _ => (32 - (intOf u)).toNat)
  case atStart => exact ⟨0, none, 0, 0, rfl, rfl, by omega, by omega, Lib.hid rfl, Lib.hid (Own.nil _ _ _), HB1⟩
  case round =>
    obtain ⟨i, A3, c3, N, rfl, rfl, hi, hNi, HN, HO, HB⟩ := hrel
    by_cases hlt : i < 32
    · have bi : decide ((i : Int) < 32) = true := decide_eq_true (by omega)
      have HRO := Lib.hid (route_any A c l i wr (HR.out.below HB.out) HOK.out (nodeB_iff.2 (by omega)))
      have HS := Lib.hid (reachT_succ l i)
      obtain ⟨T, hT⟩ : ∃ T, reachT l i = T := ⟨_, rfl⟩
      rw [hT] at HN HO HS
      obtain ⟨R, hR⟩ : ∃ R, routeL l i = R := ⟨_, rfl⟩
      rw [hR] at HRO HS
      obtain ⟨M, hM⟩ : ∃ M, R.length = M := ⟨_, rfl⟩
      rw [hM] at HRO
      clear hT hR hM
      by_cases h0 : R = []
      · have HT2 := Lib.hid (show reachT l (i + 1) = T by rw [HS.out, if_neg (by simp [h0])])
        have H0 := Lib.hid h0
        clear h0
        set_option maxRecDepth 100000 in go_wp2_with (go_at_call 101; refine HRO.out.mono ?_; rintro e w4 ⟨A4, c4, rfl, hI, hb4⟩; obtain rfl := hI.nil.2 H0.out; (have HO4 := Lib.hid (HO.out.kept (below_grown hb4) (own_new HO.out))); (have HB4 := Lib.hid (HB.out.trans (hb4.mono HB.out.size))); clear hI hb4)
        go_roundw
        case rel => exact ⟨i + 1, A3, c3, N, by simp, rfl, by omega, by omega, Lib.hid (by rw [HT2.out]; exact HN.out), Lib.hid (by rw [HT2.out]; exact HO4.out), HB4⟩
        case measure => simp [intOf]; omega
      · have HT2 := Lib.hid (show reachT l (i + 1) = T ++ [(i : Int)] by rw [HS.out, if_pos h0])
        have H0 := Lib.hid h0
        clear h0
        set_option maxRecDepth 100000 in go_wp2_with (first | (go_at_call 101; refine HRO.out.mono ?_; rintro e w4 ⟨A4, c4, rfl, hI, hb4⟩; (have hs4 : ∃ a4, A4 = some a4 := by cases A4 with | none => exact absurd (hI.nil.1 rfl) H0.out | some a4 => exact ⟨a4, rfl⟩); obtain ⟨a4, rfl⟩ := hs4; (have HO4 := Lib.hid (HO.out.kept (below_grown hb4) (own_new HO.out))); (have HB4 := Lib.hid (HB.out.trans (hb4.mono HB.out.size))); clear hI hb4) | (at_builtin; refine Own.append intc_len intc_one rfl _ _ 40 3 (.int .i64 0) 8 rfl Try.underlying40 info3 rfl (by decide) (by decide) (.slice A3 N c3) T rfl (base := w.heap.size) (HO4.out.alloc _) ⟨w4.heap.size, 0, none⟩ [(i : Int)] 1 rfl (RowAt.new w4 (i : Int) #[.int .i64 i] 3 rfl) (by have := HB4.out.size; simp; omega) (by have := HN.out; simp; omega) ?_; intro v1 w6 hO6 hg6 _; obtain ⟨g6, c6, rfl, hN6⟩ := own_some (m := N + 1) hO6 (by have := HN.out; simp; omega); (have HO6 := Lib.hid hO6); (have HN6 := Lib.hid hN6); (have HB6 := Lib.hid ((HB4.out.alloc HB4.out.size _).grown hg6 (by have := HB4.out.size; simp; omega) (fun k e => (HO4.out.lt e).1))); clear hO6 hg6 hN6))
        go_roundw
        case rel => exact ⟨i + 1, some ⟨g6, 0, none⟩, c6, N + 1, by simp, rfl, by omega, by omega, Lib.hid (by rw [HT2.out]; exact HN6.out), Lib.hid (by rw [HT2.out]; exact HO6.out), HB6⟩
        case measure => simp [intOf]; omega
    · have bi : decide ((i : Int) < 32) = false := decide_eq_false (by omega)
      obtain rfl : i = 32 := by omega
      have hO : Own intc 1 wr w.heap.size 3 (.slice A3 (reachT l 32).length c3) (reachT l 32) := by rw [← HN.out]; exact HO.out
      have HRW := Lib.hid (Own.slAt intc_len hO).row
      clear hO
      set_option maxRecDepth 100000 in go_wp2
      go_ret
      exact ⟨⟨A3, c3, by rw [← HN.out]; rfl, HRW.out⟩, HB.out⟩
/-- The nodes whose parent is n. -/
def childT (l : List Rp) (n : Int) : List Int := (l.filter (fun r => r.parent == n && decide (0 ≤ n))).map (·.node)
theorem childT_succ (l : List Rp) (n : Int) {i : Nat} (h : i < l.length) : childT (l.take (i + 1)) n = if ((gr l i).parent == n && decide (0 ≤ n)) = true then childT (l.take i) n ++ [(gr l i).node] else childT (l.take i) n := by
  unfold childT
  rw [List.take_succ_eq_append_getElem h, List.filter_append, List.map_append, gr_elem h]
  by_cases hc : (l[i].parent == n && decide (0 ≤ n)) = true
  · rw [if_pos hc]; simp only [List.filter_cons, hc, if_true, List.filter_nil, List.map_cons, List.map_nil]
  · rw [if_neg hc]
    have : (l[i].parent == n && decide (0 ≤ n)) = false := by simpa using hc
    simp only [List.filter_cons, this, List.filter_nil]
    simp
theorem childT_mem {l : List Rp} {n m : Int} (h0 : 0 ≤ n) {x : Rp} (hx : x ∈ l) (hp : x.parent = n) (hm : x.node = m) : m ∈ childT l n := by
  unfold childT
  exact List.mem_map.2 ⟨x, List.mem_filter.2 ⟨hx, by simp [hp, h0]⟩, hm⟩
set_option maxHeartbeats 3200000 in
theorem children_any (A : Option Addr) (c : Nat) (l : List Rp) (n : Int) (w : World) (hr : RpAt w A c l) (hok : Rok l) (hn : 0 ≤ n) :
    Calls Try.prog 69 #[.slice A l.length c, .int .i64 n] w fun e w' => (∃ A2 c2, e = .returned (.slice A2 (childT l n).length c2) ∧ RowAt intc 1 w' A2 (childT l n)) ∧ Below w.heap.size w w' := by
  have HC := Lib.hid (rcheck_any A c l w hr)
  rw [rchk_iff.2 hok] at HC
  have HR := Lib.hid hr
  have hlc := hr.row.1
  have hl31 := hok.len
  have hu70 := Try.underlying70
  have b1 : ((0 : Int) != 0) = false := rfl
  have bn : decide (0 ≤ n) = true := decide_eq_true hn
  clear hr hok
  go_enter Try.func69, Try.ntmps69
  set_option maxRecDepth 100000 in go_wp2_with (go_at_call 47; refine HC.out.mono ?_; rintro e w1 ⟨rfl, hb1⟩; (have HB1 := Lib.hid hb1); clear hb1)
  go_loopw [13, 5] (fun u a5 wr => ∃ (i : Nat) (A3 : Option Addr) (c3 N : Nat), u = .int .i64 i ∧ a5 = .slice A3 N c3 ∧ i ≤ l.length ∧ N ≤ i ∧ Hid (N = (childT (l.take i) n).length) ∧ Hid (Own intc 1 wr w.heap.size 3 (.slice A3 N c3) (childT (l.take i) n)) ∧ Hid (Below w.heap.size w wr)) (fun u _ _ => (l.length - (intOf u)).toNat)
  case atStart => exact ⟨0, none, 0, 0, rfl, rfl, by omega, by omega, Lib.hid (by rw [List.take_zero]; rfl), Lib.hid (by rw [List.take_zero]; exact Own.nil _ _ _), HB1⟩
  case round =>
    obtain ⟨i, A3, c3, N, rfl, rfl, hi, hNi, HN, HO, HB⟩ := hrel
    by_cases hlt : i < l.length
    · obtain ⟨ad, rfl, k0, k1, k2⟩ := (HR.out.below HB.out).row.rp i (by omega) (by omega)
      rw [Int.toNat_natCast] at k0 k1 k2
      have HS := Lib.hid (childT_succ l n hlt)
      obtain ⟨r, hrr⟩ : ∃ r, gr l i = r := ⟨_, rfl⟩
      obtain ⟨T, hT⟩ : ∃ T, childT (l.take i) n = T := ⟨_, rfl⟩
      rw [hrr] at k0 k1 k2
      rw [hrr, hT, bn, Bool.and_true] at HS
      rw [hT] at HN HO
      have bi : decide ((i : Int) < l.length) = true := decide_eq_true (by omega)
      have g1 : (0 : Int) ≤ i := by omega
      have g2 : (i : Int) < l.length := by omega
      have HOb := Lib.hid (HO.out.alloc (.cells #[.int .i64 r.node, .int .i64 r.parent, .int .i64 r.num] 70))
      have HBb := Lib.hid (HB.out.alloc HB.out.size (.cells #[.int .i64 r.node, .int .i64 r.parent, .int .i64 r.num] 70))
      clear hrr hT
      by_cases hp : r.parent = n
      · have bp : (r.parent == n) = true := by simp [hp]
        have HT2 := Lib.hid (show childT (l.take (i + 1)) n = T ++ [r.node] by rw [HS.out, if_pos bp])
        clear hp
        set_option maxRecDepth 100000 in go_wp2_with (at_builtin; refine Own.append intc_len intc_one rfl _ _ 40 3 (.int .i64 0) 8 rfl Try.underlying40 info3 rfl (by decide) (by decide) (.slice A3 N c3) T rfl (base := w.heap.size) (HOb.out.alloc _) ⟨wr.heap.size + 1, 0, none⟩ [r.node] 1 rfl (by have h := RowAt.new (enc := intc) (k := 1) (wr.alloc (.cells #[.int .i64 r.node, .int .i64 r.parent, .int .i64 r.num] 70)) r.node #[.int .i64 r.node] 3 rfl; simpa using h) (by have := HB.out.size; simp; omega) (by have := HN.out; simp; omega) ?_; intro v1 w6 hO6 hg6 _; obtain ⟨g6, c6, rfl, hN6⟩ := own_some (m := N + 1) hO6 (by have := HN.out; simp; omega); (have HO6 := Lib.hid hO6); (have HN6 := Lib.hid hN6); (have HB6 := Lib.hid ((HBb.out.alloc HBb.out.size _).grown hg6 (by have := HBb.out.size; simp at this ⊢; omega) (fun k e => (HO.out.lt e).1))); clear hO6 hg6 hN6)
        go_roundw
        case rel => exact ⟨i + 1, some ⟨g6, 0, none⟩, c6, N + 1, by simp, rfl, by omega, by omega, Lib.hid (by rw [HT2.out]; exact HN6.out), Lib.hid (by rw [HT2.out]; exact HO6.out), HB6⟩
        case measure => simp [intOf]; omega
      · have bp : (r.parent == n) = false := by simp [hp]
        have HT2 := Lib.hid (show childT (l.take (i + 1)) n = T by rw [HS.out, if_neg (by simp [hp])])
        clear hp
        set_option maxRecDepth 100000 in go_wp2
        go_roundw
        case rel => exact ⟨i + 1, A3, c3, N, by simp, rfl, by omega, by omega, Lib.hid (by rw [HT2.out]; exact HN.out), Lib.hid (by rw [HT2.out]; exact HOb.out), HBb⟩
        case measure => simp [intOf]; omega
    · have bi : decide ((i : Int) < l.length) = false := decide_eq_false (by omega)
      obtain rfl : i = l.length := by omega
      rw [List.take_of_length_le (Nat.le_refl _)] at HN HO
      have hO : Own intc 1 wr w.heap.size 3 (.slice A3 (childT l n).length c3) (childT l n) := by rw [← HN.out]; exact HO.out
      have HRW := Lib.hid (Own.slAt intc_len hO).row
      clear hO
      set_option maxRecDepth 100000 in go_wp2
      go_ret
      exact ⟨⟨A3, c3, by rw [← HN.out]; rfl, HRW.out⟩, HB.out⟩
set_option maxHeartbeats 1600000 in
theorem pred68_any (Pn Pr Pi : Nat) (x : Rp) (nn pp : Int) (i : Nat) (A : Option Addr) (N c : Nat) (R : List Int) (W : World) (h1 : W.cell? ⟨Pn, 0, none⟩ = some (.int .i64 nn)) (h2 : W.cell? ⟨Pr, 0, none⟩ = some (.slice A N c)) (h3 : W.cell? ⟨Pi, 0, none⟩ = some (.int .i64 ((i : Int) + 1)))
    (hN : N = R.length) (hr : RowAt intc 1 W A R) (hi : i < N) (hi2 : N ≤ 100) (hp : R.getD i 0 = pp) :
    Calls Try.prog 68 #[.agg #[.int .i64 x.node, .int .i64 x.parent, .int .i64 x.num], .pointer (some ⟨Pn, 0, none⟩), .pointer (some ⟨Pr, 0, none⟩), .pointer (some ⟨Pi, 0, none⟩)] W fun e w' => e = .returned (.bool (x.node == nn && x.parent == pp)) ∧ Below W.heap.size W w' := by
  have l1 := cell_lt h1
  have l2 := cell_lt h2
  have l3 := cell_lt h3
  simp only at l1 l2 l3
  obtain ⟨ad, rfl, c0⟩ := hr.int i (by omega)
  rw [hp] at c0
  have hu70 := Try.underlying70
  have lad := cell_lt c0
  have hB := (Below.refl W.heap.size W).alloc (Nat.le_refl _) (.cells #[.int .i64 x.node, .int .i64 x.parent, .int .i64 x.num] 70)
  have HQ := Lib.hid (blk_new W (.cells #[.int .i64 x.node, .int .i64 x.parent, .int .i64 x.num] 70) rfl)
  obtain ⟨P, hP⟩ : ∃ P, W.heap.size = P := ⟨_, rfl⟩
  obtain ⟨Wb, hWb⟩ : ∃ Wb, W.alloc (.cells #[.int .i64 x.node, .int .i64 x.parent, .int .i64 x.num] 70) = Wb := ⟨_, rfl⟩
  rw [hWb] at hB HQ
  have e1 := cell_below hB h1
  have e2 := cell_below hB h2
  have e3 := cell_below hB h3
  have e4 := cell_below hB c0
  rw [hP] at HQ
  have HB := Lib.hid hB
  obtain ⟨q0, q1, q2⟩ := box3 HQ.out
  have w1 : IntKind.i64.wrap ((i : Int) + 1 - 1) = i := by rw [show (i : Int) + 1 - 1 = i by omega]; exact IntWalk.i64_in _ (by omega)
  have g1 : (0 : Int) ≤ i := by omega
  have g2 : (i : Int) < N := by omega
  have g3 : ((i : Int) + 1 - 1) = i := by omega
  clear h1 h2 h3 c0 hr l1 l2 l3 lad hp hB
  obtain ⟨b, hb⟩ : ∃ b, (x.node == nn) = b := ⟨_, rfl⟩
  obtain ⟨d, hd⟩ : ∃ d, (x.parent == pp) = d := ⟨_, rfl⟩
  have HE := Lib.hid (show (x.node == nn && x.parent == pp) = (b && d) by rw [hb, hd])
  cases b <;> cases d
  all_goals
    go_enter Try.func68, Try.ntmps68
    go_wp2_with fail
    go_quiet (fail)
    go_wp2
    go_ret
    exact ⟨ret_bool HE.out.symm, blw_drewN HB.out _⟩
end Go.Proofs.Ytckanomabhbkaaa
