/- Plain words for a report that is not newer; slices.Contains over reports, walked. -/
import Derived.Test.YtckanomabhbkaaaRK
import Derived.Test.YtckanomabhbkaaaRN
namespace Go.Proofs.Ytckanomabhbkaaa
open Go.RowKit Go.Shelf
set_option linter.unusedVariables false
theorem rhas_iff {l : List Rp} (h : Rok l) (m : Int) : rhas l m = true ↔ ∃ x ∈ l, x.node = m := by
  constructor
  · intro hh
    obtain ⟨h1, h2⟩ := rhas_mem hh
    exact ⟨gr l (rpos l m), by rw [gr_elem h1]; exact List.getElem_mem _, h2⟩
  · rintro ⟨x, hx, rfl⟩
    rcases rhas_idx h x.node with ⟨_, h2⟩ | ⟨h1, _⟩
    · exfalso
      obtain ⟨k, hk, rfl⟩ := List.getElem_of_mem hx
      have := ridx_neg h2 k (by omega) (by omega)
      rw [gr_elem hk] at this
      exact this rfl
    · exact h1
theorem gr_the {l : List Rp} (h : Rok l) {x : Rp} (hx : x ∈ l) : gr l (rpos l x.node) = x := by
  have hh := (rhas_iff h x.node).2 ⟨x, hx, rfl⟩
  obtain ⟨h1, h2⟩ := rhas_mem hh
  exact inc_inj h.inc (by rw [gr_elem h1]; exact List.getElem_mem _) hx h2
/-- Two right lists that agree but for one node lead alike where that node is not met. -/
theorem way_alike {l k : List Rp} (hl : Rok l) (hk : Rok k) {m : Int} (hm : ∀ x : Rp, x.node ≠ m → (x ∈ k ↔ x ∈ l)) : ∀ (f : Nat) (n : Int) (vis : List Int), m ∉ wayF l f n vis → wayF k f n vis = wayF l f n vis
  | 0, _, _, _ => rfl
  | f + 1, n, vis, h => by
    by_cases hv : nodeB n = false ∨ n ∈ vis
    · rw [wayF_end hv, wayF_end hv]
    · simp only [not_or, Bool.not_eq_false] at hv
      rw [wayF_new hv.1 hv.2] at h ⊢
      rw [wayF_new hv.1 hv.2]
      rw [List.mem_cons, not_or] at h
      have hnm : n ≠ m := fun e => h.1 e.symm
      have hrh : rhas k n = rhas l n := by
        rw [Bool.eq_iff_iff, rhas_iff hk, rhas_iff hl]
        constructor
        · rintro ⟨x, hx, rfl⟩; exact ⟨x, (hm x hnm).1 hx, rfl⟩
        · rintro ⟨x, hx, rfl⟩; exact ⟨x, (hm x hnm).2 hx, rfl⟩
      rw [hrh]
      by_cases h0 : n = 0 ∨ rhas l n = false
      · rw [if_pos h0, if_pos h0]
      · rw [if_neg h0] at h ⊢
        rw [if_neg h0]
        simp only [not_or, Bool.not_eq_false] at h0
        obtain ⟨x, hx, rfl⟩ := (rhas_iff hl n).1 h0.2
        rw [gr_the hl hx] at h ⊢
        rw [gr_the hk ((hm x hnm).2 hx)]
        rw [way_alike hl hk hm f x.parent (x.node :: vis) h.2]
theorem mem_way {l : List Rp} {n m : Int} (h : routeL l n ≠ []) : m ∈ routeL l n ↔ m ∈ wayL l n := by
  rw [(routeL_prop h).1, List.mem_reverse]
theorem route_alike {l k : List Rp} (hl : Rok l) (hk : Rok k) {m : Int} (hm : ∀ x : Rp, x.node ≠ m → (x ∈ k ↔ x ∈ l)) {n : Int} (h : routeL l n ≠ []) (hn : m ∉ routeL l n) : routeL k n = routeL l n := by
  have hw : wayL k n = wayL l n := way_alike hl hk hm 33 n [] (fun hh => hn ((mem_way h).2 hh))
  unfold routeL
  rw [hw]
theorem put_other {l : List Rp} (h : Rok l) {r : Rp} (hr : rform r = 0) : ∀ x : Rp, x.node ≠ r.node → (x ∈ rputL l r ↔ x ∈ l) := by
  intro x hx
  rw [(put_mem h hr).2 x]
  constructor
  · rintro (⟨rfl, _⟩ | ⟨h1, _⟩)
    · exact absurd rfl hx
    · exact h1
  · intro h1
    exact .inr ⟨h1, fun e => absurd e hx⟩
/-- Has the report been new? -/
theorem putC_cases {l : List Rp} (h : Rok l) {r : Rp} (hr : rform r = 0) : (ridx l r.node < 0 ∧ rputC l r = true ∧ r ∈ rputL l r) ∨ (0 ≤ ridx l r.node ∧ ridx l r.node < l.length ∧ (gr l (ridx l r.node)).num < r.num ∧ rputC l r = true ∧ r ∈ rputL l r) ∨ (0 ≤ ridx l r.node ∧ ridx l r.node < l.length ∧ ¬ (gr l (ridx l r.node)).num < r.num ∧ rputC l r = false ∧ rputL l r = l) := by
  have hE : rputE l r = 0 := by unfold rputE; rw [if_neg (by rw [rchk_iff.2 h]; simp), hr]
  have hm := (put_mem h hr).2 r
  rcases rhas_idx h r.node with ⟨h1, h2⟩ | ⟨h1, h2, h3, h4⟩
  · refine .inl ⟨h2, by unfold rputC; rw [if_neg (by rw [hE]; simp), if_pos h1], hm.2 (.inl ⟨rfl, fun y hy e => ?_⟩)⟩
    exfalso
    have := (rhas_iff h r.node).2 ⟨y, hy, e⟩
    rw [h1] at this; cases this
  · right
    have hg := (rhas_mem h1).2
    have hlt := (rhas_mem h1).1
    by_cases hn : (gr l (ridx l r.node)).num < r.num
    · refine .inl ⟨h2, h3, hn, by unfold rputC; rw [if_neg (by rw [hE]; simp), if_neg (by rw [h1]; simp), if_neg (by rw [← h4]; omega)], hm.2 (.inl ⟨rfl, fun y hy e => ?_⟩)⟩
      have : gr l (rpos l r.node) = y := inc_inj h.inc (by rw [gr_elem hlt]; exact List.getElem_mem _) hy (by omega)
      rw [h4, this] at hn
      exact hn
    · refine .inr ⟨h2, h3, hn, by unfold rputC; rw [if_neg (by rw [hE]; simp), if_neg (by rw [h1]; simp), if_pos (by rw [← h4]; omega)], by unfold rputL; rw [if_neg (by rw [hE]; simp), if_neg (by rw [h1]; simp), if_pos (by rw [← h4]; omega)]⟩
theorem ridx_pix (l : List Rp) (n : Int) : ridx l n = pix (fun x => x.node == n) l := rfl
set_option maxHeartbeats 800000 in
theorem pred60_any (P : Nat) (r x : Rp) (W : World) (h : W.heap[P]? = some (.cells #[.int .i64 r.node, .int .i64 r.parent, .int .i64 r.num] 70 (0, 0))) :
    Calls Try.prog 60 #[.agg #[.int .i64 x.node, .int .i64 x.parent, .int .i64 x.num], .pointer (some ⟨P, 0, none⟩)] W fun e w' => e = .returned (.bool (x.node == r.node)) ∧ Below W.heap.size W w' := by
  obtain ⟨q0, q1, q2⟩ := box3 h
  have hl := blk_lt h
  have hne : ¬ P = W.heap.size := by omega
  have hu70 := Try.underlying70
  have HB := Lib.hid ((Below.refl W.heap.size W).alloc (Nat.le_refl _) (.cells #[.int .i64 x.node, .int .i64 x.parent, .int .i64 x.num] 70))
  clear h
  go_enter Try.func60, Try.ntmps60
  go_wp2
  go_ret
  exact ⟨rfl, HB.out⟩
attribute [local go_sem high] eqA70
set_option maxHeartbeats 1600000 in
theorem indexEq_any (r : Rp) (A : Option Addr) (c : Nat) (l : List Rp) (w : World) (hr : RowAt Rp.cells 3 w A l) :
    Calls Try.prog 100 #[.slice A l.length c, .agg #[.int .i64 r.node, .int .i64 r.parent, .int .i64 r.num]] w fun e w' => e = .returned (.int .i64 (pix (rpEq r) l)) ∧ Below w.heap.size w w' := by
  have HR := Lib.hid hr
  have hb := hr.1
  have hu70 := Try.underlying70
  have hB1 : Below w.heap.size w (w.alloc (.cells #[.int .i64 r.node, .int .i64 r.parent, .int .i64 r.num] 70)) := (Below.refl _ _).alloc (Nat.le_refl _) _
  have HQ := Lib.hid (blk_new w (.cells #[.int .i64 r.node, .int .i64 r.parent, .int .i64 r.num] 70) rfl)
  have HB1 := Lib.hid hB1
  clear hr hB1
  go_enter Try.func100, Try.ntmps100
  go_wp2
  go_loopw [8] (fun v wr => ∃ i : Nat, v = .int .i64 i ∧ i ≤ l.length ∧ Hid (∀ j : Nat, j < i → rpEq r (gr l j) = false) ∧ Hid (wr.heap[w.heap.size]? = some (.cells #[.int .i64 r.node, .int .i64 r.parent, .int .i64 r.num] 70 (0, 0))) ∧ Hid (Below w.heap.size w wr)) (fun v _ => (l.length - (intOf v)).toNat)
  case atStart => exact ⟨0, rfl, by omega, Lib.hid (fun j h => by omega), HQ, HB1⟩
  case round =>
    obtain ⟨i, rfl, hle, HN, HQR, HB⟩ := hrel
    by_cases hlt : i < l.length
    · obtain ⟨ad, rfl, c0, c1, c2⟩ := (HR.out.below HB.out).rp i (by omega) (by omega)
      rw [Int.toNat_natCast] at c0 c1 c2
      obtain ⟨q0, q1, q2⟩ := box3 HQR.out
      obtain ⟨y, hy⟩ : ∃ y, gr l i = y := ⟨_, rfl⟩
      rw [hy] at c0 c1 c2
      have HY := Lib.hid hy
      have g1 : (0 : Int) ≤ i := by omega
      have g2 : (i : Int) < l.length := by omega
      have bi : decide ((i : Int) < l.length) = true := decide_eq_true (by omega)
      obtain ⟨b, hbb⟩ : ∃ b, rpEq r y = b := ⟨_, rfl⟩
      clear hy
      cases b
      · have HN2 := Lib.hid (show ∀ j : Nat, j < i + 1 → rpEq r (gr l j) = false from fun j hj => by
          by_cases e : j = i
          · subst e; rw [HY.out]; exact hbb
          · exact HN.out j (by omega))
        go_wp2_with fail
        go_quiet (fail)
        go_wp2
        go_roundw
        case rel => exact ⟨i + 1, by simp, by omega, HN2, HQR, Lib.hid (blw_drewN HB.out _)⟩
        case measure => simp [intOf]; omega
      · have HF := Lib.hid (pix_hit (p := rpEq r) hlt (by rw [HY.out]; exact hbb) HN.out)
        go_wp2_with fail
        go_quiet (fail)
        go_wp2
        go_ret
        exact ⟨ret_int HF.out.symm, blw_drewN HB.out _⟩
    · have bi : decide ((i : Int) < l.length) = false := decide_eq_false (by omega)
      obtain rfl : i = l.length := by omega
      have HF := Lib.hid (pix_miss (p := rpEq r) HN.out)
      go_wp2
      go_ret
      exact ⟨ret_int HF.out.symm, HB.out⟩
set_option maxHeartbeats 800000 in
theorem containsEq_any (r : Rp) (A : Option Addr) (c : Nat) (l : List Rp) (w : World) (hr : RowAt Rp.cells 3 w A l) :
    Calls Try.prog 61 #[.slice A l.length c, .agg #[.int .i64 r.node, .int .i64 r.parent, .int .i64 r.num]] w fun e w' => e = .returned (.bool (l.any (rpEq r))) ∧ Below w.heap.size w w' := by
  have hB1 : Below w.heap.size w (w.alloc (.cells #[.int .i64 r.node, .int .i64 r.parent, .int .i64 r.num] 70)) := (Below.refl _ _).alloc (Nat.le_refl _) _
  have HC := Lib.hid (indexEq_any r A c l _ (hr.below hB1))
  have HB1 := Lib.hid hB1
  have HE := Lib.hid (pix_any (rpEq r) l)
  have hu70 := Try.underlying70
  clear hr hB1
  go_enter Try.func61, Try.ntmps61
  go_wp2_with (go_at_call 100; refine HC.out.mono ?_; rintro e w4 ⟨rfl, hb4⟩; (have HB4 := Lib.hid (HB1.out.trans (hb4.mono (by simp)))); clear hb4)
  go_ret
  exact ⟨ret_bool HE.out, HB4.out⟩
end Go.Proofs.Ytckanomabhbkaaa
