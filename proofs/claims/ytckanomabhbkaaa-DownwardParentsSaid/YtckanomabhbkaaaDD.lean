/- Put of the program, walked. -/
import Derived.Test.YtckanomabhbkaaaDC
import Derived.Test.YtckanomabhbkaaaDI
namespace Go.Proofs.Ytckanomabhbkaaa
open Go.RowKit Go.Shelf
set_option linter.unusedVariables false
def st3 (w : World) (g o : Nat) (x : Rp) : World := ((w.setCell ⟨g, o, none⟩ (.int .i64 x.node)).setCell ⟨g, o + 1, none⟩ (.int .i64 x.parent)).setCell ⟨g, o + 2, none⟩ (.int .i64 x.num)
theorem set1_atR {w : World} {g : Nat} {cur : Array Value} {t : TypeId} {fr : Nat × Nat} (h : w.heap[g]? = some (.cells cur t fr)) (o : Nat) (v : Value) : (w.setCell ⟨g, o, none⟩ v).heap[g]? = some (.cells (cur.setIfInBounds o v) t fr) := by
  have hm : (w.setCell ⟨g, o, none⟩ v).heap[g]? = (w.heap[g]?).map (fun | .cells c elem frozen => .cells (c.setIfInBounds o v) elem frozen | o => o) := by
    simp [World.setCell, Array.getElem?_modify]
    rfl
  rw [hm, h]; rfl
theorem st3_at {w : World} {g o : Nat} {cur : Array Value} {t : TypeId} (h : w.heap[g]? = some (.cells cur t (0, 0))) (ho : o + 3 ≤ cur.size) (x : Rp) : (st3 w g o x).heap[g]? = some (.cells (splice cur.toList o x.cells).toArray t (0, 0)) := by
  unfold st3
  rw [set1_atR (set1_atR (set1_atR h o _) (o + 1) _) (o + 2) _]
  refine congrArg (fun a => some (Obj.cells a t (0, 0))) (Array.toList_inj.1 ?_)
  apply List.ext_getElem?
  intro j
  have hl : cur.toList.length = cur.size := Array.length_toList
  rw [List.toList_toArray, splice_get _ _ _ (by rw [Rp.cells_len]; omega), Rp.cells_len]
  simp only [Array.toList_setIfInBounds, List.getElem?_set, List.length_set, hl]
  by_cases h1 : j < o
  · rw [if_pos h1, if_neg (by omega), if_neg (by omega), if_neg (by omega)]
  · rw [if_neg h1]
    by_cases h2 : j < o + 3
    · rw [if_pos h2]
      obtain ⟨d, rfl⟩ : ∃ d, j = o + d := ⟨j - o, by omega⟩
      rw [show o + d - o = d from by omega]
      have hd : d = 0 ∨ d = 1 ∨ d = 2 := by omega
      rcases hd with rfl | rfl | rfl
      · rw [if_neg (by omega), if_neg (by omega), if_pos (by omega), if_pos (by omega)]; rfl
      · rw [if_neg (by omega), if_pos (by omega), if_pos (by omega)]; rfl
      · rw [if_pos (by omega), if_pos (by omega)]; rfl
    · rw [if_neg h2, if_neg (by omega), if_neg (by omega), if_neg (by omega)]
theorem st3_grown (w : World) (g o : Nat) (x : Rp) : w.grownBy (st3 w g o x) (some g) :=
  have h : ∀ (w : World) o v, w.grownBy (w.setCell ⟨g, o, none⟩ v) (some g) := fun w o v => ⟨rfl, rfl, rfl, by simp [World.setCell], fun k hk hne => Below.heap_setCell w ⟨g, o, none⟩ v k (fun e => hne (by rw [e]))⟩
  ((h w _ _).trans (h _ _ _)).trans (h _ _ _)
theorem Own.storeR {w : World} {base g c : Nat} {m : List Rp} {e : TypeId} (h : Own Rp.cells 3 w base e (.slice (some ⟨g, 0, none⟩) m.length c) m) {i : Nat} (hi : i < m.length) (x : Rp) : Own Rp.cells 3 (st3 w g (i * 3) x) base e (.slice (some ⟨g, 0, none⟩) m.length c) (m.set i x) := by
  rcases h.2 with ⟨he, h0⟩ | ⟨g', cap, cur, he, hb, hg, hn, hc, hcs, ht⟩
  · omega
  · cases he
    have hF := rF_len m
    have hlc : cur.toList.length = c * 3 := by rw [Array.length_toList]; exact hcs
    have hh := st3_at hg (show i * 3 + 3 ≤ cur.size by omega) x
    generalize st3 w g (i * 3) x = W' at hh ⊢
    have hls : (m.set i x).length = m.length := List.length_set
    have hsz : (splice cur.toList (i * 3) x.cells).toArray.size = c * 3 := by rw [List.size_toArray, length_splice _ _ _ (by rw [Rp.cells_len]; omega), hlc]
    refine ⟨rF_len _, .inr ⟨g, c, (splice cur.toList (i * 3) x.cells).toArray, by rw [hls], hb, hh, by rw [hls]; exact hn, hc, hsz, ?_⟩⟩
    rw [hls, List.toList_toArray, List.set_eq_take_append_cons_drop, if_pos hi, List.flatMap_append, List.flatMap_cons, rF_take, rF_drop]
    have h1 : ((m.flatMap Rp.cells).take (i * 3)).length = i * 3 := by rw [List.length_take, hF]; omega
    apply List.ext_getElem?
    intro j
    have hFL : ∀ k, k < m.length * 3 → cur.toList[k]? = (m.flatMap Rp.cells)[k]? := fun k hk => by rw [← ht, List.getElem?_take, if_pos hk]
    rw [List.getElem?_take]
    by_cases hj : j < m.length * 3
    · rw [if_pos hj, splice_get _ _ _ (by rw [Rp.cells_len]; omega), Rp.cells_len]
      by_cases c1 : j < i * 3
      · rw [if_pos c1, List.getElem?_append_left (by omega), List.getElem?_take, if_pos c1]
        exact hFL j hj
      · rw [if_neg c1, List.getElem?_append_right (by omega), h1]
        by_cases c2 : j < i * 3 + 3
        · rw [if_pos c2, List.getElem?_append_left (by rw [Rp.cells_len]; omega)]
        · rw [if_neg c2, List.getElem?_append_right (by rw [Rp.cells_len]; omega), Rp.cells_len, List.getElem?_drop, show (i + 1) * 3 + (j - i * 3 - 3) = j from by omega]
          exact hFL j hj
    · rw [if_neg hj]
      symm
      apply List.getElem?_eq_none
      rw [List.length_append, h1, List.length_append, Rp.cells_len, List.length_drop, hF]; omega


def FreshR (B : Nat) (A : Option Addr) : Prop := ∀ a, A = some a → B ≤ a.block
theorem Own.freshR {α : Type} {enc : α → List Value} {k n c base B : Nat} {w : World} {A : Option Addr} {l : List α} {e : TypeId} (h : Own enc k w base e (.slice A n c) l) (hB : B ≤ base) : FreshR B A := by
  rintro a rfl
  exact Nat.le_trans hB (h.lt rfl).1
def rputE (l : List Rp) (r : Rp) : Int := if rchk l ≠ 0 then 1 else rform r
def rputL (l : List Rp) (r : Rp) : List Rp :=
  if rputE l r ≠ 0 then [] else if rhas l r.node = false then l.take (rpos l r.node) ++ r :: l.drop (rpos l r.node) else if r.num ≤ (gr l (rpos l r.node)).num then l else l.set (rpos l r.node) r
def rputC (l : List Rp) (r : Rp) : Bool :=
  if rputE l r ≠ 0 then false else if rhas l r.node = false then true else if r.num ≤ (gr l (rpos l r.node)).num then false else true
/-- The answer of Put. -/
def RPutAns (B : Nat) (w' : World) (e : Ending) (l : List Rp) (r : Rp) : Prop :=
  ∃ A c, e = .returned (.tuple #[.slice A (rputL l r).length c, .bool (rputC l r), .int .i64 (rputE l r)]) ∧ RpAt w' A c (rputL l r) ∧ FreshR B A
theorem RPutAns.bad {B : Nat} {w' : World} {l : List Rp} {r : Rp} {E : Int} (h : rputE l r = E) (hE : E ≠ 0) : RPutAns B w' (.returned (.tuple #[.slice none 0 0, .bool false, .int .i64 E])) l r := by
  have h1 : rputL l r = [] := by unfold rputL; rw [if_pos (by rw [h]; exact hE)]
  have h2 : rputC l r = false := by unfold rputC; rw [if_pos (by rw [h]; exact hE)]
  exact ⟨none, 0, by rw [h1, h2, h]; rfl, by rw [h1]; exact RpAt.zero _, fun a h => by cases h⟩
theorem RPutAns.good {B : Nat} {w' : World} {l : List Rp} {r : Rp} {A : Option Addr} {c : Nat} {Q : List Rp} {b : Bool} (h : rputE l r = 0) (hQ : rputL l r = Q) (hb : rputC l r = b) (h1 : RpAt w' A c Q) (hf : FreshR B A) :
    RPutAns B w' (.returned (.tuple #[.slice A Q.length c, .bool b, .int .i64 0])) l r :=
  ⟨A, c, by rw [hQ, hb, h], by rw [hQ]; exact h1, hf⟩
theorem box3 {w : World} {b : Nat} {a0 a1 a2 : Value} {t : TypeId} {fr : Nat × Nat} (h : w.heap[b]? = some (.cells #[a0, a1, a2] t fr)) : w.cell? ⟨b, 0, none⟩ = some a0 ∧ w.cell? ⟨b, 1, none⟩ = some a1 ∧ w.cell? ⟨b, 2, none⟩ = some a2 := ⟨blk_cell h 0, blk_cell h 1, blk_cell h 2⟩
theorem RowAt.rp0 {w : World} {g : Nat} {l : List Rp} (h : RowAt Rp.cells 3 w (some ⟨g, 0, none⟩) l) (i : Nat) (hi : i < l.length) :
    w.cell? ⟨g, i * 3, none⟩ = some (.int .i64 (gr l i).node) ∧ w.cell? ⟨g, i * 3 + 1, none⟩ = some (.int .i64 (gr l i).parent) ∧ w.cell? ⟨g, i * 3 + 2, none⟩ = some (.int .i64 (gr l i).num) := by
  obtain ⟨ad, e, hc⟩ := h.2 (by omega)
  cases e
  have hx : l[i]? = some (gr l i) := by have := gr_get (l := l) (i := i) (by omega) (by omega); rwa [Int.toNat_natCast] at this
  have hadd : ∀ j, (⟨g, 0, none⟩ : Addr).add j = ⟨g, j, none⟩ := fun j => by unfold Addr.add; split <;> simp_all
  have hc := hc i _ hx
  exact ⟨by rw [← hadd]; exact hc 0 _ rfl, by rw [← hadd]; exact hc 1 _ rfl, by rw [← hadd]; exact hc 2 _ rfl⟩
theorem Own.someR {w : World} {base : Nat} {A : Option Addr} {c : Nat} {l : List Rp} {e : TypeId} (h : Own Rp.cells 3 w base e (.slice A l.length c) l) (hpos : 0 < l.length) : ∃ g cur, A = some ⟨g, 0, none⟩ ∧ w.heap[g]? = some (.cells cur e (0, 0)) ∧ base ≤ g := by
  rcases h.2 with ⟨he, h0⟩ | ⟨g', cap, cur, he, hb, hg, hn, hc, hcs, ht⟩
  · omega
  · cases he
    exact ⟨g', cur, rfl, hg, hb⟩
set_option maxHeartbeats 1600000 in
theorem rput_bad (A : Option Addr) (c : Nat) (l : List Rp) (r : Rp) (w : World) (hr : RpAt w A c l) (hE : rputE l r ≠ 0) :
    Calls Try.prog 45 #[.slice A l.length c, .agg #[.int .i64 r.node, .int .i64 r.parent, .int .i64 r.num]] w fun e w' => RPutAns w.heap.size w' e l r ∧ Below w.heap.size w w' := by
  have HR := Lib.hid hr
  have hu70 := Try.underlying70
  have HW := Lib.hid (show Below w.heap.size w (w.alloc (.cells #[.int .i64 r.node, .int .i64 r.parent, .int .i64 r.num] 70)) from (Below.refl _ _).alloc (Nat.le_refl _) _)
  have HQ := Lib.hid (blk_new w (.cells #[.int .i64 r.node, .int .i64 r.parent, .int .i64 r.num] 70) rfl)
  have hz : (w.alloc (.cells #[.int .i64 r.node, .int .i64 r.parent, .int .i64 r.num] 70)).heap.size = w.heap.size + 1 := by simp
  clear hr
  by_cases h1 : rchk l = 0
  case neg =>
    have b1 : (rchk l != 0) = true := by simp [h1]
    have HE := Lib.hid (show rputE l r = 1 by unfold rputE; rw [if_pos h1])
    clear hE h1
    go_enter Try.func45, Try.ntmps45
    go_wp2_with fail
    refine (rcheck_any A c l _ (HR.out.below HW.out)).mono ?_
    rintro e w1 ⟨rfl, hb1⟩
    have HB1 := Lib.hid (HW.out.trans (hb1.mono (by omega)))
    clear hb1
    go_wp2
    go_ret3
    exact ⟨RPutAns.bad HE.out (by decide), HB1.out⟩
  have b1 : (rchk l != 0) = false := by simp [h1]
  obtain ⟨E, hEE⟩ : ∃ E, rform r = E := ⟨_, rfl⟩
  have HF := Lib.hid hEE
  have HE := Lib.hid (show rputE l r = E by unfold rputE; rw [if_neg (by rw [h1]; simp), hEE])
  rw [HE.out] at hE
  have b2 : (E != 0) = true := by simp [hE]
  have HN := Lib.hid hE
  clear hE h1 hEE
  go_enter Try.func45, Try.ntmps45
  go_wp2_with fail
  refine (rcheck_any A c l _ (HR.out.below HW.out)).mono ?_
  rintro e w1 ⟨rfl, hb1⟩
  obtain ⟨q0, q1, q2⟩ := box3 (blk_below HQ.out hb1 (by omega))
  have HB1 := Lib.hid (HW.out.trans (hb1.mono (by omega)))
  clear hb1
  go_wp2_with fail
  refine (rform_any r _).mono ?_
  rintro e w2 ⟨rfl, hb2⟩
  rw [HF.out]
  have HB2 := Lib.hid (HB1.out.trans (hb2.mono HB1.out.size))
  clear hb2 q0 q1 q2
  set_option maxRecDepth 100000 in go_wp2
  go_ret3
  exact ⟨RPutAns.bad HE.out HN.out, HB2.out⟩
set_option maxHeartbeats 3200000 in
theorem rput_good (A : Option Addr) (c : Nat) (l : List Rp) (r : Rp) (w : World) (hr : RpAt w A c l) (hE : rputE l r = 0) :
    Calls Try.prog 45 #[.slice A l.length c, .agg #[.int .i64 r.node, .int .i64 r.parent, .int .i64 r.num]] w fun e w' => RPutAns w.heap.size w' e l r ∧ Below w.heap.size w w' := by
  have HR := Lib.hid hr
  have hu70 := Try.underlying70
  have hu68 := Try.underlying68
  have HW := Lib.hid (show Below w.heap.size w (w.alloc (.cells #[.int .i64 r.node, .int .i64 r.parent, .int .i64 r.num] 70)) from (Below.refl _ _).alloc (Nat.le_refl _) _)
  have HQ := Lib.hid (blk_new w (.cells #[.int .i64 r.node, .int .i64 r.parent, .int .i64 r.num] 70) rfl)
  have hz : (w.alloc (.cells #[.int .i64 r.node, .int .i64 r.parent, .int .i64 r.num] 70)).heap.size = w.heap.size + 1 := by simp
  have h1 : rchk l = 0 := by
    by_cases h1 : rchk l = 0
    · exact h1
    · exact absurd hE (by unfold rputE; rw [if_pos h1]; decide)
  have b1 : (rchk l != 0) = false := by simp [h1]
  have hF : rform r = 0 := by unfold rputE at hE; rw [if_neg (by rw [h1]; simp)] at hE; exact hE
  have HF := Lib.hid hF
  have HE := Lib.hid hE
  have HOK := Lib.hid (rchk_iff.1 h1)
  have hl31 := HOK.out.len
  obtain ⟨p, hp⟩ : ∃ p, rpos l r.node = p := ⟨_, rfl⟩
  have hpl : p ≤ l.length := by rw [← hp]; exact rpos_le _ _
  obtain ⟨b, hb⟩ : ∃ b, rhas l r.node = b := ⟨_, rfl⟩
  have HP := Lib.hid hp
  have HBB := Lib.hid hb
  have b2 : ((0 : Int) != 0) = false := by simp
  have hcap := hr.cap
  have hle := hr.le
  clear hr hE h1 hF hp hb
  go_enter Try.func45, Try.ntmps45
  go_wp2_with fail
  refine (rcheck_any A c l _ (HR.out.below HW.out)).mono ?_
  rintro e w1 ⟨rfl, hb1⟩
  have HQ1 := Lib.hid (blk_below HQ.out hb1 (by omega))
  obtain ⟨q0, q1, q2⟩ := box3 HQ1.out
  have HB1 := Lib.hid (HW.out.trans (hb1.mono (by omega)))
  have hz1 : w.heap.size + 1 ≤ w1.heap.size := by have := hb1.size; omega
  clear hb1
  go_wp2_with fail
  refine (rform_any r _).mono ?_
  rintro e w2 ⟨rfl, hb2⟩
  rw [HF.out]
  have HQ2 := Lib.hid (blk_below HQ1.out hb2 (blk_lt HQ1.out))
  have HB2 := Lib.hid (HB1.out.trans (hb2.mono HB1.out.size))
  have hz2 : w.heap.size + 1 ≤ w2.heap.size := Nat.le_trans hz1 hb2.size
  clear hb2 q0 q1 q2 HQ1 hz1
  set_option maxRecDepth 100000 in go_wp2_with fail
  refine (rclone_any A c l _ (HR.out.row.below HB2.out) (by omega) HR.out.nil).mono ?_
  rintro e w3 ⟨v, rfl, hO3, hb3⟩
  have hfm := hO3.form
  obtain ⟨A3, c3, rfl, hle3, hcm3⟩ := hfm
  have HO3 := Lib.hid hO3
  have HQ3 := Lib.hid (blk_below HQ2.out hb3 (blk_lt HQ2.out))
  have HB3 := Lib.hid (HB2.out.trans (hb3.mono HB2.out.size))
  have hz3 : w2.heap.size ≤ w3.heap.size := hb3.size
  obtain ⟨q0, q1, q2⟩ := box3 HQ3.out
  clear hb3 hO3
  set_option maxRecDepth 100000 in go_wp2_with fail
  refine (find_any A c l r.node _ (HR.out.below HB3.out) HOK.out).mono ?_
  rintro e w4 ⟨rfl, hb4⟩
  rw [HP.out, HBB.out]
  have HO4 := Lib.hid (HO3.out.below hb4 (Nat.le_refl _))
  have HQ4 := Lib.hid (blk_below HQ3.out hb4 (blk_lt HQ3.out))
  have HB4 := Lib.hid (HB3.out.trans (hb4.mono HB3.out.size))
  have hz4 : w3.heap.size ≤ w4.heap.size := hb4.size
  clear hb4 q0 q1 q2 HO3 HQ3
  obtain ⟨q0, q1, q2⟩ := box3 HQ4.out
  have l0 := blk_lt HQ4.out
  have n0 : ¬ w.heap.size = w4.heap.size := by omega
  cases b
  · obtain ⟨Q, hQ⟩ : ∃ Q, l.take p ++ r :: l.drop p = Q := ⟨_, rfl⟩
    have HQQ := Lib.hid hQ
    have HL := Lib.hid (show rputL l r = Q by unfold rputL; rw [if_neg (by rw [HE.out]; simp), if_pos HBB.out, HP.out, hQ])
    clear hQ
    have HC := Lib.hid (show rputC l r = true by unfold rputC; rw [if_neg (by rw [HE.out]; simp), if_pos HBB.out])
    have hsz4 : (w4.alloc (.cells #[.int .i64 r.node, .int .i64 r.parent, .int .i64 r.num] 70)).heap.size = w4.heap.size + 1 := by simp
    set_option maxRecDepth 100000 in go_wp2_with fail
    refine (rinsert_any A3 c3 l p r w4.heap.size _ w2.heap.size (HO4.out.alloc _) hpl (blk_new w4 _ rfl) (fun e => by have := (HO4.out.lt (b := w4.heap.size) (by rw [ob_eq]; exact e)).2; omega) (by rw [hsz4]; omega) (by omega)).mono ?_
    rintro e w5 ⟨v, rfl, hO5, hg5⟩
    rw [HQQ.out] at hO5
    have HB5 := Lib.hid ((HB4.out.alloc HB4.out.size (.cells #[.int .i64 r.node, .int .i64 r.parent, .int .i64 r.num] 70)).grown hg5 (by rw [hsz4]; omega) (fun k e => by have := (HO4.out.lt (b := k) (by rw [ob_eq]; exact e)).1; omega))
    have hfm := hO5.form
    obtain ⟨A5, c5, rfl, _, _⟩ := hfm
    have HO5 := Lib.hid hO5
    clear hO5 hg5
    go_wp2
    go_ret3
    exact ⟨RPutAns.good HE.out HL.out HC.out HO5.out.rpAt (HO5.out.freshR (show w.heap.size ≤ w2.heap.size by omega)), HB5.out⟩
  have hpl2 : p < l.length := by
    have := HBB.out
    unfold rhas at this
    rw [HP.out] at this
    simp at this
    exact this.1
  obtain ⟨ad, rfl, c0, c1, c2⟩ := (HR.out.row.below HB4.out).rp p (by omega) (by omega)
  rw [Int.toNat_natCast] at c0 c1 c2
  have g1 : (0 : Int) ≤ p := by omega
  have g2 : (p : Int) < l.length := by omega
  by_cases hnum : r.num ≤ (gr l p).num
  · have HL := Lib.hid (show rputL l r = l by unfold rputL; rw [if_neg (by rw [HE.out]; simp), if_neg (by rw [HBB.out]; simp), HP.out, if_pos hnum])
    have HC := Lib.hid (show rputC l r = false by unfold rputC; rw [if_neg (by rw [HE.out]; simp), if_neg (by rw [HBB.out]; simp), HP.out, if_pos hnum])
    have b3 : decide (r.num ≤ (gr l p).num) = true := by simp [hnum]
    clear hnum
    set_option maxRecDepth 100000 in go_wp2_with fail
    go_quiet (fail)
    set_option maxRecDepth 100000 in go_wp2
    go_ret3
    exact ⟨RPutAns.good HE.out HL.out HC.out (HO4.out.drewN _).rpAt (HO4.out.freshR (show w.heap.size ≤ w2.heap.size by omega)), blw_drewN HB4.out _⟩
  · have HL := Lib.hid (show rputL l r = l.set p r by unfold rputL; rw [if_neg (by rw [HE.out]; simp), if_neg (by rw [HBB.out]; simp), HP.out, if_neg hnum])
    have HC := Lib.hid (show rputC l r = true by unfold rputC; rw [if_neg (by rw [HE.out]; simp), if_neg (by rw [HBB.out]; simp), HP.out, if_neg hnum])
    have b3 : decide (r.num ≤ (gr l p).num) = false := by simp; omega
    clear hnum
    set_option maxRecDepth 100000 in go_wp2_with fail
    go_quiet (fail)
    obtain ⟨wq, hwq⟩ : ∃ wq, w4.drewN nq = wq := ⟨_, rfl⟩
    rw [hwq]
    have HO6 : Hid (Own Rp.cells 3 wq w2.heap.size 70 (.slice A3 l.length c3) l) := by rw [← hwq]; exact HO4.out.drewN _
    have HQ6 : Hid (wq.heap[w.heap.size]? = some (.cells #[.int .i64 r.node, .int .i64 r.parent, .int .i64 r.num] 70 (0, 0))) := by rw [← hwq]; exact HQ4.out
    have HB6 : Hid (Below w.heap.size w wq) := by rw [← hwq]; exact blw_drewN HB4.out _
    clear hwq q0 q1 q2 c0 c1 c2 b3 n0 l0
    obtain ⟨g, cur, rfl, hcur, hbg⟩ := HO6.out.someR (by omega)
    obtain ⟨d0, d1, d2⟩ := HO6.out.rpAt.row.rp0 p hpl2
    obtain ⟨q0, q1, q2⟩ := box3 HQ6.out
    have f := blk_free hcur
    have f0 := f (p * 3)
    have f1 := f (p * 3 + 1)
    have f2 := f (p * 3 + 2)
    have hlc : (p : Int) < l.length := g2
    have hne : ¬ g = w.heap.size := by omega
    clear f hcur
    set_option maxRecDepth 100000 in go_wp2
    go_ret3
    have HS' : Own Rp.cells 3 (st3 wq g (p * 3) r) w2.heap.size 70 (.slice (some ⟨g, 0, none⟩) (l.set p r).length c3) (l.set p r) := by rw [List.length_set]; exact HO6.out.storeR hpl2 r
    refine ⟨?_, HB6.out.grown (st3_grown wq g (p * 3) r) HB6.out.size (fun k e => by cases e; omega)⟩
    have h := RPutAns.good (B := w.heap.size) (w' := st3 wq g (p * 3) r) (A := some ⟨g, 0, none⟩) (c := c3) HE.out HL.out HC.out HS'.rpAt (fun a ha => by cases ha; show w.heap.size ≤ g; omega)
    rw [List.length_set] at h
    exact h
theorem rput_any (A : Option Addr) (c : Nat) (l : List Rp) (r : Rp) (w : World) (hr : RpAt w A c l) :
    Calls Try.prog 45 #[.slice A l.length c, .agg #[.int .i64 r.node, .int .i64 r.parent, .int .i64 r.num]] w fun e w' => RPutAns w.heap.size w' e l r ∧ Below w.heap.size w w' := by
  by_cases h : rputE l r = 0
  · exact rput_good A c l r w hr h
  · exact rput_bad A c l r w hr h
end Go.Proofs.Ytckanomabhbkaaa
