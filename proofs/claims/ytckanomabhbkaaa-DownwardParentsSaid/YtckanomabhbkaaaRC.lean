/- The iterator way$1, walked: it gives the way of a node. -/
import Derived.Test.YtckanomabhbkaaaRB
import Derived.Test.YtckanomabhbkaaaDO
namespace Go.Proofs.Ytckanomabhbkaaa
open Go.RowKit Go.Shelf
set_option linter.unusedVariables false
theorem below_grown {W W' : World} (h : Below W.heap.size W W') : W.grownBy W' none := by
  obtain ⟨h1, h2, h3, h4, h5⟩ := h
  exact ⟨h1, h2, h3, h4, fun k hk _ => h5 k hk⟩
/-- How many marks are not set yet. -/
def visLeft (V : Nat) (w : World) : Nat := (List.range 32).countP (fun i => match w.cell? ⟨V, i, none⟩ with | some (.bool false) => true | _ => false)
theorem visLeft_eq {V : Nat} {w : World} {vis : List Int} {t : TypeId} (h : w.heap[V]? = some (.cells (bitsOf vis) t (0, 0))) : visLeft V w = (List.range 32).countP (fun i : Nat => !decide ((i : Int) ∈ vis)) := by
  unfold visLeft
  apply List.countP_congr
  intro i hi
  rw [blk_cell h, bits_get _ (by simpa using hi)]
  cases decide ((i : Int) ∈ vis) <;> simp
theorem countP_lt {l : List Nat} {p q : Nat → Bool} (h : ∀ x ∈ l, p x = true → q x = true) {a : Nat} (ha : a ∈ l) (hq : q a = true) (hp : p a = false) : l.countP p < l.countP q := by
  induction l with
  | nil => simp at ha
  | cons x l ih =>
    have hle : l.countP p ≤ l.countP q := List.countP_mono_left (fun y hy => h y (by simp [hy]))
    rw [List.countP_cons, List.countP_cons]
    rw [List.mem_cons] at ha
    rcases ha with rfl | ha
    · rw [hq, hp]; simp; omega
    · have := ih (fun y hy => h y (by simp [hy])) ha
      by_cases hpx : p x = true
      · rw [hpx, h x (by simp) hpx]; simp; omega
      · have h0 : p x = false := by simpa using hpx
        rw [h0, if_neg (by simp)]; omega
theorem visLeft_less {vis : List Int} {n : Nat} (hn : n < 32) (hv : (n : Int) ∉ vis) : (List.range 32).countP (fun i : Nat => !decide ((i : Int) ∈ (n : Int) :: vis)) < (List.range 32).countP (fun i : Nat => !decide ((i : Int) ∈ vis)) := by
  refine countP_lt (fun x _ hx => ?_) (a := n) (by simpa using hn) (by simp [hv]) (by simp)
  simp only [List.mem_cons, Bool.not_eq_true', decide_eq_false_iff_not, not_or] at hx ⊢
  exact hx.2
attribute [local go_sem] Oper.semAt_some
set_option maxRecDepth 100000 in
set_option maxHeartbeats 4000000 in
theorem way_seq (A : Option Addr) (c : Nat) (l : List Rp) (fr : Int) (Bf Bl : Nat) (w : World) (hr : RpAt w A c l) (hok : Rok l) (hf : w.cell? ⟨Bf, 0, none⟩ = some (.int .i64 fr)) (hl : w.cell? ⟨Bl, 0, none⟩ = some (.slice A l.length c)) :
    SeqV Try.prog 120 #[.pointer (some ⟨Bf, 0, none⟩), .pointer (some ⟨Bl, 0, none⟩)] (wayL l fr) w.heap.size w := by
  intro n lid J W hW hJ hY h0
  have HR := Lib.hid hr
  have HOK := Lib.hid hok
  have HF := Lib.hid hf
  have HL := Lib.hid hl
  have HY := Lib.hid hY
  have HJ := Lib.hid hJ
  have HW := Lib.hid hW
  have HJ0 := Lib.hid h0
  have hsz := hW.size
  have qf : W.cell? ⟨Bf, 0, none⟩ = some (.int .i64 fr) := (hW.cell (p := ⟨Bf, 0, none⟩) (cell_lt hf)).trans hf
  have hbf0 : Bf < W.heap.size := by have := cell_lt hf; simp at this; omega
  have hbf : ¬ Bf = W.heap.size := by have := cell_lt hf; simp at this; omega
  clear hr hok hf hl hY hJ hW h0
  have f94 : Fence.wide.fn 94 := trivial
  have f88 : Fence.wide.fn 88 := trivial
  have hdep : Fence.wide.depth.isSome = false := rfl
  refine callsIn_of_wp Try.func120 rfl trivial ?_ rfl
  simp only [Try.ntmps120, List.size_toArray, List.length_cons, List.length_nil, Nat.reduceAdd, Nat.reduceSub, Array.replicate_succ, Array.replicate_zero, List.push_toArray, List.append_toArray, List.nil_append, List.cons_append]
  gi_wp2
  obtain ⟨V, hV⟩ : ∃ V, W.heap.size = V := ⟨_, rfl⟩
  rw [hV] at hsz hbf0 hbf ⊢
  gi_loopw [5] (fun v wr => ∃ (x : Int) (vis : List Int) (k : Nat), v = .int .i64 x ∧ k + vis.length = 33 ∧ Hid vis.Nodup ∧ Hid (∀ y ∈ vis, 0 ≤ y ∧ y < 32) ∧ Hid (wayL l fr = vis.reverse ++ wayF l k x vis) ∧ Hid (J vis.reverse wr) ∧ Hid (wr.heap[V]? = some (.cells (bitsOf vis) 128 (0, 0))) ∧ Hid (Below w.heap.size w wr)) (fun _ wr => visLeft V wr)
  case atStart => exact ⟨fr, [], 33, rfl, rfl, Lib.hid List.nodup_nil, Lib.hid (by simp), Lib.hid rfl, Lib.hid (HJ.out _ _ _ none HJ0.out (World.grownBy_alloc W _ none) (fun r e => by cases e)), Lib.hid (by rw [bits_nil]; exact blk_new W _ hV.symm), Lib.hid (HW.out.alloc HW.out.size _)⟩
  case round =>
    obtain ⟨x, vis, k, rfl, hkv, HVN, HVR, HWY, HJP, HVB, HB⟩ := hrel
    have HVL := Lib.hid (node_len 32 vis HVN.out HVR.out)
    have HC := Lib.hid (fun W' => callsIn_wide (n := n - 1) |>.2 (node_any x W'))
    obtain ⟨b, hb⟩ : ∃ b, nodeB x = b := ⟨_, rfl⟩
    rw [hb] at HC
    have HNB := Lib.hid hb
    clear hb
    cases b
    case false =>
      have HE := Lib.hid (show wayL l fr = vis.reverse by rw [HWY.out, wayF_end (.inl HNB.out), List.append_nil])
      gi_wp2_with (gi_at_call 94; refine (HC.out _).mono ?_; rintro e w' ⟨rfl, rfl⟩)
      refine ⟨fun _ h => (by cases h), ?_⟩
      gi_wp2
      go_end0
      exact ⟨⟨_, rfl⟩, by rw [HE.out]; exact HJP.out⟩
    have hx0 : 0 ≤ x := (nodeB_iff.1 HNB.out).1
    have hx1 : x < 32 := (nodeB_iff.1 HNB.out).2
    obtain ⟨y, rfl⟩ : ∃ y : Nat, x = y := ⟨x.toNat, by omega⟩
    have q0 : wr.cell? ⟨V, y, none⟩ = some (.bool (decide ((y : Int) ∈ vis))) := (blk_cell HVB.out y).trans (bits_get vis (by omega))
    by_cases hin : (y : Int) ∈ vis
    · have HE := Lib.hid (show wayL l fr = vis.reverse by rw [HWY.out, wayF_end (.inr hin), List.append_nil])
      rw [decide_eq_true hin] at q0
      clear hin
      gi_wp2_with (gi_at_call 94; refine (HC.out _).mono ?_; rintro e w' ⟨rfl, rfl⟩)
      refine ⟨fun _ h => (by cases h), ?_⟩
      gi_wp2
      go_end0
      exact ⟨⟨_, rfl⟩, by rw [HE.out]; exact HJP.out⟩
    rw [decide_eq_false hin] at q0
    have HIN := Lib.hid hin
    obtain ⟨k, rfl⟩ : ∃ k', k = k' + 1 := ⟨k - 1, by have := HVL.out; omega⟩
    have HW2 := Lib.hid (HWY.out.trans (by rw [wayF_new HNB.out hin]))
    obtain ⟨fn, tmps, assign, body, hy, hR⟩ := HY.out vis.reverse y wr HJP.out (by rw [List.length_reverse]; have := HVL.out; omega)
    clear hin
    gi_wp2_with (gi_at_call 94; refine (HC.out _).mono ?_; rintro e w' ⟨rfl, rfl⟩)
    refine hR.mono ?_
    rintro e W3 ⟨rfl, hJ3, hk3⟩
    have HB3 := Lib.hid (HB.out.trans hk3.bel)
    have HV3 := Lib.hid (hk3.vis V _ HVB.out)
    have hg4 : W3.grownBy (W3.setCell ⟨V, y, none⟩ (.bool true)) (some V) := ⟨rfl, rfl, rfl, by simp [World.setCell], fun k' _ hne => Below.heap_setCell W3 ⟨V, y, none⟩ (.bool true) k' (fun e => hne (by rw [e]))⟩
    have HV4 := Lib.hid (show (W3.setCell ⟨V, y, none⟩ (.bool true)).heap[V]? = some (.cells (bitsOf ((y : Int) :: vis)) 128 (0, 0)) by
      rw [bits_same (m := vis ++ [(y : Int)]) (fun z => by simp; exact or_comm), ← bits_set vis (by omega)]
      exact set1_any HV3.out y _)
    have HB4 := Lib.hid (HB3.out.setCell (p := ⟨V, y, none⟩) hsz (.bool true))
    have HJ4 := Lib.hid (HJ.out _ _ _ _ hJ3 hg4 (fun r e => by cases e; exact ⟨hsz, _, HV3.out⟩))
    have q3 : W3.cell? ⟨V, y, none⟩ = some (.bool (decide ((y : Int) ∈ vis))) := (blk_cell HV3.out y).trans (bits_get vis (by omega))
    have f3 : W3.frozen? ⟨V, y, none⟩ = false := blk_free HV3.out y
    have hbl : Bl < w.heap.size := by have := cell_lt HL.out; simpa using this
    obtain ⟨W4, hW4⟩ : ∃ W4, W3.setCell ⟨V, y, none⟩ (.bool true) = W4 := ⟨_, rfl⟩
    rw [hW4] at HV4 HB4 HJ4
    have ql : W4.cell? ⟨Bl, 0, none⟩ = some (.slice A l.length c) := (HB4.out.cell (p := ⟨Bl, 0, none⟩) hbl).trans HL.out
    have HFI := Lib.hid (callsIn_wide (n := n - 1) |>.2 (find_any A c l y W4 (HR.out.below HB4.out) HOK.out))
    obtain ⟨p, hp⟩ : ∃ p, rpos l y = p := ⟨_, rfl⟩
    obtain ⟨b, hb⟩ : ∃ b, rhas l y = b := ⟨_, rfl⟩
    rw [hp, hb] at HFI
    have HP := Lib.hid hp
    have HH := Lib.hid hb
    rw [hp, hb] at HW2
    clear hR hJ3 hk3 hg4 q0 hp hb
    by_cases hy0 : y = 0
    · subst hy0
      have b0 : ((0 : Int) == 0) = true := rfl
      have HE := Lib.hid (show wayL l fr = vis.reverse ++ [((0 : Nat) : Int)] by rw [HW2.out, if_pos (.inl rfl)])
      gi_wp2_with (gi_at_call 88; refine HFI.out.mono ?_; rintro e W5 ⟨rfl, hb5⟩; (have HJ5 := Lib.hid (HJ.out _ _ _ none HJ4.out (below_grown hb5) (fun r e => by cases e))); clear hb5)
      refine bodyPost_ret (results_none rfl _ _ _) rfl ?_
      exact ⟨⟨_, rfl⟩, by rw [HE.out]; exact HJ5.out⟩
    have b0 : ((y : Int) == 0) = false := beq_eq_false_iff_ne.2 (by omega)
    have b0' : (y == 0) = false := beq_eq_false_iff_ne.2 hy0
    cases b
    · have HE := Lib.hid (show wayL l fr = vis.reverse ++ [(y : Int)] by rw [HW2.out, if_pos (.inr rfl)])
      clear hy0
      gi_wp2_with (gi_at_call 88; refine HFI.out.mono ?_; rintro e W5 ⟨rfl, hb5⟩; (have HJ5 := Lib.hid (HJ.out _ _ _ none HJ4.out (below_grown hb5) (fun r e => by cases e))); clear hb5)
      refine bodyPost_ret (results_none rfl _ _ _) rfl ?_
      exact ⟨⟨_, rfl⟩, by rw [HE.out]; exact HJ5.out⟩
    have hpl : p < l.length := by have := rhas_mem HH.out; rw [HP.out] at this; exact this.1
    have HE := Lib.hid (show wayL l fr = ((y : Int) :: vis).reverse ++ wayF l k (gr l p).parent ((y : Int) :: vis) by rw [HW2.out, if_neg (by simp; omega)]; simp)
    have HVN2 := Lib.hid (List.nodup_cons.2 ⟨HIN.out, HVN.out⟩)
    have HVR2 := Lib.hid (show ∀ z ∈ (y : Int) :: vis, 0 ≤ z ∧ z < 32 from fun z hz => by
      rw [List.mem_cons] at hz
      rcases hz with rfl | hz
      · omega
      · exact HVR.out z hz)
    have g1 : (0 : Int) ≤ p := by omega
    have g2 : (p : Int) < l.length := by omega
    clear hy0
    gi_wp2_with (gi_at_call 88; refine HFI.out.mono ?_; rintro e W5 ⟨rfl, hb5⟩; (have HJ5 := Lib.hid (HJ.out _ _ _ none HJ4.out (below_grown hb5) (fun r e => by cases e))); (have HB5 := Lib.hid (HB4.out.trans (hb5.mono HB4.out.size))); (have HV5 := Lib.hid (blk_below HV4.out hb5 (blk_lt HV4.out))); (have ql5 : W5.cell? ⟨Bl, 0, none⟩ = some (.slice A l.length c) := (HB5.out.cell (p := ⟨Bl, 0, none⟩) hbl).trans HL.out); clear hb5; obtain ⟨ad, rfl, c0, c1, c2⟩ := (HR.out.below HB5.out).row.rp p (by omega) (by omega); rw [Int.toNat_natCast] at c0 c1 c2)
    refine ⟨⟨_, (y : Int) :: vis, k, rfl, by rw [List.length_cons]; omega, HVN2, HVR2, HE, Lib.hid (by rw [List.reverse_cons]; exact HJ5.out), HV5, HB5⟩, ?_⟩
    rw [visLeft_eq HV5.out, visLeft_eq HVB.out]
    exact visLeft_less (by omega) HIN.out
end Go.Proofs.Ytckanomabhbkaaa
