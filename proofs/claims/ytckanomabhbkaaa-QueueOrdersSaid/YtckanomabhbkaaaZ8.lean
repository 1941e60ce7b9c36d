/- The law QueueOrders, walked. -/
import Derived.Test.YtckanomabhbkaaaYO
import Derived.Test.YtckanomabhbkaaaYB
import Derived.Test.YtckanomabhbkaaaZ1
import Derived.Test.YtckanomabhbkaaaYF
namespace Go.Proofs.Ytckanomabhbkaaa
open Go.RowKit Go.Shelf
set_option linter.unusedVariables false
attribute [local go_sem high] eqA30
theorem pkEq_me (p : Pk) : pkEq p p = true := pkEq_iff.2 rfl
theorem filter_next {l : List Pk} {d : Int} {i : Nat} (h : i < l.length) : (l.take (i + 1)).filter (top d) = (l.take i).filter (top d) ++ if ((gp l i).dst == d) = true then [gp l i] else [] := by
  rw [take_next h, List.filter_append, List.filter_cons, List.filter_nil]
  rfl
/-- While all that is for a neighbour is taken: the rest lies at X. -/
structure OrI (X : Nat) (W0 : World) (L d : Int) (n j : Nat) (want : List Pk) (A : Option Addr) (c : Nat) (m : List Pk) (wr : World) : Prop where
  bel : Below X W0 wr
  bx : wr.heap[X]? = some (.cells #[.int .i64 L, .slice A m.length c] 24 (0, 0))
  row : PkAt wr A c m
  far : 0 < m.length → ∀ a, A = some a → a.block ≠ X
  chk : chk L m = 0
  fil : m.filter (top d) = want.drop j
  len : m.length + j = n
  ids : IdsOk m
theorem OrI.set {X : Nat} {W0 W : World} {L d : Int} {n j : Nat} {want : List Pk} {A0 A : Option Addr} {n0 c0 c k : Nat} {m : List Pk} (bel : Below X W0 W) (bx : W.heap[X]? = some (.cells #[.int .i64 L, .slice A0 n0 c0] 24 (0, 0))) (row : PkAt W A c m) (hfr : Fresh (X + 1) A) (hchk : Go.Proofs.Ytckanomabhbkaaa.chk L m = 0) (fil : m.filter (top d) = want.drop j) (len : m.length + j = n) (ids : IdsOk m) (hk : k = m.length) :
    OrI X W0 L d n j want A c m ((W.setCell ⟨X, 0, none⟩ (.int .i64 L)).setCell ⟨X, 1, none⟩ (.slice A k c)) := by
  subst hk
  exact ⟨(bel.setCell (Nat.le_refl _) _).setCell (Nat.le_refl _) _, set1_at (set1_at bx 0 (.int .i64 L)) 1 (.slice A m.length c), (row.setFresh hfr (by show X < X + 1; omega) _).setFresh hfr (by show X < X + 1; omega) _, fun _ a ha => by have := hfr a ha; omega, hchk, fil, len, ids⟩
theorem OrI.below {X : Nat} {W0 W W1 : World} {L d : Int} {n j : Nat} {want : List Pk} {A : Option Addr} {c : Nat} {m : List Pk} (h : OrI X W0 L d n j want A c m W) (hb : Below W.heap.size W W1) : OrI X W0 L d n j want A c m W1 :=
  ⟨h.bel.trans (hb.mono (Nat.le_of_lt (blk_lt h.bx))), blk_below h.bx hb (blk_lt h.bx), h.row.below hb, h.far, h.chk, h.fil, h.len, h.ids⟩
set_option maxHeartbeats 12800000 in
theorem queueOrders_any (L : Int) (A : Option Addr) (c : Nat) (l : List Pk) (d s : Int) (w : World) (hr : PkAt w A c l) (hids : IdsOk l) (hw1 : (Lit.int .i64 d).wf = true) (hw2 : (Lit.int .u16 s).wf = true) :
    Calls Try.prog 14 #[.agg #[.int .i64 L, .slice A l.length c], .int .i64 d, .int .u16 s] w fun e w' => e = .returned (.bool true) ∧ Below w.heap.size w w' := by
  have HR := Lib.hid hr
  have hs : 0 ≤ s ∧ s ≤ 65535 := by
    have e1 : IntKind.u16.min = 0 := rfl
    have e2 : IntKind.u16.max = 65535 := rfl
    simp [Lit.wf] at hw2
    omega
  have hcap := hr.cap
  clear hr hw1 hw2
  have hu24 := Try.underlying24
  have hu30 := Try.underlying30
  have HA : ∀ W, Hid (Calls Try.prog 18 #[] W fun e w' => e = .returned (.bool true) ∧ Below W.heap.size W w') := awake_any
  obtain ⟨x, hx⟩ : ∃ x, few l = x := ⟨_, rfl⟩
  have HX := Lib.hid hx
  clear hx
  by_cases hskip : x = false ∨ chk L l ≠ 0
  · rcases hskip with rfl | h1
    · go_enter Try.func14, Try.ntmps14
      go_wp2_with fail
      refine (HA _).out.mono ?_
      rintro e w1 ⟨rfl, hb1⟩
      have HB1 := Lib.hid (show Below (w.heap.size + 1) (w.alloc (.cells #[.int .i64 L, .slice A l.length c] 24)) w1 from by simpa using hb1)
      obtain ⟨⟨q0, q1⟩, l1⟩ := box24 HB1.out
      clear hb1
      go_wp2_with fail
      refine (few_any L A c l _ (HR.out.row.below (box24_bel HB1.out))).mono ?_
      rintro e w2 ⟨rfl, hb2⟩
      rw [HX.out]
      have HB2 := Lib.hid (HB1.out.trans (hb2.mono (by omega)))
      clear q0 q1 hb2
      set_option maxRecDepth 100000 in go_wp2
      go_ret
      exact ⟨rfl, box24_bel HB2.out⟩
    · have b1 : (chk L l != 0) = true := by simp [h1]
      clear h1
      cases x
      all_goals
        go_enter Try.func14, Try.ntmps14
        go_wp2_with fail
        refine (HA _).out.mono ?_
        rintro e w1 ⟨rfl, hb1⟩
        have HB1 := Lib.hid (show Below (w.heap.size + 1) (w.alloc (.cells #[.int .i64 L, .slice A l.length c] 24)) w1 from by simpa using hb1)
        obtain ⟨⟨q0, q1⟩, l1⟩ := box24 HB1.out
        clear hb1
        go_wp2_with fail
        refine (few_any L A c l _ (HR.out.row.below (box24_bel HB1.out))).mono ?_
        rintro e w2 ⟨rfl, hb2⟩
        rw [HX.out]
        have HB2 := Lib.hid (HB1.out.trans (hb2.mono (by omega)))
        clear q0 q1 hb2
        obtain ⟨⟨q0, q1⟩, l2⟩ := box24 HB2.out
      · set_option maxRecDepth 100000 in go_wp2
        go_ret
        exact ⟨rfl, box24_bel HB2.out⟩
      · set_option maxRecDepth 100000 in go_wp2_with fail
        refine (check_any L A c l _ (HR.out.row.below (box24_bel HB2.out)) hids).mono ?_
        rintro e w3 ⟨rfl, hb3⟩
        have HB3 := Lib.hid (HB2.out.trans (hb3.mono (by omega)))
        clear q0 q1 hb3
        set_option maxRecDepth 100000 in go_wp2
        go_ret
        exact ⟨rfl, box24_bel HB3.out⟩
  obtain rfl : x = true := by cases x <;> simp_all
  have h1 : chk L l = 0 := by
    by_cases h : chk L l = 0
    · exact h
    · exact absurd (.inr h) hskip
  have H1 := Lib.hid h1
  have b1 : (chk L l != 0) = false := by simp [h1]
  have hck := chk_ok h1
  have hl64 : l.length ≤ 64 := by omega
  clear h1 hskip hck
  go_enter Try.func14, Try.ntmps14
  go_wp2_with fail
  refine (HA _).out.mono ?_
  rintro e w1 ⟨rfl, hb1⟩
  have HB1 := Lib.hid (show Below (w.heap.size + 1) (w.alloc (.cells #[.int .i64 L, .slice A l.length c] 24)) w1 from by simpa using hb1)
  obtain ⟨⟨q0, q1⟩, l1⟩ := box24 HB1.out
  clear hb1
  go_wp2_with fail
  refine (few_any L A c l _ (HR.out.row.below (box24_bel HB1.out))).mono ?_
  rintro e w2 ⟨rfl, hb2⟩
  rw [HX.out]
  have HB2 := Lib.hid (HB1.out.trans (hb2.mono (by omega)))
  clear q0 q1 hb2
  obtain ⟨⟨q0, q1⟩, l2⟩ := box24 HB2.out
  set_option maxRecDepth 100000 in go_wp2_with fail
  refine (check_any L A c l _ (HR.out.row.below (box24_bel HB2.out)) hids).mono ?_
  rintro e w3 ⟨rfl, hb3⟩
  have HB3 := Lib.hid (HB2.out.trans (hb3.mono (by omega)))
  clear q0 q1 hb3 l1 l2 HB1 HB2
  obtain ⟨⟨q0, q1⟩, l3⟩ := box24 HB3.out
  set_option maxRecDepth 100000 in go_wp2
  clear q0 q1
  set_option maxRecDepth 100000 in
  go_loopw [7, 38] (fun u v wr => ∃ (i : Nat) (A7 : Option Addr) (c7 : Nat), v = .int .i64 i ∧ u = .slice A7 ((l.take i).filter (top d)).length c7 ∧ i ≤ l.length ∧ Hid (Below w3.heap.size w3 wr) ∧ Hid (Own Pk.cells 6 wr w3.heap.size 30 (.slice A7 ((l.take i).filter (top d)).length c7) ((l.take i).filter (top d)))) (fun u v _ => (l.length - (intOf v)).toNat)
  case atStart => exact ⟨0, none, 0, rfl, rfl, by omega, Below.refl _ _, Own.nil _ _ _⟩
  case round =>
    obtain ⟨i, A7, c7, rfl, rfl, hil, HBT, HO⟩ := hrel
    obtain ⟨F, hF⟩ : ∃ F, (l.take i).filter (top d) = F := ⟨_, rfl⟩
    rw [hF] at HO ⊢
    have HFF := Lib.hid hF
    have HFL := Lib.hid (show F.length ≤ i by rw [← hF]; have := List.length_filter_le (top d) (l.take i); rw [List.length_take] at this; omega)
    have HBW := Lib.hid (HB3.out.trans (HBT.out.mono (by omega)))
    obtain ⟨⟨q0, q1⟩, l4⟩ := box24 HBW.out
    clear hF
    by_cases hlt : i < l.length
    · obtain ⟨ad, rfl, c0, c1, c2, c3, c4, c5⟩ := (HR.out.row.below (box24_bel HBW.out)).pk i (by omega) (by omega)
      rw [Int.toNat_natCast] at c0 c1 c2 c3 c4 c5
      have hli : decide ((i : Int) < l.length) = true := by simp; omega
      have g1 : (0 : Int) ≤ i := by omega
      have g2 : (i : Int) < l.length := by omega
      have HFN := Lib.hid (filter_next (d := d) hlt)
      rw [HFF.out] at HFN
      have HZ3 := Lib.hid (show w3.heap.size ≤ wr.heap.size from HBT.out.size)
      obtain ⟨b, hb⟩ : ∃ b, ((gp l i).dst == d) = b := ⟨_, rfl⟩
      rw [hb] at HFN
      cases b
      · have HFE := Lib.hid (show (l.take (i + 1)).filter (top d) = F by rw [HFN.out]; simp)
        set_option maxRecDepth 100000 in go_wp2
        go_roundw
        case rel => exact ⟨i + 1, A7, c7, by simp, by rw [HFE.out], by omega, HBT.out.alloc HZ3.out _, by rw [HFE.out]; exact HO.out.alloc _⟩
        case measure => simp [intOf]; omega
      · have HFE := Lib.hid (show (l.take (i + 1)).filter (top d) = F ++ [gp l i] by rw [HFN.out]; simp)
        set_option maxRecDepth 100000 in go_wp2_with (at_builtin; refine Own.append Pk.cells_len Pk.cells_one rfl _ _ 22 30 _ 56 rfl Try.underlying22 info30 rfl (by decide) (by decide) (.slice A7 F.length c7) F rfl (base := w3.heap.size) ((HO.out.alloc _).alloc _) ⟨wr.heap.size + 1, 0, none⟩ [gp l i] 1 rfl (by have h := RowAt.new (enc := Pk.cells) (k := 6) (wr.alloc (.cells #[.int .i64 (gp l i).id, .int .i64 (gp l i).dst, .int .i64 (gp l i).pr, .int .i64 (gp l i).born, .int .i64 (gp l i).life, .string (gp l i).data] 30)) (gp l i) #[.int .i64 (gp l i).id, .int .i64 (gp l i).dst, .int .i64 (gp l i).pr, .int .i64 (gp l i).born, .int .i64 (gp l i).life, .string (gp l i).data] 30 rfl; simpa using h) (by have := HZ3.out; simp; omega) (by have := HFL.out; simp only [List.length_cons, List.length_nil]; omega) ?_; intro v1 w5 hO5 hg5 _; (have hfm := hO5.form); obtain ⟨A8, c8, rfl, _, _⟩ := hfm; (have HO5 := Lib.hid hO5); (have HB5 := Lib.hid (((HBT.out.alloc HZ3.out (.cells #[.int .i64 (gp l i).id, .int .i64 (gp l i).dst, .int .i64 (gp l i).pr, .int .i64 (gp l i).born, .int .i64 (gp l i).life, .string (gp l i).data] 30)).alloc (by have := HZ3.out; simp; omega) (.cells #[.int .i64 (gp l i).id, .int .i64 (gp l i).dst, .int .i64 (gp l i).pr, .int .i64 (gp l i).born, .int .i64 (gp l i).life, .string (gp l i).data] 30)).grown hg5 (by have := HZ3.out; simp; omega) (fun k e => (HO.out.lt e).1))); clear hO5 hg5)
        go_roundw
        case rel => exact ⟨i + 1, A8, c8, by simp, by rw [HFE.out]; simp, by omega, HB5.out, by rw [HFE.out]; exact HO5.out⟩
        case measure => simp [intOf]; omega
    · have hli : decide ((i : Int) < l.length) = false := by simp; omega
      obtain rfl : i = l.length := by omega
      have HW := Lib.hid (show l.filter (top d) = F by rw [← HFF.out, List.take_length])
      have n4 : ¬ w.heap.size = wr.heap.size := by omega
      obtain ⟨wo, rfl⟩ : ∃ wo : World, wo = wr := ⟨_, rfl⟩
      clear hil HBT HFF
      set_option maxRecDepth 100000 in go_wp2
      have HI0 : Hid (OrI wo.heap.size wo L d l.length 0 F A c l (wo.alloc (.cells #[.int .i64 L, .slice A l.length c] 24))) :=
        ⟨(Below.refl _ _).alloc (Nat.le_refl _) _, blk_new wo _ rfl, (HR.out.below (box24_bel HBW.out)).below ((Below.refl _ _).alloc (Nat.le_refl _) _), fun hl a ha => by
          subst ha
          have := row_lt HR.out.row hl
          omega, H1.out, by rw [HW.out, List.drop_zero], by omega, hids⟩
      have hFl : F.length ≤ 64 := by have := HFL.out; omega
      obtain ⟨X, hX⟩ : ∃ X, wo.heap.size = X := ⟨_, rfl⟩
      rw [hX] at HI0 l4 n4 ⊢
      have HXX := Lib.hid hX
      clear hX q0 q1
      set_option maxRecDepth 100000 in
      go_loopw [54] (fun v wr => ∃ (j : Nat) (Am : Option Addr) (cm : Nat) (m : List Pk), v = .int .i64 j ∧ j ≤ F.length ∧ Hid (OrI X wo L d l.length j F Am cm m wr)) (fun v _ => (F.length - (intOf v)).toNat)
      case atStart => exact ⟨0, A, c, l, rfl, by omega, HI0.out⟩
      case round =>
        obtain ⟨j, Am, cm, m, rfl, hj, HI⟩ := hrel
        have HOW := Lib.hid (HO.out.below (B := X) HI.out.bel (by rw [HXX.out]; exact Nat.le_refl _))
        by_cases hjl : j < F.length
        · have bj : decide ((j : Int) < F.length) = true := by simp; omega
          obtain ⟨ad, rfl, c0, c1, c2, c3, c4, c5⟩ := HOW.out.pkAt.row.pk j (by omega) (by omega)
          rw [Int.toNat_natCast] at c0 c1 c2 c3 c4 c5
          have g1 : (0 : Int) ≤ j := by omega
          have g2 : (j : Int) < F.length := by omega
          obtain ⟨p, hp⟩ : ∃ p, gp F j = p := ⟨_, rfl⟩
          rw [hp] at c0 c1 c2 c3 c4 c5
          have HST := Lib.hid (take_step (d := d) (rest := F.drop (j + 1)) (x := p) HI.out.chk (by rw [HI.out.fil, List.drop_eq_getElem_cons hjl, ← hp, gp_elem hjl]))
          have q0 : wr.cell? ⟨X, 0, none⟩ = some (.int .i64 L) := blk_cell HI.out.bx 0
          have q1 : wr.cell? ⟨X, 1, none⟩ = some (.slice Am m.length cm) := blk_cell HI.out.bx 1
          have lX : X < wr.heap.size := blk_lt HI.out.bx
          have nX : ¬ X = wr.heap.size := by omega
          clear hp
          set_option maxRecDepth 100000 in go_wp2_with fail
          obtain ⟨V1, hV1⟩ : ∃ V1, wr.alloc (.cells #[.int .i64 p.id, .int .i64 p.dst, .int .i64 p.pr, .int .i64 p.born, .int .i64 p.life, .string p.data] 30) = V1 := ⟨_, rfl⟩
          have HV1 : Hid (Below wr.heap.size wr V1 ∧ V1.heap.size = wr.heap.size + 1 ∧ V1.heap[wr.heap.size]? = some (.cells #[.int .i64 p.id, .int .i64 p.dst, .int .i64 p.pr, .int .i64 p.born, .int .i64 p.life, .string p.data] 30 (0, 0))) := by rw [← hV1]; exact ⟨(Below.refl _ _).alloc (Nat.le_refl _) _, by simp, blk_new wr _ rfl⟩
          rw [hV1]
          clear hV1
          refine (qfirst_any L Am cm m d _ (HI.out.row.below HV1.out.1) HI.out.ids).mono ?_
          rintro e w4 ⟨rfl, hb4⟩
          rw [HST.out.1, HST.out.2.1]
          unfold pkv
          have HB4 := Lib.hid (HV1.out.1.trans (hb4.mono (by have := HV1.out.2.1; omega)))
          have K4 := Lib.hid (blk_below HV1.out.2.2 hb4 (by have := HV1.out.2.1; omega))
          have hz4 : wr.heap.size + 1 ≤ w4.heap.size := by have := hb4.size; have := HV1.out.2.1; omega
          clear q0 q1 hb4 HV1 c0 c1 c2 c3 c4 c5
          have q0 : w4.cell? ⟨X, 0, none⟩ = some (.int .i64 L) := blk_cell (blk_below HI.out.bx HB4.out lX) 0
          have q1 : w4.cell? ⟨X, 1, none⟩ = some (.slice Am m.length cm) := blk_cell (blk_below HI.out.bx HB4.out lX) 1
          have nX4 : ¬ X = w4.heap.size := by omega
          have lX4 : X < w4.heap.size := by omega
          set_option maxRecDepth 100000 in go_wp2_with fail
          obtain ⟨V4, hV4⟩ : ∃ V4, w4.alloc (.cells #[.int .i64 p.id, .int .i64 p.dst, .int .i64 p.pr, .int .i64 p.born, .int .i64 p.life, .string p.data] 30) = V4 := ⟨_, rfl⟩
          have HV4 : Hid (Below w4.heap.size w4 V4 ∧ V4.heap.size = w4.heap.size + 1 ∧ V4.heap[w4.heap.size]? = some (.cells #[.int .i64 p.id, .int .i64 p.dst, .int .i64 p.pr, .int .i64 p.born, .int .i64 p.life, .string p.data] 30 (0, 0))) := by rw [← hV4]; exact ⟨(Below.refl _ _).alloc (Nat.le_refl _) _, by simp, blk_new w4 _ rfl⟩
          rw [hV4]
          clear hV4
          have hb14 := HB4.out.trans (HV4.out.1.mono (by omega))
          have hzV : wr.heap.size ≤ V4.heap.size := hb14.size
          refine (take_any L Am cm m p.id _ (HI.out.row.below hb14) HI.out.ids).mono ?_
          rintro e w5 ⟨⟨A5, c5', rfl, hP5, hF5⟩, hb5⟩
          rw [HST.out.2.2.1, HST.out.2.2.2.1, HST.out.2.2.2.2.1]
          unfold pkv
          obtain ⟨T, hT⟩ : ∃ T, takeQ L m p.id = T := ⟨_, rfl⟩
          rw [hT] at hP5 ⊢
          have HTT := Lib.hid hT
          have HP5 := Lib.hid hP5
          have HF5 := Lib.hid hF5
          have hb45 := HV4.out.1.trans (hb5.mono (by have := HV4.out.2.1; omega))
          have HB5 := Lib.hid (HB4.out.trans (hb45.mono (by omega)))
          have hz5 : w4.heap.size + 1 ≤ w5.heap.size := by have := hb5.size; have := HV4.out.2.1; omega
          obtain ⟨a0, a1, a2, a3, a4, a5⟩ := box6 (blk_below K4.out hb45 (by omega))
          obtain ⟨b0, b1', b2, b3, b4, b5⟩ := box6 (blk_below HV4.out.2.2 hb5 (by have := HV4.out.2.1; omega))
          have t1 := pkEq_me p
          have t2 : ((0 : Int) != 0) = false := by simp
          have o1 : ¬ wr.heap.size = w5.heap.size := by omega
          have o2 : ¬ w4.heap.size = w5.heap.size := by omega
          have o3 : ¬ X = w5.heap.size := by omega
          have o4 : ¬ wr.heap.size = w5.heap.size + 1 := by omega
          have o5 : ¬ w4.heap.size = w5.heap.size + 1 := by omega
          have o6 : ¬ X = w5.heap.size + 1 := by omega
          have o7 : wr.heap.size < w5.heap.size := by omega
          have o8 : w4.heap.size < w5.heap.size := by omega
          have o9 : X < w5.heap.size := by omega
          have HX5 := Lib.hid (blk_below HI.out.bx HB5.out lX)
          have f0 : w5.frozen? ⟨X, 0, none⟩ = false := blk_free HX5.out 0
          have f1 : w5.frozen? ⟨X, 1, none⟩ = false := blk_free HX5.out 1
          have x0 : w5.cell? ⟨X, 0, none⟩ = some (.int .i64 L) := blk_cell HX5.out 0
          have x1 : w5.cell? ⟨X, 1, none⟩ = some (.slice Am m.length cm) := blk_cell HX5.out 1
          clear q0 q1 hb5 hb45 hb14 hP5 hF5 hT K4 HV4
          set_option maxRecDepth 100000 in go_wp2
          have HFIN : Hid (OrI X wo L d l.length (j + 1) F A5 c5' T ((w5.setCell ⟨X, 0, none⟩ (.int .i64 L)).setCell ⟨X, 1, none⟩ (.slice A5 T.length c5'))) := by
            refine OrI.set (HI.out.bel.trans (HB5.out.mono (by omega))) HX5.out HP5.out (fun a ha => ?_) ?_ ?_ ?_ ?_ rfl
            · have h1 := HF5.out a ha
              have h2 : wr.heap.size ≤ V4.heap.size := hzV
              omega
            · rw [← HTT.out]; exact HST.out.2.2.2.2.2.2.2
            · rw [← HTT.out]; exact HST.out.2.2.2.2.2.1
            · have := HST.out.2.2.2.2.2.2.1
              rw [HTT.out] at this
              have := HI.out.len
              omega
            · intro q hq
              rw [← HTT.out] at hq
              refine HI.out.ids q ?_
              have hsub : (takeQ L m p.id).Sublist m := by unfold takeQ; split; exact kept_sub _ _; exact List.nil_sublist _
              exact hsub.subset hq
          go_roundw
          case rel => exact ⟨j + 1, A5, c5', T, by simp, by omega, HFIN.out.below (((Below.refl _ _).alloc (Nat.le_refl _) _).alloc (by simp) _)⟩
          case measure => simp [intOf]; omega
        · have bj : decide ((j : Int) < F.length) = false := by simp; omega
          obtain rfl : j = F.length := by omega
          have q0 : wr.cell? ⟨X, 0, none⟩ = some (.int .i64 L) := blk_cell HI.out.bx 0
          have q1 : wr.cell? ⟨X, 1, none⟩ = some (.slice Am m.length cm) := blk_cell HI.out.bx 1
          have lX : X < wr.heap.size := blk_lt HI.out.bx
          have HEN := Lib.hid (take_end (d := d) HI.out.chk (by rw [HI.out.fil, List.drop_length]))
          have HBZ := Lib.hid (HBW.out.trans (HI.out.bel.mono (by omega)))
          obtain ⟨⟨z0, z1⟩, l5⟩ := box24 HBZ.out
          set_option maxRecDepth 100000 in go_wp2_with fail
          refine (qfirst_any L Am cm m d _ HI.out.row HI.out.ids).mono ?_
          rintro e w4 ⟨rfl, hb4⟩
          rw [HEN.out]
          unfold pkv
          obtain ⟨p, hp⟩ : ∃ p, firstP L m d = p := ⟨_, rfl⟩
          rw [hp]
          have HB4 := Lib.hid hb4
          have HZ4 := Lib.hid (HBZ.out.trans (hb4.mono (by omega)))
          clear q0 q1 z0 z1 hb4 hp
          have q0 : w4.cell? ⟨X, 0, none⟩ = some (.int .i64 L) := blk_cell (blk_below HI.out.bx HB4.out lX) 0
          have q1 : w4.cell? ⟨X, 1, none⟩ = some (.slice Am m.length cm) := blk_cell (blk_below HI.out.bx HB4.out lX) 1
          obtain ⟨⟨z0, z1⟩, l6⟩ := box24 HZ4.out
          have nX4 : ¬ X = w4.heap.size := by have := HB4.out.size; omega
          have lX4 : X < w4.heap.size := by have := HB4.out.size; omega
          have nQ4 : ¬ w.heap.size = w4.heap.size := by omega
          have hlen := HI.out.len
          have t3 : ((m.length : Int) != (l.length : Int) - (F.length : Int)) = false := by simp; omega
          have hFn : (F.length : Int) ≤ l.length := by omega
          clear hlen
          set_option maxRecDepth 100000 in go_wp2_with fail
          refine (expire_any L A c l s _ (HR.out.below ((box24_bel HZ4.out).trans ((Below.refl _ _).alloc (by omega) _))) hids).mono ?_
          rintro e w7 ⟨⟨A7', c7', A8, c8, rfl, hQ7, hG7, _, _⟩, hb7⟩
          obtain ⟨Q, hQe⟩ : ∃ Q, expQ L l s = Q := ⟨_, rfl⟩
          obtain ⟨G, hGe⟩ : ∃ G, expG L l s = G := ⟨_, rfl⟩
          have HHAS := Lib.hid (fun (q : Pk) (hq : q ∈ l) => stale_has (s := s) H1.out hq)
          have HLEN := Lib.hid (stale_len (s := s) H1.out)
          rw [hQe, hGe] at HHAS HLEN
          rw [hQe] at hQ7 ⊢
          rw [hGe] at hG7 ⊢
          have HQ7 := Lib.hid hQ7
          have HG7 := Lib.hid hG7
          have hwz : (w4.alloc (.cells #[.int .i64 p.id, .int .i64 p.dst, .int .i64 p.pr, .int .i64 p.born, .int .i64 p.life, .string p.data] 30)).heap.size = w4.heap.size + 1 := by simp
          have HB7 := Lib.hid ((HZ4.out.alloc (by omega) (.cells #[.int .i64 p.id, .int .i64 p.dst, .int .i64 p.pr, .int .i64 p.born, .int .i64 p.life, .string p.data] 30)).trans (hb7.mono (by omega)))
          clear hQ7 hG7 hQe hGe hb7 q0 q1 z0 z1 hwz lX4 nX4 nQ4 t3
          obtain ⟨⟨z0, z1⟩, l7⟩ := box24 HB7.out
          have nQ7 : ¬ w.heap.size = w7.heap.size := by omega
          set_option maxRecDepth 100000 in go_wp2
          obtain ⟨W7, hW7⟩ : ∃ W7, w7.alloc (.cells #[.int .i64 L, .slice A7' Q.length c7'] 24) = W7 := ⟨_, rfl⟩
          have HW7 : Hid (Below w7.heap.size w7 W7 ∧ W7.heap.size = w7.heap.size + 1 ∧ W7.heap[w7.heap.size]? = some (.cells #[.int .i64 L, .slice A7' Q.length c7'] 24 (0, 0))) := by rw [← hW7]; exact ⟨(Below.refl _ _).alloc (Nat.le_refl _) _, by simp, blk_new w7 _ rfl⟩
          rw [hW7]
          clear hW7 z0 z1
          have HB8 := Lib.hid (HB7.out.trans (HW7.out.1.mono (by omega)))
          obtain ⟨x7, hx7⟩ : ∃ x7, w7.heap.size = x7 := ⟨_, rfl⟩
          have HXB : Hid (W7.heap[x7]? = some (.cells #[.int .i64 L, .slice A7' Q.length c7'] 24 (0, 0))) := by rw [← hx7]; exact HW7.out.2.2
          have HQ8 := Lib.hid (HQ7.out.below HW7.out.1)
          have HG8 := Lib.hid (HG7.out.below HW7.out.1)
          rw [hx7]
          clear hx7
          set_option maxRecDepth 100000 in
          go_loopw [119] (fun v wr => ∃ i : Nat, v = .int .i64 i ∧ i ≤ l.length ∧ Hid (Below W7.heap.size W7 wr)) (fun v _ => (l.length - (intOf v)).toNat)
          case atStart => exact ⟨0, rfl, by omega, Below.refl _ _⟩
          case round =>
            obtain ⟨i, rfl, hil, HBT⟩ := hrel
            have HBR := Lib.hid (HB8.out.trans (HBT.out.mono (by have := HB8.out.size; simp at this; omega)))
            have HZR := Lib.hid HBT.out.size
            have lx7 : x7 < wr.heap.size := Nat.lt_of_lt_of_le (blk_lt HXB.out) HBT.out.size
            have HXR := Lib.hid (blk_below HXB.out HBT.out (blk_lt HXB.out))
            obtain ⟨⟨z0, z1⟩, l8⟩ := box24 HBR.out
            by_cases hlt : i < l.length
            · have hli : decide ((i : Int) < l.length) = true := by simp; omega
              obtain ⟨ad, rfl, c0, c1, c2, c3, c4, c5⟩ := (HR.out.row.below (box24_bel HBR.out)).pk i (by omega) (by omega)
              rw [Int.toNat_natCast] at c0 c1 c2 c3 c4 c5
              have g1 : (0 : Int) ≤ i := by omega
              have g2 : (i : Int) < l.length := by omega
              obtain ⟨q, hq⟩ : ∃ q, gp l i = q := ⟨_, rfl⟩
              have hql : q ∈ l := by rw [← hq, gp_elem hlt]; exact List.getElem_mem _
              have hh := HHAS.out q hql
              rw [hq] at c0 c1 c2 c3 c4 c5
              obtain ⟨b, hb⟩ : ∃ b, decide (q.life ≤ wrap64 (s - q.born)) = b := ⟨_, rfl⟩
              have hst : staleB q s = b := by unfold staleB; rw [decide_eq_true hs.1, hb]; rfl
              rw [hst] at hh
              have HH := Lib.hid hh
              have nQr : ¬ w.heap.size = wr.heap.size := by omega
              have nxr : ¬ x7 = wr.heap.size := by omega
              clear hq hql hh hst
              have HVR := Lib.hid (show Below wr.heap.size wr (wr.alloc (.cells #[.int .i64 q.id, .int .i64 q.dst, .int .i64 q.pr, .int .i64 q.born, .int .i64 q.life, .string q.data] 30)) from (Below.refl _ _).alloc (Nat.le_refl _) _)
              have HPK := Lib.hid (blk_new wr (.cells #[.int .i64 q.id, .int .i64 q.dst, .int .i64 q.pr, .int .i64 q.born, .int .i64 q.life, .string q.data] 30) rfl)
              have hvz : (wr.alloc (.cells #[.int .i64 q.id, .int .i64 q.dst, .int .i64 q.pr, .int .i64 q.born, .int .i64 q.life, .string q.data] 30)).heap.size = wr.heap.size + 1 := by simp
              cases b
              all_goals
                set_option maxRecDepth 100000 in go_wp2_with fail
                refine (containsPk_any A8 c8 G q _ ((HG8.out.row.below HBT.out).below HVR.out)).mono ?_
                rintro e w9 ⟨rfl, hb9⟩
                rw [HH.out.1]
                obtain ⟨a0, a1, a2, a3, a4, a5⟩ := box6 (blk_below HPK.out hb9 (by omega))
                have HB9 := Lib.hid (HVR.out.trans (hb9.mono (by omega)))
                have y1 : w9.cell? ⟨x7, 1, none⟩ = some (.slice A7' Q.length c7') := blk_cell (blk_below HXR.out HB9.out lx7) 1
                clear hb9 c0 c1 c2 c3 c4 c5 z0 z1
                set_option maxRecDepth 100000 in go_wp2_with fail
                refine (containsPk_any A7' c7' Q q _ ((HQ8.out.row.below HBT.out).below HB9.out)).mono ?_
                rintro e w10 ⟨rfl, hb10⟩
                rw [HH.out.2]
                have HB10 := Lib.hid (HB9.out.trans (hb10.mono HB9.out.size))
                clear hb10 a0 a1 a2 a3 a4 a5 y1
                set_option maxRecDepth 100000 in go_wp2
                go_roundw
                case rel => exact ⟨i + 1, by simp, by omega, HBT.out.trans (HB10.out.mono HZR.out)⟩
                case measure => simp [intOf]; omega
            · have hli : decide ((i : Int) < l.length) = false := by simp; omega
              obtain rfl : i = l.length := by omega
              have y0 : wr.cell? ⟨x7, 0, none⟩ = some (.int .i64 L) := blk_cell HXR.out 0
              have y1 : wr.cell? ⟨x7, 1, none⟩ = some (.slice A7' Q.length c7') := blk_cell HXR.out 1
              have hle := HLEN.out
              have t4 : ((Q.length : Int) + (G.length : Int) == (l.length : Int)) = true := by simp; omega
              have hq64 : Q.length ≤ 64 := by omega
              have hg64 : G.length ≤ 64 := by omega
              clear hle
              set_option maxRecDepth 100000 in go_wp2
              go_ret
              exact ⟨rfl, box24_bel HBR.out⟩
end Go.Proofs.Ytckanomabhbkaaa
