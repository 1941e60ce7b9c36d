/- DownwardOld: walked. -/
import Derived.Test.YtckanomabhbkaaaRT
namespace Go.Proofs.Ytckanomabhbkaaa
open Go.RowKit Go.Shelf
set_option linter.unusedVariables false
set_option maxHeartbeats 12800000 in
theorem downwardOld_any (A : Option Addr) (c : Nat) (l : List Rp) (r : Rp) (w : World) (hr : RpAt w A c l) :
    Calls Try.prog 15 #[.slice A l.length c, .agg #[.int .i64 r.node, .int .i64 r.parent, .int .i64 r.num]] w fun e w' => e = .returned (.bool true) ∧ Below w.heap.size w w' := by
  have HR := Lib.hid hr
  have hb := hr.row.1
  have hu70 := Try.underlying70
  have hW := (Below.refl w.heap.size w).alloc (Nat.le_refl _) (.cells #[.int .i64 r.node, .int .i64 r.parent, .int .i64 r.num] 70)
  have HQ := Lib.hid (blk_new w (.cells #[.int .i64 r.node, .int .i64 r.parent, .int .i64 r.num] 70) rfl)
  have hz : (w.alloc (.cells #[.int .i64 r.node, .int .i64 r.parent, .int .i64 r.num] 70)).heap.size = w.heap.size + 1 := by simp
  obtain ⟨w0, hw0⟩ : ∃ w0, w.alloc (.cells #[.int .i64 r.node, .int .i64 r.parent, .int .i64 r.num] 70) = w0 := ⟨_, rfl⟩
  rw [hw0] at hW HQ hz
  have HW := Lib.hid hW
  have HA := Lib.hid (awake24_any w0)
  have HP := Lib.hid (fun W (h : Below w.heap.size w W) => rput_any A c l r W (HR.out.below h))
  unfold RPutAns at HP
  obtain ⟨E, hE⟩ : ∃ E, rputE l r = E := ⟨_, rfl⟩
  obtain ⟨C, hC⟩ : ∃ C, rputC l r = C := ⟨_, rfl⟩
  obtain ⟨K, hK⟩ : ∃ K, rputL l r = K := ⟨_, rfl⟩
  obtain ⟨N, hN⟩ : ∃ N, K.length = N := ⟨_, rfl⟩
  rw [hE, hC, hK, hN] at HP
  have HN := Lib.hid hN
  clear hr hW
  by_cases hbad : 40 < l.length ∨ E ≠ 0
  · have hor : (decide ((40 : Int) < l.length) = true ∧ decide (40 < l.length) = true) ∨ (decide ((40 : Int) < l.length) = false ∧ decide (40 < l.length) = false ∧ (E != 0) = true) := by
      by_cases h1 : 40 < l.length
      · left; exact ⟨decide_eq_true (by omega), decide_eq_true h1⟩
      · right; exact ⟨decide_eq_false (by omega), decide_eq_false h1, by
          rcases hbad with h | h
          · exact absurd h h1
          · simp [h]⟩
    clear hbad hE hC hK hN
    rcases hor with ⟨b1, b1'⟩ | ⟨b1, b1', b2⟩
    all_goals
      set_option maxRecDepth 100000 in go_enter Try.func15, Try.ntmps15
      set_option maxRecDepth 100000 in go_wp2_with (first | (go_at_call 44; refine HA.out.mono ?_; rintro e w1 ⟨rfl, hb1⟩; (have HB1 := Lib.hid (HW.out.trans (hb1.mono HW.out.size))); (have HQ1 := Lib.hid (blk_below HQ.out hb1 (by omega))); clear hb1; obtain ⟨q0, q1, q2⟩ := box3 HQ1.out) | (go_at_call 45; refine (HP.out _ HB1.out).mono ?_; rintro e w2 ⟨⟨A2, c2, rfl, hX, _⟩, hb2⟩; (have HB2 := Lib.hid (HB1.out.trans (hb2.mono HB1.out.size))); clear hb2 hX))
      go_ret
      exact ⟨rfl, HB2.out⟩
  simp only [not_or, Classical.not_not] at hbad
  obtain ⟨h40, hE0⟩ := hbad
  subst hE0
  have hchk : rchk l = 0 := by
    by_cases h : rchk l = 0
    · exact h
    · exfalso; unfold rputE at hE; rw [if_pos h] at hE; cases hE
  have hF : rform r = 0 := by unfold rputE at hE; rw [if_neg (by rw [hchk]; simp)] at hE; exact hE
  have HOK := Lib.hid (rchk_iff.1 hchk)
  have hpc := putC_cases HOK.out hF
  have HOK2 := Lib.hid (show Rok K by rw [← hK]; exact (put_mem HOK.out hF).1)
  have HOT := Lib.hid (show ∀ x : Rp, x.node ≠ r.node → (x ∈ K ↔ x ∈ l) by rw [← hK]; exact put_other HOK.out hF)
  rw [hC, hK] at hpc
  have b1 : decide ((40 : Int) < l.length) = false := decide_eq_false (by omega)
  have b1' : decide (40 < l.length) = false := decide_eq_false h40
  have b2 : ((0 : Int) != 0) = false := rfl
  obtain ⟨ix, hix⟩ : ∃ ix, ridx l r.node = ix := ⟨_, rfl⟩
  rw [hix] at hpc
  have HPC := Lib.hid hpc
  have HIX := Lib.hid (show ∀ W, Below w.heap.size w W → W.heap[w.heap.size]? = some (.cells #[.int .i64 r.node, .int .i64 r.parent, .int .i64 r.num] 70 (0, 0)) → Calls Try.prog 59 #[.slice A l.length c, .func (.func 60) #[] #[.pointer (some ⟨w.heap.size, 0, none⟩)]] W fun e w' => e = .returned (.int .i64 ix) ∧ Below W.heap.size W w' from fun W hBW hq => by
    have h := indexR_any (fun x => x.node == r.node) 60 #[.pointer (some ⟨w.heap.size, 0, none⟩)] A c l W (HR.out.below hBW).row (enters_of Try.func60 (by kernel_rfl) rfl) (fun W' x hW' => (pred60_any w.heap.size r x W' (blk_below hq hW' (blk_lt hq))).mono fun e w' ⟨h1, h2⟩ => ⟨h1, hW'.trans (h2.mono hW'.size)⟩)
    rw [← ridx_pix, hix] at h
    exact h)
  clear hE hC hK hN hchk hF hpc hix h40
  set_option maxRecDepth 100000 in go_enter Try.func15, Try.ntmps15
  set_option maxRecDepth 100000 in go_wp2_with (first | (go_at_call 44; refine HA.out.mono ?_; rintro e w1 ⟨rfl, hb1⟩; (have HB1 := Lib.hid (HW.out.trans (hb1.mono HW.out.size))); (have HQ1 := Lib.hid (blk_below HQ.out hb1 (by omega))); clear hb1; obtain ⟨q0, q1, q2⟩ := box3 HQ1.out) | (go_at_call 45; refine (HP.out _ HB1.out).mono ?_; rintro e w2 ⟨⟨A2, c2, rfl, hX, _⟩, hb2⟩; (have HB2 := Lib.hid (HB1.out.trans (hb2.mono HB1.out.size))); (have HQ2 := Lib.hid (blk_below HQ1.out hb2 (blk_lt HQ1.out))); (have HX2 := Lib.hid hX); clear hb2 hX) | (go_at_call 59; refine (HIX.out _ HB2.out HQ2.out).mono ?_; rintro e w3 ⟨rfl, hb3⟩; (have HB3 := Lib.hid (HB2.out.trans (hb3.mono HB2.out.size))); (have HQ3 := Lib.hid (blk_below HQ2.out hb3 (blk_lt HQ2.out))); (have HX3 := Lib.hid (HX2.out.below hb3)); clear hb3))
  have HD := Lib.hid (show Below w3.heap.size w3 w3.drew from (Below.refl _ w3).drew)
  clear b1 b1' b2 q0 q1 q2
  set_option maxRecDepth 100000 in
  go_cut [65] (fun s65 wx => s65 = .bool false ∧ Hid (Below w3.heap.size w3 wx))
  case first =>
    obtain ⟨q0, q1, q2⟩ := box3 HQ3.out
    rcases HPC.out with ⟨h1, rfl, h2⟩ | ⟨h1, h2, h3, rfl, h4⟩ | ⟨h1, h2, h3, rfl, h5⟩
    · have b1 : decide (ix < 0) = true := decide_eq_true h1
      have HC := Lib.hid (show ∀ p : BelowOf w3, Calls Try.prog 61 #[.slice A2 N c2, .agg #[.int .i64 r.node, .int .i64 r.parent, .int .i64 r.num]] p.W fun e w' => e = .returned (.bool true) ∧ ∃ q : BelowOf w3, w' = q.W from fun p => by
        have h := containsEq_any r A2 c2 K p.W (HX3.out.row.below p.h)
        rw [HN.out, show K.any (rpEq r) = true from List.any_eq_true.2 ⟨r, h2, rpEq_iff.2 rfl⟩] at h
        exact h.mono fun e w' ⟨k1, k2⟩ => ⟨k1, ⟨⟨w', p.h.trans (k2.mono p.h.size)⟩, rfl⟩⟩)
      have p0 := BelowOf.cell q0
      have p1 := BelowOf.cell q1
      have p2 := BelowOf.cell q2
      clear h1 h2 q0 q1 q2
      refine wp_region_below (by kernel_rfl) (by kernel_rfl) ?_
      repeat (go_big_quiet_step ((go_at_call 61; exact HC.out _)))
      refine wpQuiet_nil ?_
      rintro _ ⟨⟨W4, HB4⟩, rfl⟩
      set_option maxRecDepth 100000 in go_wp2_with fail
      go_meet
      exact ⟨rfl, HB4⟩
    · obtain ⟨m, rfl⟩ : ∃ m : Nat, ix = m := ⟨ix.toNat, by omega⟩
      have b1 : decide ((m : Int) < 0) = false := decide_eq_false (by omega)
      obtain ⟨ad, rfl, k0, k1, k2⟩ := (HR.out.below HB3.out).row.rp m (by omega) (by omega)
      rw [Int.toNat_natCast] at k0 k1 k2
      have b2 : decide ((gr l m).num < r.num) = true := decide_eq_true h3
      have g1 : (0 : Int) ≤ m := by omega
      have g2 : (m : Int) < l.length := h2
      have HC := Lib.hid (show ∀ p : BelowOf w3, Calls Try.prog 61 #[.slice A2 N c2, .agg #[.int .i64 r.node, .int .i64 r.parent, .int .i64 r.num]] p.W fun e w' => e = .returned (.bool true) ∧ ∃ q : BelowOf w3, w' = q.W from fun p => by
        have h := containsEq_any r A2 c2 K p.W (HX3.out.row.below p.h)
        rw [HN.out, show K.any (rpEq r) = true from List.any_eq_true.2 ⟨r, h4, rpEq_iff.2 rfl⟩] at h
        exact h.mono fun e w' ⟨k1, k2⟩ => ⟨k1, ⟨⟨w', p.h.trans (k2.mono p.h.size)⟩, rfl⟩⟩)
      have p0 := BelowOf.cell q0
      have p1 := BelowOf.cell q1
      have p2 := BelowOf.cell q2
      have p3 := BelowOf.cell k2
      clear h1 h2 h3 h4 q0 q1 q2 k0 k1 k2
      refine wp_region_below (by kernel_rfl) (by kernel_rfl) ?_
      repeat (go_big_quiet_step ((go_at_call 61; exact HC.out _)))
      refine wpQuiet_nil ?_
      rintro _ ⟨⟨W4, HB4⟩, rfl⟩
      set_option maxRecDepth 100000 in go_wp2_with fail
      go_meet
      exact ⟨rfl, HB4⟩
    · obtain ⟨m, rfl⟩ : ∃ m : Nat, ix = m := ⟨ix.toNat, by omega⟩
      have b1 : decide ((m : Int) < 0) = false := decide_eq_false (by omega)
      obtain ⟨ad, rfl, k0, k1, k2⟩ := (HR.out.below HB3.out).row.rp m (by omega) (by omega)
      rw [Int.toNat_natCast] at k0 k1 k2
      have b2 : decide ((gr l m).num < r.num) = false := decide_eq_false (by omega)
      have g1 : (0 : Int) ≤ m := by omega
      have g2 : (m : Int) < l.length := h2
      have HC := Lib.hid (show ∀ p : BelowOf w3, Calls Try.prog 49 #[.slice A2 N c2, .slice (some ad) l.length c] p.W fun e w' => e = .returned (.bool true) ∧ ∃ q : BelowOf w3, w' = q.W from fun p => by
        have hX := HX3.out.row.below p.h
        rw [h5] at hX
        have h := refSame_any A2 c2 l (some ad) c l p.W hX ((HR.out.below HB3.out).row.below p.h)
        rw [show sameRp l l = true from sameRp_iff.2 rfl] at h
        rw [show N = l.length from by rw [← HN.out, h5]]
        exact h.mono fun e w' ⟨k1, k2⟩ => ⟨k1, ⟨⟨w', p.h.trans (k2.mono p.h.size)⟩, rfl⟩⟩)
      have p2 := BelowOf.cell q2
      have p3 := BelowOf.cell k2
      clear h1 h2 h3 h5 q0 q1 q2 k0 k1 k2
      refine wp_region_below (by kernel_rfl) (by kernel_rfl) ?_
      repeat (go_big_quiet_step ((go_at_call 49; exact HC.out _)))
      refine wpQuiet_nil ?_
      rintro _ ⟨⟨W4, HB4⟩, rfl⟩
      set_option maxRecDepth 100000 in go_wp2_with fail
      go_meet
      exact ⟨rfl, HB4⟩
  case rest =>
    obtain ⟨rfl, HBC⟩ := hcut
    obtain ⟨wd, rfl⟩ : ∃ wd : World, wd = wc := ⟨_, rfl⟩
    set_option maxRecDepth 100000 in go_wp2_with fail
    set_option maxRecDepth 100000 in go_loopw [66] (fun u wr => ∃ n : Nat, u = .int .i64 n ∧ n ≤ 32 ∧ Hid (Below w3.heap.size w3 wr)) (fun u _ => (32 - (intOf u)).toNat)
    case atStart => exact ⟨0, rfl, by omega, HBC⟩
    case round =>
      obtain ⟨n, rfl, hn, HB⟩ := hrel
      by_cases hlt : n < 32
      · have bi : decide ((n : Int) < 32) = true := decide_eq_true (by omega)
        have HQR := Lib.hid (blk_below HQ3.out HB.out (blk_lt HQ3.out))
        have HBR := Lib.hid (HB3.out.trans (HB.out.mono HB3.out.size))
        have hnb : nodeB n = true := nodeB_iff.2 (by omega)
        have HF := Lib.hid (routeE_ok HOK.out hnb)
        have HG := Lib.hid (routeE_ok HOK2.out hnb)
        have HRA := Lib.hid (Route_any A c l n wr (HR.out.below HBR.out))
        have HRB := Lib.hid (fun W (h : Below wr.heap.size wr W) => show Calls Try.prog 62 #[.slice A2 N c2, .int .i64 n] W fun e w' => RouteAns W.heap.size w' e K n ∧ Below W.heap.size W w' from by
          have h := Route_any A2 c2 K n W ((HX3.out.below HB.out).below h)
          rwa [HN.out] at h)
        unfold RouteAns at HRA HRB
        have HLA := Lib.hid (show routeE l n = 0 → routeA l n = routeL l n ∧ routeL l n ≠ [] from fun h => ⟨by unfold routeA; rw [if_pos h], fun h2 => by rw [HF.out, if_pos h2] at h; cases h⟩)
        have HLB := Lib.hid (show routeE K n = 0 → routeA K n = routeL K n ∧ routeL K n ≠ [] from fun h => ⟨by unfold routeA; rw [if_pos h], fun h2 => by rw [HG.out, if_pos h2] at h; cases h⟩)
        have HA1 := Lib.hid (show routeE l n = 0 → hasI (routeA l n) r.node = false → routeE K n = 0 ∧ routeA K n = routeA l n from fun h h2 => by
          obtain ⟨e1, e2⟩ := HLA.out h
          rw [e1] at h2
          have hni : r.node ∉ routeL l n := fun hm => by rw [hasI_iff.2 hm] at h2; cases h2
          have hal := route_alike HOK.out HOK2.out HOT.out e2 hni
          have h0 : routeE K n = 0 := by rw [HG.out, hal, if_neg e2]
          exact ⟨h0, by rw [(HLB.out h0).1, e1, hal]⟩)
        have HA2 := Lib.hid (show routeE K n = 0 → hasI (routeA K n) r.node = false → routeE l n = 0 from fun h h2 => by
          obtain ⟨e1, e2⟩ := HLB.out h
          rw [e1] at h2
          have hni : r.node ∉ routeL K n := fun hm => by rw [hasI_iff.2 hm] at h2; cases h2
          have hal := route_alike HOK2.out HOK.out (fun x hx => (HOT.out x hx).symm) e2 hni
          rw [HF.out, hal, if_neg e2])
        have hF17 : routeE l n = 0 ∨ routeE l n = 17 := by rw [HF.out]; split <;> simp
        have hG17 : routeE K n = 0 ∨ routeE K n = 17 := by rw [HG.out]; split <;> simp
        obtain ⟨F, hF⟩ : ∃ F, routeE l n = F := ⟨_, rfl⟩
        obtain ⟨G, hG⟩ : ∃ G, routeE K n = G := ⟨_, rfl⟩
        obtain ⟨Ra, hRa⟩ : ∃ Ra, routeA l n = Ra := ⟨_, rfl⟩
        obtain ⟨Rb, hRb⟩ : ∃ Rb, routeA K n = Rb := ⟨_, rfl⟩
        obtain ⟨Na, hNa⟩ : ∃ Na, Ra.length = Na := ⟨_, rfl⟩
        obtain ⟨Nb, hNb⟩ : ∃ Nb, Rb.length = Nb := ⟨_, rfl⟩
        rw [hF, hRa] at HRA HA1
        rw [hG, hRb] at HRB HA2
        rw [hG, hRb] at HA1
        rw [hF] at HA2 hF17
        rw [hG] at hG17
        rw [hNa] at HRA
        rw [hNb] at HRB
        have HNa := Lib.hid hNa
        have HNb := Lib.hid hNb
        obtain ⟨pa, hpa⟩ : ∃ pa, hasI Ra r.node = pa := ⟨_, rfl⟩
        obtain ⟨pb, hpb⟩ : ∃ pb, hasI Rb r.node = pb := ⟨_, rfl⟩
        rw [hpa] at HA1
        rw [hpb] at HA2
        have HPA := Lib.hid hpa
        have HPB := Lib.hid hpb
        clear HF HG HLA HLB hnb hF hG hRa hRb hNa hNb hpa hpb
        have HCA := Lib.hid (show ∀ (A4 : Option Addr) (c4 : Nat) (W : World), RowAt intc 1 W A4 Ra → Calls Try.prog 63 #[.slice A4 Na c4, .int .i64 r.node] W fun e w' => e = .returned (.bool pa) ∧ W = w' from fun A4 c4 W h => by
          have h := containsI_any A4 c4 Ra r.node W h
          rwa [HPA.out, HNa.out] at h)
        have HCB := Lib.hid (show ∀ (A4 : Option Addr) (c4 : Nat) (W : World), RowAt intc 1 W A4 Rb → Calls Try.prog 63 #[.slice A4 Nb c4, .int .i64 r.node] W fun e w' => e = .returned (.bool pb) ∧ W = w' from fun A4 c4 W h => by
          have h := containsI_any A4 c4 Rb r.node W h
          rwa [HPB.out, HNb.out] at h)
        set_option maxRecDepth 100000 in go_wp2_with fail
        refine HRA.out.mono ?_
        rintro e w4 ⟨⟨A4, c4, rfl, hI4⟩, hb4⟩
        have HW4 := Lib.hid hb4
        have HI4 := Lib.hid hI4.at_.row
        clear hb4 hI4
        set_option maxRecDepth 100000 in go_wp2_with fail
        refine (HRB.out _ HW4.out).mono ?_
        rintro e w5 ⟨⟨A5, c5, rfl, hI5⟩, hb5⟩
        have HI5 := Lib.hid (HI4.out.below hb5)
        have HJ5 := Lib.hid hI5.at_.row
        have HB5 := Lib.hid (HB.out.trans ((HW4.out.trans (hb5.mono HW4.out.size)).mono HB.out.size))
        have HQ5 := Lib.hid (blk_below (blk_below HQR.out HW4.out (blk_lt HQR.out)) hb5 (by have := blk_lt HQR.out; have := HW4.out.size; omega))
        clear hb5 hI5
        obtain ⟨q0, q1, q2⟩ := box3 HQ5.out
        have HCA5 := Lib.hid (HCA.out A4 c4 w5 HI5.out)
        have HCB5 := Lib.hid (HCB.out A5 c5 w5 HJ5.out)
        clear HCA
        rcases hF17 with rfl | rfl
        · have f0 : ((0 : Int) == 0) = true := rfl
          have f1 : ((0 : Int) != 0) = false := rfl
          cases pa
          · obtain ⟨rfl, rfl⟩ := HA1.out rfl rfl
            obtain rfl : pb = false := by rw [← HPB.out, HPA.out]
            have HEQ := Lib.hid (show Calls Try.prog 64 #[.slice A4 Na c4, .slice A5 Nb c5] w5 fun e w' => e = .returned (.bool true) ∧ Below w5.heap.size w5 w' by
              have h := equalI_any A4 Na c4 Rb A5 Nb c5 Rb w5 HNa.out.symm HNb.out.symm HI5.out HJ5.out
              rwa [show eqI Rb Rb = true from by unfold eqI; exact decide_eq_true rfl] at h)
            clear HCB5
            set_option maxRecDepth 100000 in go_wp2_with (first | (go_at_call 63; (with_reducible refine HCA5.out.mono ?_); rintro e w' ⟨rfl, rfl⟩; clear HCA5) | (go_at_call 64; (with_reducible refine HEQ.out.mono ?_); rintro e w6 ⟨rfl, hb6⟩; (have HB6 := Lib.hid (HB5.out.trans (hb6.mono HB5.out.size))); (have HQ6 := Lib.hid (blk_below HQ5.out hb6 (blk_lt HQ5.out))); (have HCB6 := Lib.hid (HCB.out A5 c5 w6 (HJ5.out.below hb6))); clear hb6 q0 q1 q2; obtain ⟨q0, q1, q2⟩ := box3 HQ6.out) | (go_at_call 63; (with_reducible refine HCB6.out.mono ?_); rintro e w' ⟨rfl, rfl⟩))
            go_roundw
            case rel => exact ⟨n + 1, by simp, by omega, HB6⟩
            case measure => simp [intOf]; omega
          · rcases hG17 with rfl | rfl
            · cases pb
              all_goals
                set_option maxRecDepth 100000 in go_wp2_with (first | (go_at_call 63; (with_reducible refine HCA5.out.mono ?_); rintro e w' ⟨rfl, rfl⟩; clear HCA5) | (go_at_call 63; (with_reducible refine HCB5.out.mono ?_); rintro e w' ⟨rfl, rfl⟩))
                go_roundw
                case rel => exact ⟨n + 1, by simp, by omega, HB5⟩
                case measure => simp [intOf]; omega
            · have g0 : ((17 : Int) == 0) = false := rfl
              have g1 : ((17 : Int) != 0) = true := rfl
              set_option maxRecDepth 100000 in go_wp2_with (first | (go_at_call 63; (with_reducible refine HCA5.out.mono ?_); rintro e w' ⟨rfl, rfl⟩; clear HCA5) | (go_at_call 63; (with_reducible refine HCB5.out.mono ?_); rintro e w' ⟨rfl, rfl⟩))
              go_roundw
              case rel => exact ⟨n + 1, by simp, by omega, HB5⟩
              case measure => simp [intOf]; omega
        · have f0 : ((17 : Int) == 0) = false := rfl
          have f1 : ((17 : Int) != 0) = true := rfl
          rcases hG17 with rfl | rfl
          · have g0 : ((0 : Int) == 0) = true := rfl
            have g1 : ((0 : Int) != 0) = false := rfl
            obtain rfl : pb = true := by
              cases pb
              · have := HA2.out rfl rfl; cases this
              · rfl
            set_option maxRecDepth 100000 in go_wp2_with (go_at_call 63; (with_reducible refine HCB5.out.mono ?_); rintro e w' ⟨rfl, rfl⟩)
            go_roundw
            case rel => exact ⟨n + 1, by simp, by omega, HB5⟩
            case measure => simp [intOf]; omega
          · set_option maxRecDepth 100000 in go_wp2
            go_roundw
            case rel => exact ⟨n + 1, by simp, by omega, HB5⟩
            case measure => simp [intOf]; omega
      · have bi : decide ((n : Int) < 32) = false := decide_eq_false (by omega)
        set_option maxRecDepth 100000 in go_wp2
        go_ret
        exact ⟨rfl, HB3.out.trans (HB.out.mono HB3.out.size)⟩
end Go.Proofs.Ytckanomabhbkaaa
