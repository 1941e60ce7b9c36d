/- The reference's Serve, walked. -/
import Derived.Test.YtckanomabhbkaaaYG
import Derived.Deep.RegionHeld3
import Derived.Deep.DeepCutAuto
namespace Go.Proofs.Ytckanomabhbkaaa
open Go.RowKit Go.Shelf
set_option linter.unusedVariables false
theorem firstI_ok {L : Int} {l : List Pk} (h : chk L l = 0) (d : Int) : firstI L l d = fidx (top d) l := by unfold firstI; rw [if_neg (by rw [h]; simp)]
theorem apart_fresh {l : List Pk} {A A9 : Option Addr} {B : Nat} (hF : Fresh B A) (hlt : ∀ b, ob A9 = some b → b < B) : Apart l A A9 := fun _ a ha e => by
  have := hF a ha
  have := hlt _ e
  omega
set_option maxHeartbeats 6400000 in
theorem refServe_good (L : Int) (A : Option Addr) (c : Nat) (l : List Pk) (fr : Int) (As : Option Addr) (cs : Nat) (sv : List Int) (w : World) (hr : PkAt w A c l) (hv : RowAt intc 1 w As sv) (h1 : chk L l = 0) (h2 : ¬ (fr < 0 ∨ 1099511627776 < fr)) (h3 : ¬ 4096 < sv.length) :
    Calls Try.prog 31 #[.agg #[.int .i64 L, .slice A l.length c], .int .i64 fr, .slice As sv.length cs] w fun e w' => ServeAns w' e L l fr sv ∧ Below w.heap.size w w' := by
  have HR := Lib.hid hr
  have HV := Lib.hid hv
  have HE := Lib.hid (show serveE L l fr sv = 0 by unfold serveE; rw [if_neg (by rw [h1]; simp), if_neg h2, if_neg h3])
  have hck := chk_ok h1
  have b1 : (chk L l != 0) = false := by simp [h1]
  have b2 : decide (fr < 0) = false := by simp; omega
  have b3 : decide (1099511627776 < fr) = false := by simp; omega
  have b4 : decide ((4096 : Int) < (sv.length : Int)) = false := by simp; omega
  have b4' : decide (4096 < sv.length) = false := by simp; omega
  have hu24 := Try.underlying24
  have hu30 := Try.underlying30
  have HW := Lib.hid (srvW_below w L A c l)
  have HL := Lib.hid (show l.length ≤ 64 ∧ sv.length ≤ 4096 ∧ 0 ≤ fr ∧ fr ≤ 1099511627776 by omega)
  have hsl : sv.length ≤ 9223372036854775807 := by omega
  have HC := Lib.hid h1
  clear hr h1 h2 h3 hv hck
  go_enter Try.func31, Try.ntmps31
  go_wp2_with fail
  refine (refCheck_any L A c l _ (HR.out.row.below HW.out)).mono ?_
  rintro e w1 ⟨rfl, hb1⟩
  have HB1 := Lib.hid (show Below (w.heap.size + 2) (srvW w L A c l) w1 from by have h := hb1; rw [srvW_size] at h; exact h)
  obtain ⟨⟨q0, q1⟩, r0, r1, f0, f1⟩ := srv_cells (srvW_blocks HB1.out)
  clear hb1
  set_option maxRecDepth 100000 in go_wp2
  have HI0 : Hid (SrI w L A c l none 0 [] w1) := ⟨HW.out.trans (HB1.out.mono (by omega)), (srvW_blocks HB1.out).1, (srvW_blocks HB1.out).2, HR.out.below (HW.out.trans (HB1.out.mono (by omega))), fun _ a _ e => by simp [ob] at e, fun hl a ha => by subst ha; have := row_lt HR.out.row hl; omega, Own.nil _ _ _⟩
  clear q0 q1 r0 r1 f0 f1 HB1
  go_loopw [9, 10] (fun u v wr => ∃ (k : Nat) (A5 : Option Addr) (c5 : Nat) (A9 : Option Addr) (c9 : Nat), v = .int .i64 k ∧ k ≤ sv.length ∧ u = .slice A9 (srv fr sv l k).2.length c9 ∧ Hid (SrI w L A5 c5 (srv fr sv l k).1 A9 c9 (srv fr sv l k).2 wr)) (fun u v _ => (sv.length - (intOf v)).toNat)
  case atStart => exact ⟨0, A, c, none, 0, rfl, by omega, rfl, HI0.out⟩
  case round =>
    obtain ⟨k, A5, c5, A9, c9, rfl, hk, rfl, HI⟩ := hrel
    obtain ⟨wo, rfl⟩ : ∃ wo : World, wo = wr := ⟨_, rfl⟩
    have HIL := Lib.hid (srv_len fr sv l k)
    have HCK := Lib.hid (srv_chk HC.out fr sv k)
    obtain ⟨x, hx⟩ : ∃ x, srv fr sv l k = x := ⟨_, rfl⟩
    have HX := Lib.hid (show srv fr sv l (k + 1) = srvStep (fr + k) (sv.getD k 0) x by rw [srv, hx])
    rw [hx] at HI HIL HCK ⊢
    have q0 : wo.cell? ⟨w.heap.size, 0, none⟩ = some (.int .i64 L) := blk_cell HI.out.bq 0
    have q1 : wo.cell? ⟨w.heap.size, 1, none⟩ = some (.slice A5 x.1.length c5) := blk_cell HI.out.bq 1
    by_cases hlt : k < sv.length
    case neg =>
      have hbk : decide ((k : Int) < sv.length) = false := by simp; omega
      obtain rfl : k = sv.length := by omega
      obtain ⟨r0, r1, f0, f1⟩ := cells24z HI.out.br
      go_wp2
      refine bodyPost_ret (v := .tuple #[.agg #[.int .i64 L, .slice A5 x.1.length c5], .slice A9 x.2.length c9, .int .i64 0]) (by simp [results, Try.results31, go_sem, r0, r1]) rfl ⟨?_, ?_⟩
      · refine ServeAns.good HE.out (by rw [hx]) (by rw [hx]) (HI.out.row.keep fun hl a ha => ?_) (((HI.out.own.setCell (HI.out.own.ne HI.out.br (by decide)) _).setCell (HI.out.own.ne HI.out.br (by decide)) _).slAt Dp.cells_len)
        rw [Below.heap_setCell _ _ _ _ (HI.out.far hl a ha).2, Below.heap_setCell _ _ _ _ (HI.out.far hl a ha).2]
      · exact ((HI.out.bel).setCell (by simp) _).setCell (by simp) _
    have hbk : decide ((k : Int) < sv.length) = true := by simp; omega
    have hfr0 : 0 ≤ fr := HL.out.2.2.1
    have hfr1 : fr ≤ 1099511627776 := HL.out.2.2.2
    have hk4 : (k : Int) < 4096 := by have := HL.out; omega
    obtain ⟨rest, hrest⟩ : ∃ rest, kept (staleP (fr + k)) x.1 = rest := ⟨_, rfl⟩
    obtain ⟨gone, hgone⟩ : ∃ gone, kept (freshP (fr + k)) x.1 = gone := ⟨_, rfl⟩
    have HCR := Lib.hid (show chk L rest = 0 by rw [← hrest]; exact kept_chk HCK.out _)
    have HEQ := Lib.hid (show expQ L x.1 (fr + k) = rest by unfold expQ; rw [if_pos HCK.out, hrest])
    have HEG := Lib.hid (show expG L x.1 (fr + k) = gone by unfold expG; rw [if_pos HCK.out, hgone])
    have HDG := Lib.hid (show deps (fr + k) x.1 = dps (fr + k) gone by rw [dps_gone, hgone])
    have HLN := Lib.hid (show gone.length + x.2.length + rest.length ≤ 64 by
      have h1 := kept_deps (fr + k) x.1
      rw [dps_gone, dps_len, hgone, hrest] at h1
      have := HIL.out
      have := HL.out
      omega)
    have HRE := Lib.hid hrest
    clear hrest hgone
    set_option maxRecDepth 100000 in go_wp2_with fail
    refine (refExpire_any L A5 c5 x.1 (fr + k) _ HI.out.row).mono ?_
    rintro e w2 ⟨⟨A3, c3, A4, c4, rfl, hP3, hP4, hF3, hF4⟩, hb2⟩
    have HF3 := Lib.hid (hF3 HCK.out)
    have HF4 := Lib.hid hF4
    have HB2 := Lib.hid hb2
    rw [HEQ.out] at hP3
    rw [HEG.out] at hP4
    rw [HEQ.out, HEG.out]
    have HP3 := Lib.hid hP3
    have HP4 := Lib.hid hP4
    clear hP3 hP4 hF3 hF4 hb2 q0 q1
    set_option maxRecDepth 100000 in go_wp2_with fail
    have HJ0 : Hid (SrJ w L A5 x.1.length c5 w2.heap.size A3 c3 rest A4 c4 gone A9 c9 (x.2 ++ dps (fr + k) (gone.take 0)) (w2.alloc (.cells #[.int .i64 L, .slice A3 rest.length c3] 24))) := by
      have e0 : x.2 ++ dps (fr + k) (gone.take 0) = x.2 := by simp [dps]
      have hlt9 : ∀ b, ob A9 = some b → b < wo.heap.size := fun b hb => (HI.out.own.lt (b := b) (by rw [ob_eq]; exact hb)).2
      rw [e0]
      exact ⟨(HI.out.bel.trans (HB2.out.mono HI.out.bel.size)).alloc (Nat.le_trans HI.out.bel.size HB2.out.size) _, blk_old (blk_below HI.out.bq HB2.out (blk_lt HI.out.bq)) _, blk_old (blk_below HI.out.br HB2.out (blk_lt HI.out.br)) _, blk_new w2 _ rfl, HP3.out.below ((Below.refl _ _).alloc (Nat.le_refl _) _), HP4.out.below ((Below.refl _ _).alloc (Nat.le_refl _) _), apart_fresh HF3.out hlt9, apart_fresh HF4.out hlt9, (HI.out.own.below HB2.out (Nat.le_refl _)).alloc _⟩
    have HXF := Lib.hid (show Fresh (w.heap.size + 2) A3 from fun a ha => Nat.le_trans (by have := blk_lt HI.out.br; omega) (HF3.out a ha))
    obtain ⟨X, hXX⟩ : ∃ X, w2.heap.size = X := ⟨_, rfl⟩
    rw [hXX] at HJ0 ⊢
    clear hXX HP3 HP4 HF3 HF4 HB2
    go_loopw [9, 13] (fun u v wr => ∃ (j : Nat) (A8 : Option Addr) (c8 : Nat), v = .int .i64 j ∧ j ≤ gone.length ∧ u = .slice A8 (x.2 ++ dps (fr + k) (gone.take j)).length c8 ∧ Hid (SrJ w L A5 x.1.length c5 X A3 c3 rest A4 c4 gone A8 c8 (x.2 ++ dps (fr + k) (gone.take j)) wr)) (fun u v _ => (gone.length - (intOf v)).toNat)
    case atStart => exact ⟨0, A9, c9, rfl, by omega, by simp [dps], HJ0.out⟩
    case round =>
      obtain ⟨j, A8, c8, rfl, hj, rfl, HJ⟩ := hrel
      obtain ⟨o, ho⟩ : ∃ o, x.2 ++ dps (fr + k) (gone.take j) = o := ⟨_, rfl⟩
      rw [ho] at HJ ⊢
      have HO := Lib.hid ho
      clear ho
      have hg64 : gone.length ≤ 64 := by have := HLN.out; omega
      by_cases hjl : j < gone.length
      · have HOL := Lib.hid (show (o.length + 1) * 24 ≤ 140737488355328 by
          have h1 := congrArg List.length HO.out
          rw [List.length_append, dps_len, List.length_take] at h1
          have := HLN.out
          omega)
        have bj : decide ((j : Int) < gone.length) = true := by simp; omega
        obtain ⟨ad4, e4, p0, _⟩ := HJ.out.row4.row.pk j (by omega) (by omega)
        subst e4
        rw [Int.toNat_natCast] at p0
        have l3 : (ad4.add (j * 6)).block < wr.heap.size := cell_lt p0
        have n3 : ¬ (ad4.add (j * 6)).block = wr.heap.size := by omega
        have g1 : (0 : Int) ≤ j := by omega
        have g2 : (j : Int) < gone.length := by omega
        have HN := Lib.hid (show x.2 ++ dps (fr + k) (gone.take (j + 1)) = o ++ [⟨(gp gone j).id, fr + k, true⟩] by rw [dps_next hjl, ← List.append_assoc, HO.out])
        have HWS := Lib.hid (show w.heap.size + 2 ≤ wr.heap.size by have := blk_lt HJ.out.br; omega)
        set_option maxRecDepth 100000 in go_wp2_with (at_builtin; refine Own.append Dp.cells_len Dp.cells_one rfl _ _ 41 46 _ 24 rfl Try.underlying41 info46 rfl (by decide) (by decide) (.slice A8 o.length c8) o rfl (base := w.heap.size + 2) (HJ.out.own.alloc _) ⟨wr.heap.size, 0, none⟩ [⟨(gp gone j).id, fr + k, true⟩] 1 rfl (RowAt.new _ _ _ _ rfl) (by have := HWS.out; simp; omega) (by have := HOL.out; simp only [List.length_cons, List.length_nil]; omega) ?_; intro v1 w5 hO5 hg5 hat5; (have hfm := hO5.form); obtain ⟨A7, c7, rfl, _, _⟩ := hfm; (have HJ5 := Lib.hid (HJ.out.app ((Below.refl _ _).alloc (Nat.le_refl _) _) hO5 hg5 hat5)); clear hO5 hg5 hat5)
        go_roundw
        case rel => exact ⟨j + 1, A7, c7, by simp, by omega, by rw [HN.out]; simp, by rw [HN.out]; exact HJ5.out⟩
        case measure => simp [intOf]; omega
      · have bj : decide ((j : Int) < gone.length) = false := by simp; omega
        obtain rfl : j = gone.length := by omega
        have y0 : wr.cell? ⟨X, 0, none⟩ = some (.int .i64 L) := blk_cell HJ.out.bx 0
        have y1 : wr.cell? ⟨X, 1, none⟩ = some (.slice A3 rest.length c3) := blk_cell HJ.out.bx 1
        have q0 : wr.cell? ⟨w.heap.size, 0, none⟩ = some (.int .i64 L) := blk_cell HJ.out.bq 0
        have q1 : wr.cell? ⟨w.heap.size, 1, none⟩ = some (.slice A5 x.1.length c5) := blk_cell HJ.out.bq 1
        have qf0 : wr.frozen? ⟨w.heap.size, 0, none⟩ = false := blk_free HJ.out.bq 0
        have qf1 : wr.frozen? ⟨w.heap.size, 1, none⟩ = false := blk_free HJ.out.bq 1
        set_option maxRecDepth 100000 in go_wp2_with fail
        have HOF := Lib.hid (show x.2 ++ deps (fr + k) x.1 = o by rw [HDG.out, ← HO.out, List.take_length])
        have HI5 : Hid (SrI w L A3 c3 rest A8 c8 o ((wr.setCell ⟨w.heap.size, 0, none⟩ (.int .i64 L)).setCell ⟨w.heap.size, 1, none⟩ (.slice A3 rest.length c3))) := SrI.set HJ.out.bel HJ.out.bq HJ.out.br HJ.out.row3 HJ.out.ap3 HXF.out HJ.out.own rfl
        obtain ⟨w3, hw3⟩ : ∃ w3, (wr.setCell ⟨w.heap.size, 0, none⟩ (.int .i64 L)).setCell ⟨w.heap.size, 1, none⟩ (.slice A3 rest.length c3) = w3 := ⟨_, rfl⟩
        rw [hw3] at HI5 ⊢
        clear hw3 y0 y1 q0 q1 qf0 qf1 HJ HO hj hjl bj
        obtain ⟨adv, rfl, v0⟩ := (HV.out.below HI5.out.bel).int k hlt
        obtain ⟨d, hd⟩ : ∃ d, sv.getD k 0 = d := ⟨_, rfl⟩
        rw [hd] at HX v0
        clear hd
        have HS0 : Hid ((fun w' : World => w'.cell? ⟨w.heap.size, 0, none⟩ = some (.int .i64 L) ∧ w'.cell? ⟨w.heap.size, 1, none⟩ = some (.slice A3 rest.length c3) ∧ w'.cell? (adv.add k) = some (.int .i64 d)) w3.drew) := ⟨blk_cell HI5.out.bq 0, blk_cell HI5.out.bq 1, v0⟩
        have g1 : (0 : Int) ≤ k := by omega
        have m1 : ¬ w3.heap.size = w.heap.size := by have := blk_lt HI5.out.bq; omega
        have m2 : ¬ w3.heap.size = (adv.add k).block := by have := cell_lt v0; omega
        have g2 : (k : Int) < sv.length := by omega
        clear v0
        obtain ⟨P, hP⟩ : ∃ P, firstP L rest d = P := ⟨_, rfl⟩
        obtain ⟨b, hb⟩ : ∃ b, firstB L rest d = b := ⟨_, rfl⟩
        have HP := Lib.hid hP
        have HBf := Lib.hid hb
        clear hP hb
        have HZ0 : Hid ((w3.alloc (.cells #[.int .i64 0, .int .i64 0, .int .i64 0, .int .i64 0, .int .i64 0, .string ⟨#[]⟩] 30)).drew.heap[w3.heap.size]? = some (.cells #[.int .i64 0, .int .i64 0, .int .i64 0, .int .i64 0, .int .i64 0, .string ⟨#[]⟩] 30 (0, 0))) := blk_new w3 _ rfl
        have HZ1 : Hid (w3.heap.size < (w3.alloc (.cells #[.int .i64 0, .int .i64 0, .int .i64 0, .int .i64 0, .int .i64 0, .string ⟨#[]⟩] 30)).drew.heap.size) := by show w3.heap.size < (w3.alloc _).heap.size; simp
        have HS1 : Hid ((fun w' : World => w'.cell? ⟨w.heap.size, 0, none⟩ = some (.int .i64 L) ∧ w'.cell? ⟨w.heap.size, 1, none⟩ = some (.slice A3 rest.length c3) ∧ w'.cell? (adv.add k) = some (.int .i64 d)) (w3.alloc (.cells #[.int .i64 0, .int .i64 0, .int .i64 0, .int .i64 0, .int .i64 0, .string ⟨#[]⟩] 30)).drew) := ⟨cell_below (blw_drewN ((Below.refl _ w3).alloc (Nat.le_refl _) _) 1) HS0.out.1, cell_below (blw_drewN ((Below.refl _ w3).alloc (Nat.le_refl _) _) 1) HS0.out.2.1, cell_below (blw_drewN ((Below.refl _ w3).alloc (Nat.le_refl _) _) 1) HS0.out.2.2⟩
        set_option maxRecDepth 100000 in
        go_cut [14, 15] (fun s14 s15 wx => ∃ Y : Nat, s14 = .pointer (some ⟨Y, 0, none⟩) ∧ s15 = .bool b ∧ Hid (wx.heap[Y]? = some (.cells #[.int .i64 P.id, .int .i64 P.dst, .int .i64 P.pr, .int .i64 P.born, .int .i64 P.life, .string P.data] 30 (0, 0))) ∧ Hid (SrI w L A3 c3 rest A8 c8 o wx))
        case first =>
          set_option maxRecDepth 100000 in
          go_region_held3 (fun w' => w'.cell? ⟨w.heap.size, 0, none⟩ = some (.int .i64 L) ∧ w'.cell? ⟨w.heap.size, 1, none⟩ = some (.slice A3 rest.length c3) ∧ w'.cell? (adv.add k) = some (.int .i64 d))
            (first | (with_reducible exact HS0.out) | (with_reducible exact ⟨q0, q1, v0⟩) | (with_reducible exact HS1.out) | (refine ⟨?_, ?_, ?_⟩ <;> simp only [World.cell?_setCell_far, ne_eq, m1, m2, not_false_eq_true, q0, q1, v0]) | (with_reducible exact ⟨cell_below ((Below.refl _ _).alloc (Nat.le_refl _) _) q0, cell_below ((Below.refl _ _).alloc (Nat.le_refl _) _) q1, cell_below ((Below.refl _ _).alloc (Nat.le_refl _) _) v0⟩) | fail)
            (first | (go_at_call 39; refine (refFirst_any L A3 c3 rest d _ ?_).mono ?_; (exact HI5.out.row.below (by first | (with_reducible exact (Below.refl _ w3).drew) | (with_reducible exact ((Below.refl _ w3).alloc (Nat.le_refl _) _).drew))); rintro e w4 ⟨rfl, hb4⟩; rw [HP.out, HBf.out]; unfold pkv; (have HB4 := Lib.hid (show Below w3.heap.size w3 w4 from (by first | (with_reducible exact (Below.refl _ w3).drew.trans (hb4.mono (by simp))) | (with_reducible exact ((Below.refl _ w3).alloc (Nat.le_refl _) _).drew.trans (hb4.mono (by simp)))))); (have q0 : w4.cell? ⟨w.heap.size, 0, none⟩ = some (.int .i64 L) := blk_cell (HI5.out.below HB4.out).bq 0); (have q1 : w4.cell? ⟨w.heap.size, 1, none⟩ = some (.slice A3 rest.length c3) := blk_cell (HI5.out.below HB4.out).bq 1); (have v0 : w4.cell? (adv.add k) = some (.int .i64 d) := cell_below HB4.out HS0.out.2.2); (try ((have hbx : w4.heap[w3.heap.size]? = some (.cells #[.int .i64 0, .int .i64 0, .int .i64 0, .int .i64 0, .int .i64 0, .string ⟨#[]⟩] 30 (0, 0)) := (by with_reducible exact blk_below HZ0.out hb4 HZ1.out)); (have HBX := Lib.hid hbx); obtain ⟨s0, s1, s2, s3, s4, s5⟩ := box6 hbx; obtain ⟨t0, t1, t2, t3, t4, t5⟩ := box6f hbx; clear hbx)); clear hb4))
          · go_wp2_with fail
            go_meet
            exact ⟨w4.heap.size, rfl, rfl, blk_new w4 _ rfl, HI5.out.below (HB4.out.alloc HB4.out.size _)⟩
          · go_wp2_with fail
            go_meet
            exact ⟨w3.heap.size, rfl, rfl, set1_at (set1_at (set1_at (set1_at (set1_at (set1_at HBX.out 0 _) 1 _) 2 _) 3 _) 4 _) 5 _, HI5.out.below ((((((HB4.out.setCell (Nat.le_refl _) _).setCell (Nat.le_refl _) _).setCell (Nat.le_refl _) _).setCell (Nat.le_refl _) _).setCell (Nat.le_refl _) _).setCell (Nat.le_refl _) _)⟩
        case rest =>
          obtain ⟨Y, rfl, rfl, HPB, HI6⟩ := hcut
          obtain ⟨z, hz⟩ : ∃ z, fidx (top d) rest = z := ⟨_, rfl⟩
          have HZ := Lib.hid hz
          have hzr : -1 ≤ z ∧ z < rest.length := by rw [← hz]; exact fidx_range _ _
          have HST := Lib.hid (srvStep_ref (fr + k) d x HCK.out)
          rw [HRE.out, hz, HOF.out] at HST
          clear hz
          by_cases hneg : z < 0
          · obtain rfl : b = false := by rw [← HBf.out]; unfold firstB; rw [firstI_ok HCR.out, HZ.out]; simp; omega
            go_wp2
            go_roundw
            case rel =>
              have hst : srvStep (fr + k) d x = (rest, o) := by rw [HST.out, if_pos hneg]
              exact ⟨k + 1, A3, c3, A8, c8, by simp, by omega, by rw [HX.out, hst], by rw [HX.out, hst]; exact HI6.out⟩
            case measure => simp [intOf]; omega
          · obtain ⟨i, rfl⟩ : ∃ i : Nat, z = i := ⟨z.toNat, by omega⟩
            obtain rfl : b = true := by rw [← HBf.out]; unfold firstB; rw [firstI_ok HCR.out, HZ.out]; simp
            obtain rfl : P = gp rest i := by rw [← HP.out]; unfold firstP; rw [firstI_ok HCR.out, HZ.out, if_neg (by omega)]
            have p0 : wc.cell? ⟨Y, 0, none⟩ = some (.int .i64 (gp rest i).id) := blk_cell HPB.out 0
            have q0 : wc.cell? ⟨w.heap.size, 0, none⟩ = some (.int .i64 L) := blk_cell HI6.out.bq 0
            have q1 : wc.cell? ⟨w.heap.size, 1, none⟩ = some (.slice A3 rest.length c3) := blk_cell HI6.out.bq 1
            go_wp2_with fail
            refine (without_any L A3 c3 rest (gp rest i).id _ HI6.out.row (by have := HLN.out; omega)).mono ?_
            rintro e w6 ⟨⟨v, rfl, A7, c7, rfl, hP7, hF7⟩, hb6⟩
            obtain ⟨m2, hm2⟩ : ∃ m2, kept (idp (gp rest i).id) rest = m2 := ⟨_, rfl⟩
            rw [hm2] at hP7 HST ⊢
            have HI7 := Lib.hid (HI6.out.below hb6)
            have HPB7 := Lib.hid (blk_below HPB.out hb6 (blk_lt HPB.out))
            have HP7 := Lib.hid hP7
            have HF7 := Lib.hid hF7
            have hF2 : Fresh (w.heap.size + 2) A7 := fun a ha => Nat.le_trans (by have := blk_lt HI6.out.br; omega) (hF7 a ha)
            have hA7 : Apart m2 A7 A8 := apart_fresh hF7 (fun b hb => (HI6.out.own.lt (b := b) (by rw [ob_eq]; exact hb)).2)
            have HI8 : Hid (SrI w L A7 c7 m2 A8 c8 o ((w6.setCell ⟨w.heap.size, 0, none⟩ (.int .i64 L)).setCell ⟨w.heap.size, 1, none⟩ (.slice A7 m2.length c7))) := SrI.set HI7.out.bel HI7.out.bq HI7.out.br hP7 hA7 hF2 HI7.out.own rfl
            have hYQ : Y ≠ w.heap.size := by
              intro e
              subst e
              have h1 := HPB7.out
              rw [HI7.out.bq] at h1
              cases h1
            have HPB8 : Hid (((w6.setCell ⟨w.heap.size, 0, none⟩ (.int .i64 L)).setCell ⟨w.heap.size, 1, none⟩ (.slice A7 m2.length c7)).heap[Y]? = some (.cells #[.int .i64 (gp rest i).id, .int .i64 (gp rest i).dst, .int .i64 (gp rest i).pr, .int .i64 (gp rest i).born, .int .i64 (gp rest i).life, .string (gp rest i).data] 30 (0, 0))) := by
              rw [Below.heap_setCell _ _ _ _ hYQ, Below.heap_setCell _ _ _ _ hYQ]
              exact HPB7.out
            clear hb6 hP7 hF7 hF2 hA7 hYQ p0 q0 q1
            have q0 : w6.cell? ⟨w.heap.size, 0, none⟩ = some (.int .i64 L) := blk_cell HI7.out.bq 0
            have q1 : w6.cell? ⟨w.heap.size, 1, none⟩ = some (.slice A3 rest.length c3) := blk_cell HI7.out.bq 1
            have qf0 : w6.frozen? ⟨w.heap.size, 0, none⟩ = false := blk_free HI7.out.bq 0
            have qf1 : w6.frozen? ⟨w.heap.size, 1, none⟩ = false := blk_free HI7.out.bq 1
            go_upto_region 20 with fail
            obtain ⟨w7, hw7⟩ : ∃ w7, (w6.setCell ⟨w.heap.size, 0, none⟩ (.int .i64 L)).setCell ⟨w.heap.size, 1, none⟩ (.slice A7 m2.length c7) = w7 := ⟨_, rfl⟩
            rw [hw7] at HI8 HPB8 ⊢
            clear hw7 q0 q1 qf0 qf1
            have p0 : w7.cell? ⟨Y, 0, none⟩ = some (.int .i64 (gp rest i).id) := blk_cell HPB8.out 0
            have l3 : Y < w7.heap.size := cell_lt p0
            have n3 : ¬ Y = w7.heap.size := by omega
            have HOL := Lib.hid (show (o.length + 1) * 24 ≤ 140737488355328 by
              have h1 := congrArg List.length HOF.out
              rw [List.length_append, HDG.out, dps_len] at h1
              have := HLN.out
              omega)
            have HWS := Lib.hid (show w.heap.size + 2 ≤ w7.heap.size by have := blk_lt HI8.out.br; omega)
            set_option maxRecDepth 100000 in go_wp2_with (at_builtin; refine Own.append Dp.cells_len Dp.cells_one rfl _ _ 41 46 _ 24 rfl Try.underlying41 info46 rfl (by decide) (by decide) (.slice A8 o.length c8) o rfl (base := w.heap.size + 2) (HI8.out.own.alloc _) ⟨w7.heap.size, 0, none⟩ [⟨(gp rest i).id, fr + k, false⟩] 1 rfl (RowAt.new _ _ _ _ rfl) (by have := HWS.out; simp; omega) (by have := HOL.out; simp only [List.length_cons, List.length_nil]; omega) ?_; intro v1 w5 hO5 hg5 hat5; (have hfm := hO5.form); obtain ⟨A10, c10, rfl, _, _⟩ := hfm; (have HJ5 := Lib.hid (HI8.out.app ((Below.refl _ _).alloc (Nat.le_refl _) _) hO5 hg5 hat5)); clear hO5 hg5 hat5)
            go_roundw
            case rel =>
              have hst : srvStep (fr + k) d x = (m2, o ++ [⟨(gp rest i).id, fr + k, false⟩]) := by rw [HST.out, if_neg (by omega)]
              exact ⟨k + 1, A7, c7, A10, c10, by simp, by omega, by rw [HX.out, hst]; simp, by rw [HX.out, hst]; exact HJ5.out⟩
            case measure => simp [intOf]; omega
theorem refServe_any (L : Int) (A : Option Addr) (c : Nat) (l : List Pk) (fr : Int) (As : Option Addr) (cs : Nat) (sv : List Int) (w : World) (hr : PkAt w A c l) (hv : RowAt intc 1 w As sv) :
    Calls Try.prog 31 #[.agg #[.int .i64 L, .slice A l.length c], .int .i64 fr, .slice As sv.length cs] w fun e w' => ServeAns w' e L l fr sv ∧ Below w.heap.size w w' := by
  by_cases h1 : chk L l = 0
  · by_cases h2 : fr < 0 ∨ 1099511627776 < fr
    · exact refServe_range L A c l fr As cs sv w hr h1 h2
    · by_cases h3 : 4096 < sv.length
      · exact refServe_large L A c l fr As cs sv w hr h1 h2 h3
      · exact refServe_good L A c l fr As cs sv w hr hv h1 h2 h3
  · exact refServe_arg L A c l fr As cs sv w hr h1
end Go.Proofs.Ytckanomabhbkaaa
