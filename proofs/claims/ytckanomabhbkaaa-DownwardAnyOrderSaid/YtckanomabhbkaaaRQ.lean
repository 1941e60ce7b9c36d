/- DownwardAnyOrder: walked. -/
import Derived.Test.YtckanomabhbkaaaRN
import Derived.Test.YtckanomabhbkaaaRO
import Derived.Test.YtckanomabhbkaaaRW
import Derived.Test.YtckanomabhbkaaaDF
namespace Go.Proofs.Ytckanomabhbkaaa
open Go.RowKit Go.Shelf
set_option linter.unusedVariables false
theorem RowAt.byi {w : World} {A : Option Addr} {l : List Int} (h : RowAt byi 1 w A l) (i : Nat) (h1 : i < l.length) : ∃ ad, A = some ad ∧ w.cell? (ad.add i) = some (.int .u8 (l.getD i 0)) := by
  obtain ⟨ad, e, hc⟩ := h.2 (by omega)
  refine ⟨ad, e, ?_⟩
  have := hc i _ (List.getElem?_eq_getElem h1) 0 _ rfl
  rwa [Nat.mul_one, Nat.add_zero, show l[i] = l.getD i 0 from by rw [List.getD_eq_getElem?_getD, List.getElem?_eq_getElem h1]; rfl] at this
theorem RowAt.pri {w : World} {A : Option Addr} {l : List (Int × Int)} (h : RowAt pri 2 w A l) (i : Nat) (h1 : i < l.length) : ∃ ad, A = some ad ∧ w.cell? (ad.add (i * 2)) = some (.int .u8 (l.getD i (0, 0)).1) ∧ w.cell? ⟨(ad.add (i * 2)).block, (ad.add (i * 2)).off + 1, none⟩ = some (.int .u8 (l.getD i (0, 0)).2) := by
  obtain ⟨ad, e, hc⟩ := h.2 (by omega)
  have hx : l[i]? = some (l.getD i (0, 0)) := by rw [List.getD_eq_getElem?_getD, List.getElem?_eq_getElem h1]; rfl
  exact ⟨ad, e, hc i _ hx 0 _ rfl, by rw [← add_field _ _ 1 (by omega)]; exact hc i _ hx 1 _ rfl⟩
theorem getD_mem' {α : Type} {l : List α} {i : Nat} {d : α} (h : i < l.length) : l.getD i d ∈ l := by
  rw [List.getD_eq_getElem?_getD, List.getElem?_eq_getElem h]; exact List.getElem_mem _
/-- The second row: its reports are those of the first. -/
structure Oth (own : List Rp) (W0 : World) (bound : Nat) (A : Option Addr) (c N : Nat) (M : List Rp) (W : World) : Prop where
  row : Own Rp.cells 3 W W0.heap.size 70 (.slice A N c) M
  len : N = M.length
  bnd : N ≤ bound
  mem : SameR own M
  bel : Below W0.heap.size W0 W
set_option maxHeartbeats 12800000 in
theorem downwardAnyOrder_any (A : Option Addr) (c : Nat) (l : List Rp) (As : Option Addr) (cs : Nat) (sw : List (Int × Int)) (Ag : Option Addr) (cg : Nat) (ag : List Int) (w : World) (hr : RpAt w A c l)
    (hsw : SlAt pri 2 w As cs sw ∧ ∀ p ∈ sw, (0 ≤ p.1 ∧ p.1 ≤ 255) ∧ 0 ≤ p.2 ∧ p.2 ≤ 255) (hag : SlAt byi 1 w Ag cg ag ∧ ∀ x ∈ ag, 0 ≤ x ∧ x ≤ 255) :
    Calls Try.prog 12 #[.slice A l.length c, .slice As sw.length cs, .slice Ag ag.length cg] w fun e w' => e = .returned (.bool true) ∧ Below w.heap.size w w' := by
  have HR := Lib.hid hr.row
  have HS := Lib.hid hsw.1.row
  have HG := Lib.hid hag.1.row
  have HSB := Lib.hid hsw.2
  have HGB := Lib.hid hag.2
  have HA := Lib.hid (awake24_any w)
  have hb := hr.row.1
  have hbs := hsw.1.row.1
  have hbg := hag.1.row.1
  clear hr hsw hag
  have hu70 := Try.underlying70
  by_cases hbad : 20 < l.length ∨ 20 < sw.length ∨ 20 < ag.length
  · have hor : (decide ((20 : Int) < l.length) = true ∧ decide (20 < l.length) = true) ∨ ((decide ((20 : Int) < l.length) = false ∧ decide (20 < l.length) = false) ∧ decide ((20 : Int) < sw.length) = true ∧ decide (20 < sw.length) = true) ∨ ((decide ((20 : Int) < l.length) = false ∧ decide (20 < l.length) = false) ∧ (decide ((20 : Int) < sw.length) = false ∧ decide (20 < sw.length) = false) ∧ decide ((20 : Int) < ag.length) = true ∧ decide (20 < ag.length) = true) := by
      by_cases h1 : 20 < l.length
      · left; exact ⟨decide_eq_true (by omega), decide_eq_true h1⟩
      · right
        by_cases h2 : 20 < sw.length
        · left; exact ⟨⟨decide_eq_false (by omega), decide_eq_false h1⟩, decide_eq_true (by omega), decide_eq_true h2⟩
        · right; exact ⟨⟨decide_eq_false (by omega), decide_eq_false h1⟩, ⟨decide_eq_false (by omega), decide_eq_false h2⟩, decide_eq_true (by omega), decide_eq_true (by omega)⟩
    clear hbad
    rcases hor with ⟨b1, b1'⟩ | ⟨⟨b1, b1'⟩, b2, b2'⟩ | ⟨⟨b1, b1'⟩, ⟨b2, b2'⟩, b3, b3'⟩
    all_goals
      set_option maxRecDepth 100000 in go_enter Try.func12, Try.ntmps12
      set_option maxRecDepth 100000 in go_wp2_with (go_at_call 44; refine HA.out.mono ?_; rintro e w1 ⟨rfl, hb1⟩; (have HB1 := Lib.hid hb1); clear hb1)
      go_ret
      exact ⟨rfl, HB1.out⟩
  simp only [not_or] at hbad
  obtain ⟨hl20, hs20, hg20⟩ := hbad
  have b1 : decide ((20 : Int) < l.length) = false := decide_eq_false (by omega)
  have b1' : decide (20 < l.length) = false := decide_eq_false hl20
  have b2 : decide ((20 : Int) < sw.length) = false := decide_eq_false (by omega)
  have b2' : decide (20 < sw.length) = false := decide_eq_false hs20
  have b3 : decide ((20 : Int) < ag.length) = false := decide_eq_false (by omega)
  have b3' : decide (20 < ag.length) = false := decide_eq_false hg20
  set_option maxRecDepth 100000 in go_enter Try.func12, Try.ntmps12
  set_option maxRecDepth 100000 in go_wp2_with (go_at_call 44; refine HA.out.mono ?_; rintro e w1 ⟨rfl, hb1⟩; (have HB1 := Lib.hid hb1); clear hb1)
  clear b1 b1' b2 b2' b3 b3'
  set_option maxRecDepth 100000 in go_loopw [38, 7] (fun u a7 wr => ∃ (i : Nat) (A7 : Option Addr) (c7 N : Nat), u = .int .i64 i ∧ a7 = .slice A7 N c7 ∧ i ≤ l.length ∧ N ≤ i ∧ Hid (N = (ownL (l.take i)).length) ∧ Hid (Own Rp.cells 3 wr w.heap.size 70 (.slice A7 N c7) (ownL (l.take i))) ∧ Hid (Below w.heap.size w wr)) (fun u _ _ => (l.length - (intOf u)).toNat)
  case atStart => exact ⟨0, none, 0, 0, rfl, rfl, by omega, by omega, Lib.hid (by rw [List.take_zero]; rfl), Lib.hid (by rw [List.take_zero]; exact Own.nil _ _ _), HB1⟩
  case round =>
    obtain ⟨i, A7, c7, N, rfl, rfl, hle, hNi, HN, HO, HB⟩ := hrel
    by_cases hlt : i < l.length
    · obtain ⟨ad, rfl, k0, k1, k2⟩ := (HR.out.below HB.out).rp i (by omega) (by omega)
      rw [Int.toNat_natCast] at k0 k1 k2
      have HNX := Lib.hid (own_next hlt)
      obtain ⟨r, hrr⟩ : ∃ r, gr l i = r := ⟨_, rfl⟩
      obtain ⟨T, hT⟩ : ∃ T, ownL (l.take i) = T := ⟨_, rfl⟩
      rw [hrr] at k0 k1 k2
      rw [hrr, hT] at HNX
      rw [hT] at HN HO
      have g1 : (0 : Int) ≤ i := by omega
      have g2 : (i : Int) < l.length := by omega
      have bi : decide ((i : Int) < l.length) = true := decide_eq_true (by omega)
      obtain ⟨wb, hwb⟩ : ∃ wb, wr.alloc (.cells #[.int .i64 r.node, .int .i64 r.parent, .int .i64 r.num] 70) = wb := ⟨_, rfl⟩
      have hBb : Below wr.heap.size wr wb := by rw [← hwb]; exact (Below.refl _ _).alloc (Nat.le_refl _) _
      have HQ := Lib.hid (show wb.heap[wr.heap.size]? = some (.cells #[.int .i64 r.node, .int .i64 r.parent, .int .i64 r.num] 70 (0, 0)) by rw [← hwb]; exact blk_new wr _ rfl)
      have HOb := Lib.hid (HO.out.below hBb (Nat.le_refl _))
      have HBb := Lib.hid (HB.out.trans (hBb.mono HB.out.size))
      have HC := Lib.hid (show Calls Try.prog 54 #[.slice A7 N c7, .func (.func 55) #[] #[.pointer (some ⟨wr.heap.size, 0, none⟩)]] wb fun e w' => e = .returned (.bool (T.any (sameKey r))) ∧ Below wb.heap.size wb w' by
        rw [HN.out]
        refine containsR_any (sameKey r) 55 _ A7 c7 T wb (Own.rpAt (show Own Rp.cells 3 wb w.heap.size 70 (.slice A7 T.length c7) T by rw [← HN.out]; exact HOb.out)).row (enters_of Try.func55 (by kernel_rfl) rfl) (fun W x hW => ?_)
        exact (pred55_any wr.heap.size r x W (blk_below HQ.out hW (blk_lt HQ.out))).mono fun e w' ⟨h1, h2⟩ => ⟨h1, hW.trans (h2.mono hW.size)⟩)
      obtain ⟨d, hd⟩ : ∃ d, T.any (sameKey r) = d := ⟨_, rfl⟩
      rw [hd] at HC HNX
      clear hrr hT hd hBb
      cases d
      · have HT2 := Lib.hid (show ownL (l.take (i + 1)) = T ++ [r] by rw [HNX.out, if_neg (by simp)])
        set_option maxRecDepth 100000 in go_wp2_with (first | (go_at_call 54; refine HC.out.mono ?_; rintro e w4 ⟨rfl, hb4⟩; (have HO4 := Lib.hid (HOb.out.below hb4 (Nat.le_refl _))); (have HB4 := Lib.hid (HBb.out.trans (hb4.mono HBb.out.size))); (have HQ4 := Lib.hid (blk_below HQ.out hb4 (blk_lt HQ.out))); clear hb4; obtain ⟨q0, q1, q2⟩ := box3 HQ4.out) | (at_builtin; refine Own.append Rp.cells_len Rp.cells_one rfl _ _ 68 70 _ 24 rfl Try.underlying68 info70 rfl (by decide) (by decide) (.slice A7 N c7) T rfl (base := w.heap.size) (HO4.out.alloc _) ⟨w4.heap.size, 0, none⟩ [r] 1 rfl (RowAt.new w4 r #[.int .i64 r.node, .int .i64 r.parent, .int .i64 r.num] 70 rfl) (by have := HB4.out.size; simp; omega) (by have := HN.out; simp; omega) ?_; intro v1 w6 hO6 hg6 _; obtain ⟨g6, c6, rfl, hN6⟩ := own_some (m := N + 1) hO6 (by have := HN.out; simp; omega); (have HO6 := Lib.hid hO6); (have HN6 := Lib.hid hN6); (have HB6 := Lib.hid ((HB4.out.alloc HB4.out.size _).grown hg6 (by have := HB4.out.size; simp; omega) (fun k e => (HO4.out.lt e).1))); clear hO6 hg6 hN6))
        go_roundw
        case rel => exact ⟨i + 1, some ⟨g6, 0, none⟩, c6, N + 1, by simp, rfl, by omega, by omega, Lib.hid (by rw [HT2.out]; exact HN6.out), Lib.hid (by rw [HT2.out]; exact HO6.out), HB6⟩
        case measure => simp [intOf]; omega
      · have HT2 := Lib.hid (show ownL (l.take (i + 1)) = T by rw [HNX.out, if_pos rfl])
        set_option maxRecDepth 100000 in go_wp2_with (go_at_call 54; refine HC.out.mono ?_; rintro e w4 ⟨rfl, hb4⟩; (have HO4 := Lib.hid (HOb.out.below hb4 (Nat.le_refl _))); (have HB4 := Lib.hid (HBb.out.trans (hb4.mono HBb.out.size))); clear hb4)
        go_roundw
        case rel => exact ⟨i + 1, A7, c7, N, by simp, rfl, by omega, by omega, Lib.hid (by rw [HT2.out]; exact HN.out), Lib.hid (by rw [HT2.out]; exact HO4.out), HB4⟩
        case measure => simp [intOf]; omega
    · have bi : decide ((i : Int) < l.length) = false := decide_eq_false (by omega)
      obtain rfl : i = l.length := by omega
      obtain ⟨wc, rfl⟩ : ∃ wc : World, wc = wr := ⟨_, rfl⟩
      rw [List.take_of_length_le (Nat.le_refl _)] at HN HO
      have hcp := own_cap HO.out
      have hNc := hcp.2.1
      have hcm := hcp.2.2
      have HOK := Lib.hid (own_uniq l)
      obtain ⟨T, hT⟩ : ∃ T, ownL l = T := ⟨_, rfl⟩
      rw [hT] at HN HO HOK
      have hOT : Own Rp.cells 3 wc w.heap.size 70 (.slice A7 T.length c7) T := by rw [← HN.out]; exact HO.out
      have HRT := Lib.hid hOT.rpAt
      have hA7 := hOT.rpAt.nil
      have HCL := Lib.hid (show Calls Try.prog 56 #[.slice A7 N c7] wc fun e w' => ∃ v, e = .returned v ∧ Own Rp.cells 3 w' wc.heap.size 70 v T ∧ Below wc.heap.size wc w' by
        rw [HN.out]; exact rclone_any A7 c7 T wc HRT.out.row (by rw [← HN.out]; omega) hA7)
      have HNT := Lib.hid (own_len l)
      unfold maxLen at hcm
      clear hcp hT hOT hA7
      set_option maxRecDepth 100000 in go_wp2_with (go_at_call 56; refine HCL.out.mono ?_; rintro e w2 ⟨v2, rfl, hO2, hb2⟩; obtain ⟨A2, c2, rfl, hle2, hcm2⟩ := hO2.form; (have HOT0 := Lib.hid (show Oth T wc (20 + 20) A2 c2 T.length T w2 from ⟨hO2, rfl, by rw [← HN.out]; omega, fun x => Iff.rfl, hb2⟩)); clear hO2 hb2 hle2 hcm2)
      set_option maxRecDepth 100000 in go_loopw [55, 10] (fun u a10 wq => ∃ (i : Nat) (A3 : Option Addr) (c3 N3 : Nat) (M : List Rp), u = .int .i64 i ∧ a10 = .slice A3 N3 c3 ∧ i ≤ ag.length ∧ N3 ≤ N + i ∧ Hid (Oth T wc 40 A3 c3 N3 M wq)) (fun u _ _ => (ag.length - (intOf u)).toNat)
      case atStart => exact ⟨0, A2, c2, N, T, rfl, by rw [HN.out], by omega, by omega, by rw [HN.out]; exact HOT0⟩
      case round =>
        obtain ⟨i, A3, c3, N3, M, rfl, rfl, hig, hN3, HM⟩ := hrel
        have HBW := Lib.hid (HB.out.trans (HM.out.bel.mono HB.out.size))
        by_cases hlt : i < ag.length
        · obtain ⟨adg, rfl, k0⟩ := (HG.out.below HBW.out).byi i hlt
          have hxb := HGB.out _ (getD_mem' (d := 0) hlt)
          obtain ⟨x, hx⟩ : ∃ x : Nat, ag.getD i 0 = x := ⟨(ag.getD i 0).toNat, by omega⟩
          rw [hx] at k0 hxb
          have hx0 : (0 : Int) ≤ x := by omega
          have hx1 : (x : Int) ≤ 255 := by omega
          have g1 : (0 : Int) ≤ i := by omega
          have g2 : (i : Int) < ag.length := by omega
          have bi : decide ((i : Int) < ag.length) = true := decide_eq_true (by omega)
          clear hx hxb
          by_cases hN0 : N = 0
          · have b0 : decide ((0 : Int) < N) = false := decide_eq_false (by omega)
            have b0' : decide (0 < N) = false := decide_eq_false (by omega)
            have HN0 := Lib.hid hN0
            clear hN0
            set_option maxRecDepth 100000 in go_wp2
            go_roundw
            case rel => exact ⟨i + 1, A3, c3, N3, M, by simp, rfl, by omega, by omega, HM⟩
            case measure => simp [intOf]; omega
          · have b0 : decide ((0 : Int) < N) = true := decide_eq_true (by omega)
            have b0' : decide (0 < N) = true := decide_eq_true (by omega)
            obtain ⟨m, hm⟩ : ∃ m, m = x % N := ⟨_, rfl⟩
            have hmN : m < N := by rw [hm]; exact Nat.mod_lt _ (by omega)
            have hmod : (x : Int) % (N : Int) = (m : Int) := by rw [hm]; rfl
            have n0 : (0 : Int) < N := by omega
            have n1 : ((N : Int) == 0) = false := beq_eq_false_iff_ne.2 (by omega)
            have m0 : (0 : Int) ≤ m := by omega
            have m1 : (m : Int) < N := by omega
            have hmT : m < T.length := by have := HN.out; omega
            obtain ⟨adT, rfl, t0, t1, t2⟩ := (HRT.out.row.below HM.out.bel).rp m (by omega) (by omega)
            rw [Int.toNat_natCast] at t0 t1 t2
            obtain ⟨y, hy⟩ : ∃ y, gr T m = y := ⟨_, rfl⟩
            rw [hy] at t0 t1 t2
            have HYT := Lib.hid (show y ∈ T by rw [← hy, gr_elem hmT]; exact List.getElem_mem _)
            clear hm hy hN0 hmT
            set_option maxRecDepth 100000 in go_wp2_with (at_builtin; refine Own.append Rp.cells_len Rp.cells_one rfl _ _ 68 70 _ 24 rfl Try.underlying68 info70 rfl (by decide) (by decide) (.slice A3 N3 c3) M rfl (base := wc.heap.size) (HM.out.row.alloc _) ⟨wr.heap.size, 0, none⟩ [y] 1 rfl (RowAt.new wr y #[.int .i64 y.node, .int .i64 y.parent, .int .i64 y.num] 70 rfl) (by have := HM.out.bel.size; simp; omega) (by have := HM.out.len; simp; omega) ?_; intro v1 w6 hO6 hg6 _; obtain ⟨g6, c6, rfl, hN6⟩ := own_some (m := N3 + 1) hO6 (by have := HM.out.len; simp; omega); (have HM6 := Lib.hid (show Oth T wc 40 (some ⟨g6, 0, none⟩) c6 (N3 + 1) (M ++ [y]) w6 from ⟨hO6, hN6, by omega, HM.out.mem.again HYT.out, (HM.out.bel.alloc HM.out.bel.size _).grown hg6 (by have := HM.out.bel.size; simp; omega) (fun k e => (HM.out.row.lt e).1)⟩)); clear hO6 hg6 hN6)
            go_roundw
            case rel => exact ⟨i + 1, some ⟨g6, 0, none⟩, c6, N3 + 1, M ++ [y], by simp, rfl, by omega, by omega, HM6⟩
            case measure => simp [intOf]; omega
        · have bi : decide ((i : Int) < ag.length) = false := decide_eq_false (by omega)
          have hN40 : N3 ≤ 40 := by omega
          clear bi
          have bi : decide ((i : Int) < ag.length) = false := decide_eq_false (by omega)
          set_option maxRecDepth 100000 in go_wp2
          set_option maxRecDepth 100000 in go_loopw [76] (fun u wr => ∃ (i : Nat) (M : List Rp), u = .int .i64 i ∧ i ≤ sw.length ∧ Hid (Oth T wc 40 A3 c3 N3 M wr)) (fun u _ => (sw.length - (intOf u)).toNat)
          case atStart => exact ⟨0, M, rfl, by omega, HM⟩
          case round =>
            obtain ⟨i, M, rfl, his, HM⟩ := hrel
            have HBW := Lib.hid (HB.out.trans (HM.out.bel.mono HB.out.size))
            by_cases hlt : i < sw.length
            · obtain ⟨ads, rfl, k0, k1⟩ := (HS.out.below HBW.out).pri i hlt
              have hpb := HSB.out _ (getD_mem' (d := (0, 0)) hlt)
              obtain ⟨pa, hpa⟩ : ∃ pa : Nat, (sw.getD i (0, 0)).1 = pa := ⟨((sw.getD i (0, 0)).1).toNat, by omega⟩
              obtain ⟨pb, hpb'⟩ : ∃ pb : Nat, (sw.getD i (0, 0)).2 = pb := ⟨((sw.getD i (0, 0)).2).toNat, by omega⟩
              rw [hpa] at k0 hpb
              rw [hpb'] at k1 hpb
              have pa0 : (0 : Int) ≤ pa := by omega
              have pa1 : (pa : Int) ≤ 255 := by omega
              have pb0 : (0 : Int) ≤ pb := by omega
              have pb1 : (pb : Int) ≤ 255 := by omega
              have g1 : (0 : Int) ≤ i := by omega
              have g2 : (i : Int) < sw.length := by omega
              have bi : decide ((i : Int) < sw.length) = true := decide_eq_true (by omega)
              have hu86 := Try.underlying86
              have HMb := Lib.hid (show Oth T wc 40 A3 c3 N3 M (wr.alloc (.cells #[.int .u8 pa, .int .u8 pb] 86)) from ⟨HM.out.row.alloc _, HM.out.len, HM.out.bnd, HM.out.mem, HM.out.bel.alloc HM.out.bel.size _⟩)
              have HPB := Lib.hid (blk_new wr (.cells #[.int .u8 pa, .int .u8 pb] 86) rfl)
              clear hpb hpa hpb'
              by_cases hN0 : N3 = 0
              · have b0 : decide ((0 : Int) < N3) = false := decide_eq_false (by omega)
                have b0' : decide (0 < N3) = false := decide_eq_false (by omega)
                clear hN0
                set_option maxRecDepth 100000 in go_wp2
                go_roundw
                case rel => exact ⟨i + 1, M, by simp, by omega, HMb⟩
                case measure => simp [intOf]; omega
              · have b0 : decide ((0 : Int) < N3) = true := decide_eq_true (by omega)
                have b0' : decide (0 < N3) = true := decide_eq_true (by omega)
                obtain ⟨x, hx⟩ : ∃ x, x = pa % N3 := ⟨_, rfl⟩
                obtain ⟨y, hy⟩ : ∃ y, y = pb % N3 := ⟨_, rfl⟩
                have hxN : x < N3 := by rw [hx]; exact Nat.mod_lt _ (by omega)
                have hyN : y < N3 := by rw [hy]; exact Nat.mod_lt _ (by omega)
                have hm1 : (pa : Int) % (N3 : Int) = (x : Int) := by rw [hx]; rfl
                have hm2 : (pb : Int) % (N3 : Int) = (y : Int) := by rw [hy]; rfl
                have n0 : (0 : Int) < N3 := by omega
                have n1 : ((N3 : Int) == 0) = false := beq_eq_false_iff_ne.2 (by omega)
                have x0 : (0 : Int) ≤ x := by omega
                have x1 : (x : Int) < N3 := by omega
                have y0 : (0 : Int) ≤ y := by omega
                have y1 : (y : Int) < N3 := by omega
                clear hx hy hN0
                set_option maxRecDepth 100000 in go_wp2_with fail
                obtain ⟨P, hP⟩ : ∃ P, wr.heap.size = P := ⟨_, rfl⟩
                obtain ⟨wb, hwb⟩ : ∃ wb, wr.alloc (.cells #[.int .u8 pa, .int .u8 pb] 86) = wb := ⟨_, rfl⟩
                rw [hP] at HPB
                rw [hwb] at HPB HMb
                rw [hwb, hP]
                have e0 : wb.cell? ⟨P, 0, none⟩ = some (.int .u8 pa) := blk_cell HPB.out 0
                have e1 : wb.cell? ⟨P, 1, none⟩ = some (.int .u8 pb) := blk_cell HPB.out 1
                clear k0 k1 hwb
                have w1 : IntKind.i64.wrap (pa : Int) = pa := IntWalk.i64_in _ (by omega)
                have w2 : IntKind.i64.wrap (pb : Int) = pb := IntWalk.i64_in _ (by omega)
                have w3 : IntKind.i64.wrap (x : Int) = x := IntWalk.i64_in _ (by omega)
                have w4 : IntKind.i64.wrap (y : Int) = y := IntWalk.i64_in _ (by omega)
                have hm3 : Int.tmod (pa : Int) (N3 : Int) = (x : Int) := by rw [Int.tmod_eq_emod_of_nonneg (by omega)]; exact hm1
                have hm4 : Int.tmod (pb : Int) (N3 : Int) = (y : Int) := by rw [Int.tmod_eq_emod_of_nonneg (by omega)]; exact hm2
                set_option maxRecDepth 100000 in go_quiet (fail)
                clear w1 w2 w3 w4 hm1 hm2 hm3 hm4 e0 e1 pa0 pa1 pb0 pb1 n1 b0 b0'
                obtain ⟨wq, hwq⟩ : ∃ wq, wb.drewN nq = wq := ⟨_, rfl⟩
                rw [hwq]
                have HMq := Lib.hid (show Oth T wc 40 A3 c3 N3 M wq by rw [← hwq]; exact ⟨HMb.out.row.drewN _, HMb.out.len, HMb.out.bnd, HMb.out.mem, blw_drewN HMb.out.bel _⟩)
                obtain ⟨g, rfl⟩ := own_ptr HMq.out.row n0
                have hRO : Own Rp.cells 3 wq wc.heap.size 70 (.slice (some ⟨g, 0, none⟩) M.length c3) M := by rw [← HMq.out.len]; exact HMq.out.row
                have hxM : x < M.length := by rw [← HMq.out.len]; exact hxN
                have hyM : y < M.length := by rw [← HMq.out.len]; exact hyN
                obtain ⟨q0, q1, q2⟩ := hRO.rpAt.row.rp0 x hxM
                obtain ⟨r0, r1, r2⟩ := hRO.rpAt.row.rp0 y hyM
                have hfr : ∀ o, wq.frozen? ⟨g, o, none⟩ = false := fun o => (own_free1 hRO o).1
                have f0 := hfr (x * 3)
                have f1 := hfr (x * 3 + 1)
                have f2 := hfr (x * 3 + 2)
                have f3 := hfr (y * 3)
                have f4 := hfr (y * 3 + 1)
                have f5 := hfr (y * 3 + 2)
                have HMS := Lib.hid (show Oth T wc 40 (some ⟨g, 0, none⟩) c3 N3 ((M.set x (gr M y)).set y (gr M x)) (st3 (st3 wq g (x * 3) (gr M y)) g (y * 3) (gr M x)).drew by
                  have s1 := hRO.storeR hxM (gr M y)
                  have s2 := Own.storeR (m := M.set x (gr M y)) (i := y) (by rw [List.length_set]; exact s1) (by rw [List.length_set]; exact hyM) (gr M x)
                  rw [List.length_set, ← HMq.out.len] at s2
                  exact ⟨s2.drew, by rw [List.length_set, List.length_set]; exact HMq.out.len, HMq.out.bnd, HMq.out.mem.swap hxM hyM, ((HMq.out.bel.grown (st3_grown wq g (x * 3) (gr M y)) HMq.out.bel.size (fun k e => by cases e; exact (own_free1 hRO 0).2)).grown (st3_grown _ g (y * 3) (gr M x)) (Nat.le_trans HMq.out.bel.size (st3_grown wq g (x * 3) (gr M y)).size) (fun k e => by cases e; exact (own_free1 hRO 0).2)).drew⟩)
                have HM2 := Lib.hid (show ((M.set x (gr M y)).set y (gr M x)).length = N3 from HMS.out.len.symm)
                obtain ⟨M2, hM2⟩ : ∃ M2, (M.set x (gr M y)).set y (gr M x) = M2 := ⟨_, rfl⟩
                rw [hM2] at HMS
                obtain ⟨mx, hmx⟩ : ∃ mx, gr M x = mx := ⟨_, rfl⟩
                obtain ⟨my, hmy⟩ : ∃ my, gr M y = my := ⟨_, rfl⟩
                rw [hmx] at q0 q1 q2
                rw [hmy] at r0 r1 r2
                rw [hmx, hmy] at HMS
                have HXY := Lib.hid (show x = y → my = mx from fun h => by rw [← hmy, ← hmx, h])
                clear hfr hRO hxM hyM HM2 hM2 hmx hmy hwq
                by_cases hxy : x = y
                · subst hxy
                  obtain rfl := HXY.out rfl
                  clear r0 r1 r2 f3 f4 f5
                  set_option maxRecDepth 100000 in go_wp2_with fail
                  set_option maxRecDepth 100000 in go_region
                  set_option maxRecDepth 100000 in go_wp2
                  go_roundw
                  case rel => exact ⟨i + 1, M2, by simp, by omega, HMS⟩
                  case measure => simp [intOf]; omega
                · 
                  have d00 : ¬ x * 3 = y * 3 := by omega
                  have e00 : ¬ y * 3 = x * 3 := by omega
                  have d01 : ¬ x * 3 = y * 3 + 1 := by omega
                  have e10 : ¬ y * 3 + 1 = x * 3 := by omega
                  have d02 : ¬ x * 3 = y * 3 + 2 := by omega
                  have e20 : ¬ y * 3 + 2 = x * 3 := by omega
                  have d10 : ¬ x * 3 + 1 = y * 3 := by omega
                  have e01 : ¬ y * 3 = x * 3 + 1 := by omega
                  have d11 : ¬ x * 3 + 1 = y * 3 + 1 := by omega
                  have e11 : ¬ y * 3 + 1 = x * 3 + 1 := by omega
                  have d12 : ¬ x * 3 + 1 = y * 3 + 2 := by omega
                  have e21 : ¬ y * 3 + 2 = x * 3 + 1 := by omega
                  have d20 : ¬ x * 3 + 2 = y * 3 := by omega
                  have e02 : ¬ y * 3 = x * 3 + 2 := by omega
                  have d21 : ¬ x * 3 + 2 = y * 3 + 1 := by omega
                  have e12 : ¬ y * 3 + 1 = x * 3 + 2 := by omega
                  have d22 : ¬ x * 3 + 2 = y * 3 + 2 := by omega
                  have e22 : ¬ y * 3 + 2 = x * 3 + 2 := by omega
                  set_option maxRecDepth 100000 in go_wp2_with fail
                  set_option maxRecDepth 100000 in go_region
                  set_option maxRecDepth 100000 in go_wp2
                  go_roundw
                  case rel => exact ⟨i + 1, M2, by simp, by omega, HMS⟩
                  case measure => simp [intOf]; omega
            · have bi : decide ((i : Int) < sw.length) = false := decide_eq_false (by omega)
              have HK1 := Lib.hid (show Calls Try.prog 57 #[.slice A7 N c7] wr fun e w' => (∃ A2 c2, e = .returned (.tuple #[.slice A2 (takeL T).length c2, .bool true]) ∧ RpAt w' A2 c2 (takeL T)) ∧ Below wr.heap.size wr w' by
                rw [HN.out]; exact takes_any A7 c7 T wr (HRT.out.row.below HM.out.bel))
              have HK2 := Lib.hid (show ∀ W, Below wr.heap.size wr W → Calls Try.prog 57 #[.slice A3 N3 c3] W fun e w' => (∃ A2 c2, e = .returned (.tuple #[.slice A2 (takeL T).length c2, .bool true]) ∧ RpAt w' A2 c2 (takeL T)) ∧ Below W.heap.size W w' from fun W hW => by
                have hrow := (Own.rpAt (show Own Rp.cells 3 wr wc.heap.size 70 (.slice A3 M.length c3) M by rw [← HM.out.len]; exact HM.out.row)).row
                rw [HM.out.len, take_same HOK.out HM.out.mem]
                exact takes_any A3 c3 M W (hrow.below hW))
              obtain ⟨K, hK⟩ : ∃ K, takeL T = K := ⟨_, rfl⟩
              have HKK := Lib.hid (show rchk K = 0 by rw [← hK]; exact rchk_iff.2 (take_rok T))
              rw [hK] at HK1 HK2
              clear hK
              set_option maxRecDepth 100000 in go_wp2_with fail
              refine HK1.out.mono ?_
              rintro e w4 ⟨⟨A4, c4, rfl, hX4⟩, hb4⟩
              have HX4 := Lib.hid hX4
              have HB4 := Lib.hid (HBW.out.trans (hb4.mono HBW.out.size))
              have HW4 := Lib.hid hb4
              clear hb4 hX4
              set_option maxRecDepth 100000 in go_wp2_with fail
              refine (HK2.out _ HW4.out).mono ?_
              rintro e w5 ⟨⟨A5, c5, rfl, hX5⟩, hb5⟩
              have HX5 := Lib.hid hX5
              have HY5 := Lib.hid (HX4.out.below hb5)
              have HB5 := Lib.hid (HB4.out.trans (hb5.mono HB4.out.size))
              clear hb5 hX5
              have hsm : sameRp K K = true := sameRp_iff.2 rfl
              have HSM := Lib.hid hsm
              clear hsm
              set_option maxRecDepth 100000 in go_wp2_with (first | (go_at_call 49; refine (refSame_any A4 c4 K A5 c5 K _ HY5.out.row HX5.out.row).mono ?_; rintro e w6 ⟨rfl, hb6⟩; rw [HSM.out]; (have HY6 := Lib.hid (HY5.out.below hb6)); (have HB6 := Lib.hid (HB5.out.trans (hb6.mono HB5.out.size))); clear hb6) | (go_at_call 47; refine (rcheck_any A4 c4 K _ HY6.out).mono ?_; rintro e w7 ⟨rfl, hb7⟩; rw [HKK.out]; (have HB7 := Lib.hid (HB6.out.trans (hb7.mono HB6.out.size))); clear hb7))
              go_ret
              exact ⟨rfl, HB7.out⟩
end Go.Proofs.Ytckanomabhbkaaa
