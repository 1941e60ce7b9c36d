/- The program's Serve where it serves, walked. -/
import Derived.Test.YtckanomabhbkaaaQV
import Derived.Deep.RegionLaw
import Derived.Maps.RangeWalk
namespace Go.Proofs.Ytckanomabhbkaaa
open Go.RowKit Go.Shelf
set_option linter.unusedVariables false
/-- What stands in Serve's loop: the rest m, the departures o. -/
structure SvI (w : World) (L : Int) (A : Option Addr) (n c : Nat) (ub : Nat) (A5 : Option Addr) (c5 : Nat) (m : List Pk) (o : List Dp) (wr : World) : Prop where
  bel : Below w.heap.size w wr
  blk : wr.heap[w.heap.size]? = some (.cells #[.int .i64 L, .slice A n c] 24 (0, 0)) ∧ wr.heap[w.heap.size + 1]? = some (.cells #[.int .i64 0, .slice none 0 0] 24 (0, 0))
  own : Own Pk.cells 6 wr w.heap.size 30 (.slice A5 m.length c5) m
  out : ∃ A6 c6, wr.heap[ub]? = some (.cells #[.slice A6 o.length c6] 41 (0, 0)) ∧ Own Dp.cells 3 wr w.heap.size 46 (.slice A6 o.length c6) o
section
variable {w : World} {L : Int} {A : Option Addr} {n c ub : Nat} {A5 : Option Addr} {c5 : Nat} {m : List Pk} {o : List Dp} {wr : World}
theorem SvI.below {w1 : World} (h : SvI w L A n c ub A5 c5 m o wr) (hb : Below wr.heap.size wr w1) : SvI w L A n c ub A5 c5 m o w1 := by
  obtain ⟨A6, c6, h1, h2⟩ := h.out
  exact ⟨h.bel.trans (hb.mono h.bel.size), ⟨blk_below h.blk.1 hb (blk_lt h.blk.1), blk_below h.blk.2 hb (blk_lt h.blk.2)⟩, h.own.below hb (Nat.le_refl _), A6, c6, blk_below h1 hb (blk_lt h1), h2.below hb (Nat.le_refl _)⟩
theorem SvI.app {A6 : Option Addr} {c6 : Nat} {A7 : Option Addr} {c7 : Nat} {d : Dp} {w5 : World} {X : Obj} (h : SvI w L A n c ub A5 c5 m o wr) (h1 : wr.heap[ub]? = some (.cells #[.slice A6 o.length c6] 41 (0, 0))) (h2 : Own Dp.cells 3 wr w.heap.size 46 (.slice A6 o.length c6) o) (hub : w.heap.size + 2 ≤ ub)
    (hO : Own Dp.cells 3 w5 w.heap.size 46 (.slice A7 (o ++ [d]).length c7) (o ++ [d])) (hg : ((wr.alloc X).drew).grownBy w5 (Value.slice A6 o.length c6).ownBlock) :
    SvI w L A n c ub A5 c5 m (o ++ [d]) (w5.setCell ⟨ub, 0, none⟩ (.slice A7 (o.length + 1) c7)) ∧ w5.heap[ub]? = some (.cells #[.slice A6 o.length c6] 41 (0, 0)) := by
  have e5 : (o ++ [d]).length = o.length + 1 := by simp
  rw [← e5]
  have hsz := h.bel.size
  have hkeep : ∀ b x, wr.heap[b]? = some x → (Value.slice A6 o.length c6).ownBlock ≠ some b → w5.heap[b]? = some x := fun b x hx h2 =>
    (hg.block b (by have := blk_lt hx; simp; omega) (fun e => h2 e.symm)).trans (blk_old hx _)
  have hub5 := hkeep ub _ h1 (h2.ne h1 (by decide))
  have hsx : ∀ b, b ≠ ub → (w5.setCell ⟨ub, 0, none⟩ (.slice A7 (o ++ [d]).length c7)).heap[b]? = w5.heap[b]? := fun b hb => Below.heap_setCell w5 ⟨ub, 0, none⟩ _ b hb
  refine ⟨⟨?_, ⟨(hsx _ (by omega)).trans (hkeep _ _ h.blk.1 (h2.ne h.blk.1 (by decide))), (hsx _ (by omega)).trans (hkeep _ _ h.blk.2 (h2.ne h.blk.2 (by decide)))⟩, ?_, A7, c7, set1_at hub5 0 _, hO.setCell (hO.ne hub5 (by decide)) _⟩, hub5⟩
  · exact (((h.bel.alloc (by omega) X).drew.grown hg (by simp; omega) (fun b e => (h2.lt e).1)).setCell (by simp; omega) _)
  · refine h.own.block fun b hb => ?_
    have hbl := h.own.lt hb
    have hne : b ≠ ub := fun e => h.own.ne h1 (by decide) (by rw [← e]; exact hb)
    have hx : wr.heap[b]? = some wr.heap[b] := Array.getElem?_eq_getElem hbl.2
    rw [hsx b hne, hx]
    refine hkeep b _ hx fun e => ?_
    obtain ⟨cs, fr, hc⟩ : ∃ cs fr, wr.heap[b]? = some (.cells cs 30 fr) := by
      rcases h.own.2 with ⟨he, h0⟩ | ⟨g', cap, cur, he, _, hc, _⟩
      · rw [he] at hb; simp [Value.ownBlock] at hb
      · rw [he] at hb; simp [Value.ownBlock] at hb; subst hb; exact ⟨_, _, hc⟩
    exact h2.ne hc (by decide) e
theorem SvI.del {i : Nat} (h : SvI w L A n c ub A5 c5 m o wr) (hi : i < m.length) :
    Calls Try.prog 83 #[.slice A5 m.length c5, .int .i64 i, .int .i64 (i + 1)] wr fun e w' => e = .returned (.slice A5 (m.take i ++ m.drop (i + 1)).length c5) ∧ SvI w L A n c ub A5 c5 (m.take i ++ m.drop (i + 1)) o w' := by
  refine (delete_any A5 c5 m i wr w.heap.size h.own hi).mono ?_
  rintro e w' ⟨rfl, hO, hg⟩
  obtain ⟨A6, c6, h1, h2⟩ := h.out
  have hne : ∀ {b : Nat} {cs : Array Value} {t : TypeId}, wr.heap[b]? = some (Obj.cells cs t (0, 0)) → 30 ≠ t → w'.heap[b]? = some (Obj.cells cs t (0, 0)) := fun hb ht => by
    refine (hg.block _ (blk_lt hb) fun e => ?_).trans hb
    exact h.own.ne hb ht (by rw [ob_eq]; exact e.symm)
  refine ⟨rfl, ⟨h.bel.grown hg h.bel.size (fun b e => (h.own.lt (by rw [ob_eq]; exact e)).1), ⟨hne h.blk.1 (by decide), hne h.blk.2 (by decide)⟩, hO, A6, c6, hne h1 (by decide), ?_⟩⟩
  refine h2.block fun b hb => hg.block b (h2.lt hb).2 fun e => ?_
  obtain ⟨cs, fr, hc⟩ : ∃ cs fr, wr.heap[b]? = some (.cells cs 30 fr) := by
    rcases h.own.2 with ⟨he, h0⟩ | ⟨g', cap, cur, he, _, hc, _⟩
    · omega
    · cases he; simp [ob] at e; subst e; exact ⟨_, _, hc⟩
  exact h2.ne hc (by decide) hb
theorem serve_del (hI : SvI w L A n c ub A5 c5 m o wr) (hub : w.heap.size + 2 ≤ ub) (hlen : o.length + m.length ≤ 64) (s : Int) :
    Calls Try.prog 79 #[.slice A5 m.length c5, .func (.func 80) #[] #[.pointer (some ⟨wr.heap.size, 0, none⟩), .pointer (some ⟨ub, 0, none⟩)]] (wr.alloc (.cells #[.int .i64 s] 3)) fun e w' =>
      e = .returned (.slice A5 (kept (staleP s) m).length c5) ∧ SvI w L A n c ub A5 c5 (kept (staleP s) m) (o ++ deps s m) w' ∧ w'.heap[wr.heap.size]? = some (.cells #[.int .i64 s] 3 (0, 0)) := by
  obtain ⟨A6, c6, h1, h2⟩ := hI.out
  have hbl := hI.bel
  have hsz := hbl.size
  have hubl := blk_lt h1
  have hne : ∀ {b cs t}, wr.heap[b]? = some (.cells cs t (0, 0)) → 30 ≠ t → ob A5 ≠ some b := fun hb ht => by rw [← ob_eq]; exact hI.own.ne hb ht
  obtain ⟨g, hg1, hg2, hg3, hg4⟩ : ∃ g, (∀ b, ob A5 = some b → b = g) ∧ (m.length = 0 ∨ g < wr.heap.size) ∧ (g = wr.heap.size + 1 ∨ ob A5 = some g) ∧ w.heap.size ≤ g := by
    cases A5 with
    | none =>
      refine ⟨wr.heap.size + 1, fun b hb => by simp [ob] at hb, .inl ?_, .inl rfl, by omega⟩
      rcases hI.own.2 with ⟨he, h0⟩ | ⟨g', cap, cur, he, _⟩
      · exact h0
      · cases he
    | some a =>
      have hl := hI.own.lt (b := a.block) rfl
      exact ⟨a.block, fun b hb => by simp [ob] at hb; exact hb.symm, .inr hl.2, .inr rfl, hl.1⟩
  have hqg : w.heap.size ≠ g := by
    rcases hg3 with h | h
    · omega
    · intro e; exact hne hI.blk.1 (by decide) (by rw [h, e])
  have hrg : w.heap.size + 1 ≠ g := by
    rcases hg3 with h | h
    · omega
    · intro e; exact hne hI.blk.2 (by decide) (by rw [h, e])
  have hug : ub ≠ g := by
    rcases hg3 with h | h
    · omega
    · intro e; exact hne h1 (by decide) (by rw [h, e])
  have hsg : wr.heap.size ≠ g := by
    rcases hg3 with h | h
    · omega
    · have := (hI.own.lt (b := g) (by rw [ob_eq]; exact h)).2; omega
  have hE := serve1_eff w w.heap.size (w.heap.size + 1) wr.heap.size ub g (.cells #[.int .i64 L, .slice A n c] 24 (0, 0)) s m o ⟨by omega, by omega, hqg⟩ ⟨by omega, by omega, hrg⟩ ⟨by omega, by omega, hsg⟩ ⟨by omega, hug⟩ hg4 ⟨_, rfl⟩ hlen
  have h0 : SvJ w w.heap.size (w.heap.size + 1) wr.heap.size ub g (.cells #[.int .i64 L, .slice A n c] 24 (0, 0)) s m o 0 (wr.alloc (.cells #[.int .i64 s] 3)) := by
    refine ⟨hbl.alloc (by omega) _, blk_old hI.blk.1 _, blk_old hI.blk.2 _, blk_new wr _ rfl, ?_, A6, c6, ?_⟩
    · rcases hg2 with h | h
      · exact .inl h
      · exact .inr (by simp; omega)
    · rw [show o ++ deps s (m.take 0) = o from by simp [deps]]
      refine ⟨blk_old h1 _, h2.alloc _, ?_⟩
      rcases hg3 with h | h
      · intro e; have := (h2.lt (b := g) (by rw [ob_eq]; exact e)).2; omega
      · intro e
        obtain ⟨cs, cur, hc⟩ : ∃ cs cur, wr.heap[g]? = some (.cells cs 30 cur) := by
          rcases hI.own.2 with ⟨he, h0⟩ | ⟨g', cap, cur, he, _, hc, _⟩
          · cases A5 with
            | none => simp [ob] at h
            | some a => cases he
          · cases A5 with
            | none => cases he
            | some a => cases he; simp [ob] at h; subst h; exact ⟨_, _, hc⟩
        exact h2.ne hc (by decide) (by rw [ob_eq]; exact e)
  refine (deleteFunc_eff (staleP s) 80 _ A5 c5 m _ w.heap.size g _ (hI.own.alloc _) hg1 (enters_of Try.func80 (by kernel_rfl) rfl) hE h0).mono ?_
  rintro e w' ⟨rfl, hO, hJ⟩
  obtain ⟨A7, c7, h3, h4, _⟩ := hJ.out
  rw [List.take_length] at h3 h4
  exact ⟨rfl, ⟨hJ.bel, ⟨hJ.bq, hJ.br⟩, hO, A7, c7, h3, h4⟩, hJ.bs⟩
end
set_option maxHeartbeats 3200000 in
theorem serve_good (L : Int) (A : Option Addr) (c : Nat) (l : List Pk) (fr : Int) (As : Option Addr) (cs : Nat) (sv : List Int) (w : World) (hr : PkAt w A c l) (hids : IdsOk l) (hv : RowAt intc 1 w As sv) (h1 : chk L l = 0) (h2 : ¬ (fr < 0 ∨ 1099511627776 < fr)) (h3 : ¬ 4096 < sv.length) :
    Calls Try.prog 30 #[.agg #[.int .i64 L, .slice A l.length c], .int .i64 fr, .slice As sv.length cs] w fun e w' => ServeAns w' e L l fr sv ∧ Below w.heap.size w w' := by
  have HR := Lib.hid hr
  have HV := Lib.hid hv
  have HE := Lib.hid (show serveE L l fr sv = 0 by unfold serveE; rw [if_neg (by rw [h1]; simp), if_neg h2, if_neg h3])
  have hck := chk_ok h1
  have b1 : (chk L l != 0) = false := by simp [h1]
  have b2 : decide (0 ≤ fr ∧ fr ≤ 1099511627776) = true := by simp; omega
  have b3 : decide ((4096 : Int) < (sv.length : Int)) = false := by simp; omega
  have hu24 := Try.underlying24
  have hu30 := Try.underlying30
  have HW := Lib.hid (srvW_below w L A c l)
  have HL := Lib.hid (show l.length ≤ 64 ∧ sv.length ≤ 4096 ∧ 0 ≤ fr ∧ fr ≤ 1099511627776 by omega)
  have hsl : sv.length ≤ 9223372036854775807 := by omega
  clear hr h1 h2 h3 hv hck
  go_enter Try.func30, Try.ntmps30
  go_wp2_with fail
  refine (check_any L A c l _ (HR.out.row.below HW.out) hids).mono ?_
  rintro e w1 ⟨rfl, hb1⟩
  have HB1 := Lib.hid (show Below (w.heap.size + 2) (srvW w L A c l) w1 from by have h := hb1; rw [srvW_size] at h; exact h)
  obtain ⟨⟨q0, q1⟩, r0, r1, f0, f1⟩ := srv_cells (srvW_blocks HB1.out)
  clear hb1
  set_option maxRecDepth 100000 in go_wp2_with fail
  refine (within_any fr 0 1099511627776 _).mono ?_
  rintro e w2 ⟨rfl, rfl⟩
  set_option maxRecDepth 100000 in go_wp2_with fail
  refine (clone_any A c l _ (HR.out.row.below (HW.out.trans (HB1.out.mono (by omega)))) (by have := HL.out; omega) HR.out.nil).mono ?_
  rintro e w2 ⟨v, rfl, hO2, hb2⟩
  have hz1 : w.heap.size + 2 ≤ w1.heap.size := by have := HB1.out.size; rwa [srvW_size] at this
  have HB2 := Lib.hid (HB1.out.trans (hb2.mono hz1))
  have hz2 := hb2.size
  obtain ⟨A2, c2, rfl, hP2⟩ := hO2.pk
  have HO2 := Lib.hid (hO2.lower (base' := w.heap.size) (by omega))
  clear q0 q1 r0 r1 f0 f1 hb2 hO2 hP2
  go_wp2
  have hub : w.heap.size + 2 ≤ w2.heap.size := by omega
  have HI0 : Hid (SvI w L A l.length c w2.heap.size A2 c2 l [] (w2.alloc (.cells #[.slice none 0 0] 41))) :=
    ⟨(HW.out.trans (HB2.out.mono (by omega))).alloc (by omega) _, ⟨blk_old (srvW_blocks HB2.out).1 _, blk_old (srvW_blocks HB2.out).2 _⟩, HO2.out.alloc _, none, 0, blk_new w2 _ rfl, Own.nil _ _ _⟩
  obtain ⟨ub, hubd⟩ : ∃ ub, w2.heap.size = ub := ⟨_, rfl⟩
  rw [hubd] at HI0 hub ⊢
  clear hz1 hz2 HB1 HB2 HO2 hubd
  go_loopw [9, 35] (fun u v wr => ∃ (k : Nat) (A5 : Option Addr) (c5 : Nat), v = .int .i64 k ∧ k ≤ sv.length ∧ u = .slice A5 (srv fr sv l k).1.length c5 ∧ Hid (SvI w L A l.length c ub A5 c5 (srv fr sv l k).1 (srv fr sv l k).2 wr)) (fun u v _ => (sv.length - (intOf v)).toNat)
  case atStart => exact ⟨0, A2, c2, rfl, by omega, rfl, HI0.out⟩
  case round =>
    obtain ⟨k, A5, c5, rfl, hk, rfl, HI⟩ := hrel
    have HIL := Lib.hid (srv_len fr sv l k)
    obtain ⟨x, hx⟩ : ∃ x, srv fr sv l k = x := ⟨_, rfl⟩
    have HX := Lib.hid (show srv fr sv l (k + 1) = srvStep (fr + k) (sv.getD k 0) x by rw [srv, hx])
    rw [hx] at HI HIL ⊢
    by_cases hlt : k < sv.length
    · have hbk : decide ((k : Int) < sv.length) = true := by simp; omega
      obtain ⟨ad, rfl, c0⟩ := (HV.out.below HI.out.bel).int k hlt
      have hw1 : IntKind.i64.wrap (fr + (k : Int)) = fr + (k : Int) := by rw [IntKind.wrap_i64]; have := HL.out; omega
      obtain ⟨d, hd⟩ : ∃ d, sv.getD k 0 = d := ⟨_, rfl⟩
      rw [hd] at HX c0
      clear hd
      have hDF := Lib.hid (serve_del HI.out hub (by have := HIL.out; have := HL.out; omega) (fr + k))
      go_wp2_with fail
      refine hDF.out.mono ?_
      rintro e w3 ⟨rfl, hI3, hs3⟩
      have HI3 := Lib.hid hI3
      have HS3 := Lib.hid hs3
      clear hI3 hs3 hDF
      obtain ⟨m1, hm1⟩ : ∃ m1, kept (staleP (fr + k)) x.1 = m1 := ⟨_, rfl⟩
      rw [hm1] at HI3 ⊢
      have HM1 := Lib.hid hm1
      clear hm1
      go_wp2_with fail
      refine (first_any A5 c5 m1 d _ HI3.out.own.pkAt.row).mono ?_
      rintro e w4 ⟨rfl, hb4⟩
      have HI4 := Lib.hid (HI3.out.below hb4)
      have HS4 := Lib.hid (blk_below HS3.out hb4 (blk_lt HS3.out))
      clear hb4
      obtain ⟨z, hz⟩ : ∃ z, fidx (top d) m1 = z := ⟨_, rfl⟩
      have HZ := Lib.hid hz
      have hzr : -1 ≤ z ∧ z < m1.length := by rw [← hz]; exact fidx_range _ _
      rw [hz]
      clear hz
      by_cases hneg : z < 0
      · have bz : decide (0 ≤ z) = false := by simp; omega
        go_wp2
        go_roundw
        case rel =>
          have hst : srvStep (fr + k) d x = (m1, x.2 ++ deps (fr + k) x.1) := by unfold srvStep; rw [HM1.out, HZ.out, if_pos hneg]
          exact ⟨k + 1, A5, c5, by simp, by omega, by rw [HX.out, hst], by rw [HX.out, hst]; exact HI4.out⟩
        case measure => simp [intOf]; omega
      · obtain ⟨i, rfl⟩ : ∃ i : Nat, z = i := ⟨z.toNat, by omega⟩
        have bz : decide (0 ≤ (i : Int)) = true := by simp
        have him : i < m1.length := by omega
        obtain ⟨A6, c6, h1, h2⟩ := HI4.out.out
        obtain ⟨ad5, e5, p0, _⟩ := HI4.out.own.pkAt.row.pk i (by omega) (by omega)
        subst e5
        rw [Int.toNat_natCast] at p0
        obtain ⟨o1, ho1⟩ : ∃ o1, x.2 ++ deps (fr + k) x.1 = o1 := ⟨_, rfl⟩
        rw [ho1] at h1 h2 HI4 HI3
        have HO1 := Lib.hid ho1
        have u0 : w4.cell? ⟨ub, 0, none⟩ = some (.slice A6 o1.length c6) := blk_cell h1 0
        have u1 : w4.frozen? ⟨ub, 0, none⟩ = false := blk_free h1 0
        have s0 : w4.cell? ⟨wr.heap.size, 0, none⟩ = some (.int .i64 (fr + k)) := blk_cell HS4.out 0
        have l1 : ub < w4.heap.size := blk_lt h1
        have l2 : wr.heap.size < w4.heap.size := blk_lt HS4.out
        have l3 : (ad5.add (i * 6)).block < w4.heap.size := cell_lt p0
        have n1 : ¬ ub = w4.heap.size := by omega
        have n2 : ¬ wr.heap.size = w4.heap.size := by omega
        have n3 : ¬ (ad5.add (i * 6)).block = w4.heap.size := by omega
        have HU4 := Lib.hid h1
        have HD4 := Lib.hid h2
        clear ho1 h1 h2
        go_wp2_with fail
        have HBB := Lib.hid (show w.heap.size ≤ w4.heap.size from HI4.out.bel.size)
        have HLO := Lib.hid (show (o1.length + 1) * 24 ≤ 140737488355328 by
          have h1 := HIL.out
          have h2 := HL.out
          have h3 := kept_deps (fr + k) x.1
          have h4 := congrArg List.length HO1.out
          rw [List.length_append] at h4
          omega)
        have HML := Lib.hid (show m1.length ≤ 64 by
          have h1 := HIL.out
          have h2 := HL.out
          have h3 := kept_deps (fr + k) x.1
          rw [HM1.out] at h3
          omega)
        go_region_law (refine Own.append_step Dp.cells_len Dp.cells_one rfl _ _ 41 46 _ 24 rfl Try.underlying41 info46 rfl (by decide) (by decide) (.slice A6 o1.length c6) o1 (by simp [Act.eval]) (base := w.heap.size) ((HD4.out.alloc _).drew) ⟨w4.heap.size, 0, none⟩ [⟨(gp m1 i).id, fr + k, false⟩] 1 (by simp [Act.eval]) (RowAt.new w4 _ _ _ rfl) (by simp; exact Nat.le_succ_of_le HBB.out) HLO.out ?_; intro v1 w5 hO5 hg5 _; (have hfm := hO5.form); obtain ⟨A7, c7, rfl, _, _⟩ := hfm; (have hAP := HI4.out.app HU4.out HD4.out hub hO5 hg5); (have HI5 := Lib.hid hAP.1); (have u2 : w5.cell? ⟨ub, 0, none⟩ = some (.slice A6 o1.length c6) := blk_cell hAP.2 0); (have u3 : w5.frozen? ⟨ub, 0, none⟩ = false := blk_free hAP.2 0); clear hO5 hg5 hAP)
        all_goals
          have HDE := Lib.hid (HI5.out.del him)
          obtain ⟨m2, hm2⟩ : ∃ m2, m1.take i ++ m1.drop (i + 1) = m2 := ⟨_, rfl⟩
          have HM2 := Lib.hid hm2
          rw [hm2] at HDE
          clear hm2
          have hw2 : IntKind.i64.wrap ((i : Int) + 1) = (i : Int) + 1 := by rw [IntKind.wrap_i64]; have := HML.out; omega
          go_wp2_with fail
          refine HDE.out.mono ?_
          rintro e w6 ⟨rfl, hI6⟩
          have HI6 := Lib.hid hI6
          clear hI6
          go_wp2
          go_roundw
          case rel =>
            have hst : srvStep (fr + k) d x = (m2, o1 ++ [⟨(gp m1 i).id, fr + k, false⟩]) := by unfold srvStep; rw [HM1.out, HZ.out, if_neg (by omega), HO1.out, Int.toNat_natCast, HM2.out]
            exact ⟨k + 1, some ad5, c5, by simp, by omega, by rw [HX.out, hst], by rw [HX.out, hst]; exact HI6.out⟩
          case measure => simp [intOf]; omega
    · have hbk : decide ((k : Int) < sv.length) = false := by simp; omega
      obtain rfl : k = sv.length := by omega
      obtain ⟨A6, c6, h1, h2⟩ := HI.out.out
      have HO6 := Lib.hid h2
      obtain ⟨⟨q0, q1⟩, r0, r1, f0, f1⟩ := srv_cells HI.out.blk
      have u0 : wr.cell? ⟨ub, 0, none⟩ = some (.slice A6 x.2.length c6) := blk_cell h1 0
      clear h1 h2
      go_wp2_with fail
      go_region
      all_goals
        go_wp2
        refine bodyPost_ret (v := .tuple #[.agg #[.int .i64 L, .slice A5 x.1.length c5], .slice A6 x.2.length c6, .int .i64 0]) (by simp [results, Try.results30, go_sem, r0, r1]) rfl ⟨?_, ?_⟩
        · exact ServeAns.good HE.out (by rw [hx]) (by rw [hx]) ((HI.out.own.drew.setCell (HI.out.own.ne HI.out.blk.2 (by decide)) _).setCell (HI.out.own.ne HI.out.blk.2 (by decide)) _).pkAt (((HO6.out.drew.setCell (HO6.out.ne HI.out.blk.2 (by decide)) _).setCell (HO6.out.ne HI.out.blk.2 (by decide)) _).slAt Dp.cells_len)
        · exact ((HI.out.bel.drew).setCell (by simp) _).setCell (by simp) _
theorem serve_any (L : Int) (A : Option Addr) (c : Nat) (l : List Pk) (fr : Int) (As : Option Addr) (cs : Nat) (sv : List Int) (w : World) (hr : PkAt w A c l) (hids : IdsOk l) (hv : RowAt intc 1 w As sv) :
    Calls Try.prog 30 #[.agg #[.int .i64 L, .slice A l.length c], .int .i64 fr, .slice As sv.length cs] w fun e w' => ServeAns w' e L l fr sv ∧ Below w.heap.size w w' := by
  by_cases h1 : chk L l = 0
  · by_cases h2 : fr < 0 ∨ 1099511627776 < fr
    · exact serve_range L A c l fr As cs sv w hr hids h1 h2
    · by_cases h3 : 4096 < sv.length
      · exact serve_large L A c l fr As cs sv w hr hids h1 h2 h3
      · exact serve_good L A c l fr As cs sv w hr hids hv h1 h2 h3
  · exact serve_arg L A c l fr As cs sv w hr hids h1
end Go.Proofs.Ytckanomabhbkaaa
