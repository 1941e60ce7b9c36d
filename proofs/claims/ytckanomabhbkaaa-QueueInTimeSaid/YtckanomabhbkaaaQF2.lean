/- slices.DeleteFunc of packets, walked. -/
import Derived.Test.YtckanomabhbkaaaQF
import Derived.Maps.RangeWalk
namespace Go.Proofs.Ytckanomabhbkaaa
open Go.RowKit Go.Shelf
set_option linter.unusedVariables false
theorem zeros_own {w : World} {base g c n r : Nat} {m : List Pk} {cur : Array Value} {Z : List Value} {t : TypeId} (hg : w.heap[g]? = some (.cells cur t (0, 0))) (hcs : cur.size = c * 6) (ht : cur.toList.take (n * 6) = m.flatMap Pk.cells) (hm : m.length = n) (hb : base ≤ g) (hn : n ≤ c) (hc : c ≤ maxLen) (hr : r ≤ n) (hZ : Z.length = (n - r) * 6) :
    Own Pk.cells 6 (w.setRow g (splice cur.toList (r * 6) Z).toArray) base t (.slice (some ⟨g, 0, none⟩) (m.take r).length c) (m.take r) := by
  have hl : (m.take r).length = r := by rw [List.length_take]; omega
  have hlc : cur.toList.length = c * 6 := by rw [Array.length_toList]; exact hcs
  have hsz : (splice cur.toList (r * 6) Z).toArray.size = c * 6 := by rw [List.size_toArray, length_splice _ _ _ (by rw [hZ, hlc, Nat.sub_mul]; have := Nat.mul_le_mul_right 6 hr; omega), hlc]
  refine ⟨F_len _, .inr ⟨g, c, _, by rw [hl], hb, setRow_heap _ g _ _ t (0, 0) hg, by omega, hc, hsz, ?_⟩⟩
  rw [hl, List.toList_toArray, F_take, ← ht, List.take_take, Nat.min_eq_left (by omega)]
  unfold splice
  exact List.take_left' (by rw [List.length_take]; omega)
theorem box6 {w : World} {b : Nat} {a0 a1 a2 a3 a4 a5 : Value} {t : TypeId} {fr : Nat × Nat} (h : w.heap[b]? = some (.cells #[a0, a1, a2, a3, a4, a5] t fr)) : w.cell? ⟨b, 0, none⟩ = some a0 ∧ w.cell? ⟨b, 1, none⟩ = some a1 ∧ w.cell? ⟨b, 2, none⟩ = some a2 ∧ w.cell? ⟨b, 3, none⟩ = some a3 ∧ w.cell? ⟨b, 4, none⟩ = some a4 ∧ w.cell? ⟨b, 5, none⟩ = some a5 :=
  ⟨blk_cell h 0, blk_cell h 1, blk_cell h 2, blk_cell h 3, blk_cell h 4, blk_cell h 5⟩
set_option maxHeartbeats 1600000 in
theorem deleteFunc_eff (p : Pk → Bool) (fn : Nat) (lb : Array Value) (A : Option Addr) (c : Nat) (l : List Pk) (w : World) (base g : Nat) (J : Nat → World → Prop) (hO : Own Pk.cells 6 w base 30 (.slice A l.length c) l) (hob : ∀ b, ob A = some b → b = g)
    (eg : ∀ args w, (callFunc fn args).run Try.prog w = .ok (.enter fn args) w) (hp : EffB fn lb p l g J) (h0 : J 0 w) :
    Calls Try.prog 79 #[.slice A l.length c, .func (.func fn) #[] lb] w fun e w' => e = .returned (.slice A (kept p l).length c) ∧ Own Pk.cells 6 w' base 30 (.slice A (kept p l).length c) (kept p l) ∧ J l.length w' := by
  have HO := Lib.hid hO
  have HP := Lib.hid hp
  have HB := Lib.hid hob
  have HJ := Lib.hid h0
  have hfr := fidx_range p l
  have hcm : l.length ≤ c ∧ c ≤ 9223372036854775807 := ⟨hO.pkAt.le, hO.pkAt.cap⟩
  obtain ⟨z, hz⟩ : ∃ z, fidx p l = z := ⟨_, rfl⟩
  have HZ := Lib.hid hz
  rw [hz] at hfr
  by_cases hneg : z < 0
  case pos =>
    have b1 : (z == -1) = true := by simp; omega
    clear hO hp h0 hob
    go_enter Try.func79, Try.ntmps79
    go_wp2_with fail
    refine (indexFunc_eff p fn lb A c l w base g J HO.out HB.out eg HP.out HJ.out).mono ?_
    rintro e w1 ⟨rfl, hJ1, hg1⟩
    rw [HZ.out]
    have HJ1 := Lib.hid hJ1
    have HG1 := Lib.hid hg1
    clear hJ1 hg1
    go_wp2
    go_ret
    have hk : kept p l = l := kept_all (fidx_neg (by rw [HZ.out]; exact hneg))
    have ha : asked p l = l.length := by unfold asked; rw [HZ.out, if_pos hneg]
    rw [hk]
    exact ⟨rfl, HO.out.block fun b hbb => by rw [ob_eq] at hbb; rw [HB.out b hbb]; exact HG1.out, by rw [← ha]; exact HJ1.out⟩
  obtain ⟨a, rfl⟩ : ∃ a : Nat, z = a := ⟨z.toNat, by omega⟩
  have hal : a < l.length := by omega
  obtain ⟨g', rfl⟩ := hO.some (by omega)
  obtain rfl : g' = g := hob g' rfl
  have b1 : ((a : Int) == -1) = false := by simp
  have hs := fidx_spec (p := p) (l := l) (by rw [hz]; omega)
  rw [hz] at hs
  have hk0 : kept p (l.take (a + 1)) = l.take a := by
    rw [kept_next hal, if_pos hs.1, List.append_nil]
    refine kept_all fun j a0 a1 => ?_
    rw [List.length_take] at a1
    have := hs.2 j a0 (by omega)
    rwa [show gp (l.take a) j = gp l j from by rw [gp_elem' a0 (by rw [List.length_take]; exact a1), gp_elem' a0 (by omega), List.getElem_take]]
  have hk1 : (kept p (l.take (a + 1))).length = a := by rw [hk0, List.length_take]; omega
  have HM0 := Lib.hid (show Mid p l l (a + 1) from ⟨rfl, by rw [hk1]; omega, by omega, by rw [hk1, hk0], rfl⟩)
  have HK1 := Lib.hid hk1
  have ha1 : asked p l = a + 1 := by unfold asked; rw [hz, if_neg (by omega), Int.toNat_natCast]
  have HA1 := Lib.hid ha1
  clear hO hp h0 hob hs hk0 hk1 ha1 hz
  go_enter Try.func79, Try.ntmps79
  go_wp2_with fail
  refine (indexFunc_eff p fn lb _ c l w base g' J HO.out HB.out eg HP.out HJ.out).mono ?_
  rintro e w1 ⟨rfl, hJ1, hg1⟩
  rw [HZ.out]
  have HJ1 := Lib.hid hJ1
  have HG1 := Lib.hid hg1
  clear hJ1 hg1
  have hw1 : IntKind.i64.wrap ((a : Int) + 1) = (a : Int) + 1 := by rw [IntKind.wrap_i64]; omega
  go_wp2
  go_loopw [5, 6] (fun u v wr => ∃ (j : Nat) (m : List Pk), v = .int .i64 j ∧ u = .int .i64 (kept p (l.take j)).length ∧ Hid (Mid p l m j) ∧ Hid (Own Pk.cells 6 wr base 30 (.slice (some ⟨g', 0, none⟩) m.length c) m) ∧ Hid (J j wr)) (fun u v _ => (l.length - (intOf v)).toNat)
  case atStart => exact ⟨a + 1, l, by simp, by rw [HK1.out], HM0.out, HO.out.block fun b hbb => by rw [ob_eq] at hbb; rw [HB.out b hbb]; exact HG1.out, by rw [← HA1.out]; exact HJ1.out⟩
  case round =>
    obtain ⟨j, m, rfl, rfl, HM, HOW, HJJ⟩ := hrel
    have hml := HM.out.len
    have hjl := HM.out.le
    have hkj := HM.out.lt
    obtain ⟨cur, hcur, hcs, htk, hbg, hmc, hcm2⟩ := HOW.out.blk (by omega)
    have hgs : g' < wr.heap.size := blk_lt hcur
    obtain ⟨i, hi⟩ : ∃ i, (kept p (l.take j)).length = i := ⟨_, rfl⟩
    rw [hi] at hkj ⊢
    by_cases hlt : j < l.length
    · have hbj : decide ((j : Int) < l.length) = true := by simp; omega
      have hat := HM.out.at hlt
      obtain ⟨c0, c1, c2, c3, c4, c5⟩ := HOW.out.pkAt.row.pk0 j (by omega)
      rw [hat] at c0 c1 c2 c3 c4 c5
      have hcall := HP.out.call j wr (wr.alloc (.cells #[.int .i64 (gp l j).id, .int .i64 (gp l j).dst, .int .i64 (gp l j).pr, .int .i64 (gp l j).born, .int .i64 (gp l j).life, .string (gp l j).data] 30)) hlt HJJ.out ((Below.refl _ _).alloc (Nat.le_refl _) _)
      obtain ⟨y, hy⟩ : ∃ y, p (gp l j) = y := ⟨_, rfl⟩
      rw [hy] at hcall
      have HY := Lib.hid hy
      have HI := Lib.hid hi
      have n1 : ¬ g' = wr.heap.size := by omega
      have hw2 : IntKind.i64.wrap ((j : Int) + 1) = (j : Int) + 1 := by rw [IntKind.wrap_i64]; omega
      clear hy hi hat
      cases y
      · go_wp2_with fail
        go_at_fn fn
        refine hcall.mono ?_
        rintro e w' ⟨rfl, hJ', hk'⟩
        have hbx : w'.heap[wr.heap.size]? = some (.cells #[.int .i64 (gp l j).id, .int .i64 (gp l j).dst, .int .i64 (gp l j).pr, .int .i64 (gp l j).born, .int .i64 (gp l j).life, .string (gp l j).data] 30 (0, 0)) := (hk' wr.heap.size (.inr ⟨Nat.le_refl _, by simp⟩)).trans (blk_new wr _ rfl)
        obtain ⟨q0, q1, q2, q3, q4, q5⟩ := box6 hbx
        have hgw : w'.heap[g']? = wr.heap[g']? := (hk' g' (.inl rfl)).trans (Below.heap_alloc _ _ _ hgs)
        have HOW' := Lib.hid (HOW.out.block (w1 := w') fun b hbb => by cases hbb; exact hgw)
        obtain ⟨d0, d1, d2, d3, d4, d5⟩ := HOW'.out.pkAt.row.pk0 i (by omega)
        have f := blk_free (hgw.trans hcur)
        have f0 := f (i * 6)
        have f1 := f (i * 6 + 1)
        have f2 := f (i * 6 + 2)
        have f3 := f (i * 6 + 3)
        have f4 := f (i * 6 + 4)
        have f5 := f (i * 6 + 5)
        have HGW := Lib.hid hgw
        have HJ' := Lib.hid hJ'
        have hw3 : IntKind.i64.wrap ((i : Int) + 1) = (i : Int) + 1 := by rw [IntKind.wrap_i64]; omega
        clear hcur hk' hbx hgw f hJ' hcall c0 c1 c2 c3 c4 c5 htk
        go_wp2
        go_roundw
        case rel => exact ⟨j + 1, m.set i (gp l j), by simp, by rw [show (kept p (l.take (j + 1))).length = i + 1 from by rw [kept_next hlt, if_neg (by rw [HY.out]; simp), List.length_append, HI.out]; rfl]; rfl, by rw [← HI.out]; exact HM.out.keep hlt HY.out, by rw [List.length_set]; exact HOW'.out.store (by omega) (gp l j), HP.out.set _ _ _ HJ'.out (st6_grown w' g' (i * 6) (gp l j)) (by simp [World.setCell])⟩
        case measure => simp [intOf]; omega
      · go_wp2_with (go_at_fn fn; refine hcall.mono ?_; rintro e w' ⟨rfl, hJ', hk'⟩)
        go_roundw
        case rel => exact ⟨j + 1, m, by simp, by rw [show kept p (l.take (j + 1)) = kept p (l.take j) from by rw [kept_next hlt, if_pos HY.out, List.append_nil], HI.out], HM.out.drop hlt HY.out, HOW.out.block fun b hbb => by
          cases hbb
          exact (hk' g' (.inl rfl)).trans (Below.heap_alloc _ _ _ hgs), hJ'⟩
        case measure => simp [intOf]; omega
    · have hbj : decide ((j : Int) < l.length) = false := by simp; omega
      obtain rfl : j = l.length := by omega
      obtain ⟨Z, hZ⟩ : ∃ Z, Z = (Builtin.zeroCells (Value.agg #[(.int .i64 0), (.int .i64 0), (.int .i64 0), (.int .i64 0), (.int .i64 0), (.string ⟨#[]⟩)]).cells (l.length - i)).toList := ⟨_, rfl⟩
      have hZ6 : Z.length = (l.length - i) * 6 := by rw [hZ, Array.length_toList, zeroCells_size]; rfl
      have hfit : i * 6 + (l.length - i) * 6 ≤ cur.size := by rw [hcs, Nat.sub_mul]; have := Nat.mul_le_mul_right 6 (show i ≤ l.length by omega); omega
      have hclr : ∀ (ty : TypeId) (cc : Nat), (Builtin.clear_ #[22] ty #[.slice (some ⟨g', i * 6, none⟩) (l.length - i) cc]).run Try.prog wr = .ok (.tuple #[]) (wr.setRow g' (splice cur.toList (i * 6) Z).toArray) := fun ty cc => by
        have h := run_clear_k (P := Try.prog) wr 22 ty 30 _ 6 g' (i * 6) (l.length - i) cc cur 30 Try.underlying22 (zero30 _) rfl (by decide) hcur hfit
        rw [hZ]; exact h
      have hown := zeros_own (r := i) (Z := Z) hcur hcs htk rfl hbg hmc hcm2 (by omega) (by rw [hZ6, hml])
      have hhead := HM.out.head
      rw [List.take_length] at hi hhead
      rw [hi] at hhead
      rw [hhead] at hown
      have HOWN := Lib.hid hown
      have HI := Lib.hid hi
      have hic : ¬ (c = i) := by omega
      have hil : (i : Int) ≤ l.length := by omega
      have hic2 : (i : Int) ≤ c := by omega
      have hcl : (c : Int) ≤ 9223372036854775807 := by omega
      clear hown hi hhead hcur hcs htk hZ hZ6
      set_option maxRecDepth 100000 in
      go_wp2_with (refine wpList_clear_is _ rfl _ 22 rfl _ rfl (hclr _ _) ?_)
      go_ret
      rw [HI.out]
      exact ⟨rfl, by have := HOWN.out; rw [HI.out] at this; exact this, HP.out.set _ _ _ HJJ.out (setRow_grown _ _ _) (by simp [World.setRow])⟩
end Go.Proofs.Ytckanomabhbkaaa
