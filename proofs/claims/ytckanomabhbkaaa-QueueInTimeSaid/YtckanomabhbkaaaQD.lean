/- slices.Delete of one packet, in place. -/
import Derived.Test.YtckanomabhbkaaaQN
import Derived.Deep.RegionLaw
import Derived.ArgAppend
namespace Go.Proofs.Ytckanomabhbkaaa
open Go.RowKit Go.Shelf
set_option linter.unusedVariables false
section
variable {P : Program}
theorem run_append_k (w : World) (t ty elem : TypeId) (k g o sLen sCap : Nat) (a : Addr) (m c : Nat) (cur : Array Value) (t' : TypeId) (cs : List Value) (i0 : TypeInfo)
    (hu : P.underlying t = some (.slice elem)) (hi : P.info? elem = some i0) (hs : i0.size = k) (hg : w.heap[g]? = some (.cells cur t' (0, 0))) (hc : cs.length = m * k) (hroom : sLen + m ≤ sCap)
    (hsrc : ∀ j v, cs[j]? = some v → w.cell? (a.add j) = some v) (hfit : o + sLen * k + cs.length ≤ cur.size) (h1 : ∀ v ∈ cs, v.oneCell' = true) :
    (Builtin.append_ #[t, t] ty #[.slice (some ⟨g, o, none⟩) sLen sCap, .slice (some a) m c]).run P w = .ok (.slice (some ⟨g, o, none⟩) (sLen + m) sCap) (w.setRow g (splice cur.toList (o + sLen * k) cs).toArray) := by
  subst hs
  have hfc := run_firstCells_some (P := P) w i0.size m a m c cs hc hsrc
  have hst := run_storeCells_at (P := P) g (o + sLen * i0.size) t' cs 0 cur w hg (by simpa using hfit) h1
  simp [Builtin.append_, run_underlying hu, sizeOf, typeInfo, hi, Builtin.lenOf, hroom, hfc, Addr.add_lit, hst, splice]
theorem step_append_is {ops : Array Oper} {o : Oper} {a : Act} {w : World} {K : Act → World → Prop} {Q : Exit → Act → World → Prop} {E : Prop}
    (hg : o.guard = none) (d x : Operand) (dT sT : TypeId) (hop : o.op = Op.call { callee := Callee.builtin Builtin.append, args := #[d, x], argTypes := #[dT, sT] })
    (v u : Value) (hd : a.eval d = v) (hx : a.eval x = u) {v' : Value} {w' : World} (hr : (Builtin.append_ #[dT, sT] o.type #[v, u]).run P w = .ok v' w') (hK : K (a.put o.dst v') w') :
    if Region.wanted o (yielded ops a.tmps) = true then Oper.wp P o a w K Q else E := by
  have hw : Region.wanted o (yielded ops a.tmps) = true := by simp [Region.wanted, hg]
  rw [if_pos hw]
  unfold Oper.wp
  simp [execOp, hop, resolve, invoke, builtin, hd, hx, hr, Result.andThen]
  exact hK
end
theorem info30' : ∃ i0, Try.prog.info? 30 = some i0 ∧ i0.size = 6 := by
  obtain ⟨i0, h, e⟩ := Option.map_eq_some_iff.1 info30
  simp only [Prod.mk.injEq] at e
  exact ⟨i0, h, e.2.1⟩
theorem zero30 (w : World) : (zeroValue 30).run Try.prog w = .ok (.agg #[(.int .i64 0), (.int .i64 0), (.int .i64 0), (.int .i64 0), (.int .i64 0), (.string ⟨#[]⟩)]) w := by kernel_rfl
/-- The cells behind a deletion in place. -/
theorem let_out (L : List Value) (n i : Nat) (F Z : List Value) (hL : L.take (n * 6) = F) (hF : F.length = n * 6) (hi : i < n) (hfit : n * 6 ≤ L.length) (hZ : Z.length = 6) :
    (splice (splice L (i * 6) (F.drop ((i + 1) * 6))) ((n - 1) * 6) Z).take ((n - 1) * 6) = F.take (i * 6) ++ F.drop ((i + 1) * 6) := by
  have h1 : (F.drop ((i + 1) * 6)).length = n * 6 - (i + 1) * 6 := by rw [List.length_drop, hF]
  have h2 : (splice L (i * 6) (F.drop ((i + 1) * 6))).length = L.length := length_splice _ _ _ (by rw [h1]; omega)
  have hl2 : (F.take (i * 6)).length = i * 6 := by rw [List.length_take, hF]; omega
  apply List.ext_getElem?
  intro j
  rw [List.getElem?_take]
  by_cases hj : j < (n - 1) * 6
  · rw [if_pos hj, splice_get _ _ _ (by rw [h2, hZ]; omega), if_pos hj, splice_get _ _ _ (by rw [h1]; omega)]
    by_cases c1 : j < i * 6
    · rw [if_pos c1, List.getElem?_append_left (by omega), List.getElem?_take, if_pos c1, ← hL, List.getElem?_take, if_pos (by omega)]
    · rw [if_neg c1, if_pos (by rw [h1]; omega), List.getElem?_append_right (by omega), hl2]
  · rw [if_neg hj]
    symm
    apply List.getElem?_eq_none
    rw [List.length_append, hl2, h1]; omega
set_option maxHeartbeats 1600000 in
theorem delete_any (A : Option Addr) (c : Nat) (l : List Pk) (i : Nat) (w : World) (base : Nat) (hO : Own Pk.cells 6 w base 30 (.slice A l.length c) l) (hi : i < l.length) :
    Calls Try.prog 83 #[.slice A l.length c, .int .i64 i, .int .i64 (i + 1)] w fun e w' => e = .returned (.slice A (l.take i ++ l.drop (i + 1)).length c) ∧ Own Pk.cells 6 w' base 30 (.slice A (l.take i ++ l.drop (i + 1)).length c) (l.take i ++ l.drop (i + 1)) ∧ w.grownBy w' (ob A) := by
  obtain ⟨A', c', e', hle, hcm⟩ := hO.form
  cases e'
  unfold maxLen at hcm
  obtain ⟨hOl, hcase⟩ := hO
  rcases hcase with ⟨h0, h0'⟩ | ⟨g, cap, cur, he, hb, hg, hn, hcap, hcs, htake⟩
  · omega
  cases he
  have hFlen := F_len l
  have hres : (l.take i ++ l.drop (i + 1)).length = l.length - 1 := by rw [List.length_append, List.length_take, List.length_drop]; omega
  rw [hres]
  have HRES := Lib.hid hres
  have HCL := Lib.hid (show cur.toList.length = c * 6 by rw [Array.length_toList]; exact hcs)
  obtain ⟨i0, hi0, hi6⟩ := info30'
  have HI := Lib.hid (show Try.prog.info? 30 = some i0 ∧ i0.size = 6 from ⟨hi0, hi6⟩)
  have HG := Lib.hid hg
  have HCS := Lib.hid hcs
  have HT := Lib.hid htake
  have HF := Lib.hid hFlen
  have b1 : ((i : Int) == (i : Int) + 1) = false := by simp; omega
  clear hg hcs htake hFlen hOl hcap hi0 hi6 hres
  go_enter Try.func83, Try.ntmps83
  have g1 : (0 : Int) ≤ (i : Int) + 1 := by omega
  have g2 : ((i : Int) + 1).toNat = i + 1 := by omega
  have g3 : (i : Int) ≤ (i : Int) + 1 := by omega
  have g4 : (i : Int) + 1 ≤ (l.length : Int) := by omega
  have g5 : i + 1 ≤ l.length := by omega
  have g6 : i ≤ c := by omega
  set_option maxRecDepth 100000 in
  go_wp2_with fail
  have hcp1 : ∀ (a : Addr) (ty : TypeId) (sc : Nat), (a = ⟨g, (i + 1) * 6, none⟩ ∨ l.length - (i + 1) = 0) → (Builtin.append_ #[22, 22] ty #[.slice (some ⟨g, 0, none⟩) i c, .slice (some a) (l.length - (i + 1)) sc]).run Try.prog w.drew = .ok (.slice (some ⟨g, 0, none⟩) (l.length - 1) c) (w.drew.setRow g ((splice cur.toList (i * 6) ((l.flatMap Pk.cells).drop ((i + 1) * 6))).toArray)) := fun a ty sc ha => by
    have h := run_append_k (P := Try.prog) w.drew 22 ty 30 6 g 0 i c a (l.length - (i + 1)) sc cur 30 ((l.flatMap Pk.cells).drop ((i + 1) * 6)) i0 Try.underlying22 HI.out.1 HI.out.2 HG.out (by rw [List.length_drop, HF.out, Nat.sub_mul]) (by omega)
      (fun j v hj => by
        have hj2 : (l.flatMap Pk.cells)[(i + 1) * 6 + j]? = some v := by rwa [List.getElem?_drop] at hj
        have hlt : (i + 1) * 6 + j < l.length * 6 := by rw [← HF.out]; exact (List.getElem?_eq_some_iff.1 hj2).1
        rcases ha with rfl | h0
        · have hadd : (⟨g, (i + 1) * 6, none⟩ : Addr).add j = ⟨g, (i + 1) * 6 + j, none⟩ := by unfold Addr.add; split <;> simp_all
          rw [hadd]
          show w.cell? ⟨g, (i + 1) * 6 + j, none⟩ = some v
          simp only [World.cell?, HG.out]
          rw [← HT.out, List.getElem?_take, if_pos hlt] at hj2
          simpa using hj2
        · exfalso; omega)
      (by have := HCS.out; rw [List.length_drop, HF.out]; omega) (fun v hv => by
        obtain ⟨y, _, hy⟩ := List.mem_flatMap.1 (List.mem_of_mem_drop hv)
        exact Pk.cells_one y v hy)
    rw [show i + (l.length - (i + 1)) = l.length - 1 from by omega, Nat.zero_add] at h
    exact h
  obtain ⟨L1, hL1⟩ : ∃ L1, L1 = splice cur.toList (i * 6) ((l.flatMap Pk.cells).drop ((i + 1) * 6)) := ⟨_, rfl⟩
  obtain ⟨W1, hW1⟩ : ∃ W1, W1 = w.drew.setRow g L1.toArray := ⟨_, rfl⟩
  rw [← hL1, ← hW1] at hcp1
  have hg1 : W1.heap[g]? = some (.cells L1.toArray 30 (0, 0)) := by rw [hW1]; exact setRow_heap w.drew g cur _ 30 (0, 0) HG.out
  have hlen1 : L1.length = c * 6 := by rw [hL1, length_splice _ _ _ (by rw [List.length_drop, HF.out, HCL.out]; omega), HCL.out]
  obtain ⟨Z, hZ⟩ : ∃ Z, Z = (Builtin.zeroCells (Value.agg #[(.int .i64 0), (.int .i64 0), (.int .i64 0), (.int .i64 0), (.int .i64 0), (.string ⟨#[]⟩)]).cells 1).toList := ⟨_, rfl⟩
  have hZ6 : Z.length = 6 := by rw [hZ, Array.length_toList, zeroCells_size]; rfl
  have hclr : ∀ (ty : TypeId) (cc : Nat), (Builtin.clear_ #[22] ty #[.slice (some ⟨g, (l.length - 1) * 6, none⟩) 1 cc]).run Try.prog W1 = .ok (.tuple #[]) (W1.setRow g (splice L1 ((l.length - 1) * 6) Z).toArray) := fun ty cc => by
    have h := run_clear_k (P := Try.prog) W1 22 ty 30 _ 6 g ((l.length - 1) * 6) 1 cc L1.toArray 30 Try.underlying22 (zero30 _) rfl (by decide) hg1 (by rw [List.size_toArray, hlen1]; omega)
    rw [hZ]; exact h
  have hown : Own Pk.cells 6 (W1.setRow g (splice L1 ((l.length - 1) * 6) Z).toArray) base 30 (.slice (some ⟨g, 0, none⟩) (l.length - 1) c) (l.take i ++ l.drop (i + 1)) := by
    refine ⟨by rw [F_len], .inr ⟨g, c, _, by rw [HRES.out], hb, setRow_heap _ g _ _ 30 (0, 0) hg1, by rw [HRES.out]; omega, by unfold maxLen; omega, by rw [List.size_toArray, length_splice _ _ _ (by rw [hlen1, hZ6]; omega), hlen1], ?_⟩⟩
    rw [HRES.out, List.toList_toArray, List.flatMap_append, F_take, F_drop, hL1]
    exact let_out cur.toList l.length i _ Z HT.out HF.out hi (by rw [HCL.out]; omega) hZ6
  have hgr : w.grownBy (W1.setRow g (splice L1 ((l.length - 1) * 6) Z).toArray) (some g) := by
    have g1 : w.grownBy W1 (some g) := by
      rw [hW1]
      exact (show w.grownBy w.drew (some g) from ⟨rfl, rfl, rfl, Nat.le_refl _, fun _ _ _ => rfl⟩).trans (setRow_grown _ _ _)
    exact g1.trans (setRow_grown _ _ _)
  have HOWN := Lib.hid hown
  have HGR := Lib.hid hgr
  have HW1 := Lib.hid hW1
  have HL1 := Lib.hid hL1
  clear hown hgr hW1 hg1 hlen1 hZ hL1
  have k1 : ((l.length - 1 : Nat) : Int) ≤ (l.length : Int) := by omega
  have k2 : l.length - 1 ≤ l.length := by omega
  have k3 : l.length - (l.length - 1) = 1 := by omega
  have k4 : ¬ (c = l.length - 1) := by omega
  by_cases hb2 : c = i + 1
  · have e1 : l.length - 1 = i := by omega
    have e2 : l.length - i = 1 := by omega
    have hL : L1 = cur.toList := by
      rw [HL1.out, List.drop_of_length_le (by rw [HF.out]; omega)]
      simp [splice]
    have hW : W1 = w.drew := by
      rw [HW1.out, hL, Array.toArray_toList]
      exact setRow_self w.drew g cur 30 (0, 0) HG.out
    rw [e1, hW, hL] at hclr
    have HCR := hclr
    rw [← e2] at hclr
    have HOWN2 := HOWN
    rw [e1, hW, hL] at HOWN2
    have HGR2 := HGR
    rw [e1, hW, hL] at HGR2
    have n1 : (i : Int) ≤ (l.length : Int) := by omega
    clear hcp1 HOWN HGR HW1 HL1 k1 k2 k3 k4
    subst hb2
    have n2 : l.length ≤ i + 1 := by omega
    go_region_law (fail)
    set_option maxRecDepth 100000 in
    go_wp2_with (refine wpList_clear_is _ rfl _ 22 rfl _ rfl (hclr _ _) ?_)
    go_ret
    rw [e1]
    exact ⟨rfl, HOWN2.out, HGR2.out⟩
  · go_region_law (refine step_append_is rfl _ _ 22 22 rfl _ _ (by simp [Act.eval, Act.put]) (by simp [Act.eval, Act.put]) (hcp1 ⟨g, (i + 1) * 6, none⟩ _ (c - (i + 1)) (.inl rfl)) ?_)
    set_option maxRecDepth 100000 in
    go_wp2_with (refine wpList_clear_is _ rfl _ 22 rfl _ rfl (hclr _ _) ?_)
    go_ret
    exact ⟨rfl, HOWN.out, HGR.out⟩
end Go.Proofs.Ytckanomabhbkaaa
