/- slices.DeleteFunc of packets, with a predicate that may have effects elsewhere. -/
import Derived.Test.YtckanomabhbkaaaQD
import Derived.Test.YtckanomabhbkaaaQI2
namespace Go.Proofs.Ytckanomabhbkaaa
open Go.RowKit Go.Shelf
set_option linter.unusedVariables false

/-- A packet's six cells stored. -/
def st6 (w : World) (g o : Nat) (x : Pk) : World := (((((w.setCell ⟨g, o, none⟩ (.int .i64 x.id)).setCell ⟨g, o + 1, none⟩ (.int .i64 x.dst)).setCell ⟨g, o + 2, none⟩ (.int .i64 x.pr)).setCell ⟨g, o + 3, none⟩ (.int .i64 x.born)).setCell ⟨g, o + 4, none⟩ (.int .i64 x.life)).setCell ⟨g, o + 5, none⟩ (.string x.data)
theorem set1_at {w : World} {g : Nat} {cur : Array Value} {t : TypeId} {fr : Nat × Nat} (h : w.heap[g]? = some (.cells cur t fr)) (o : Nat) (v : Value) : (w.setCell ⟨g, o, none⟩ v).heap[g]? = some (.cells (cur.setIfInBounds o v) t fr) := by
  have hm : (w.setCell ⟨g, o, none⟩ v).heap[g]? = (w.heap[g]?).map (fun | .cells c elem frozen => .cells (c.setIfInBounds o v) elem frozen | o => o) := by
    simp [World.setCell, Array.getElem?_modify]
    rfl
  rw [hm, h]; rfl
theorem st6_at {w : World} {g o : Nat} {cur : Array Value} {t : TypeId} (h : w.heap[g]? = some (.cells cur t (0, 0))) (ho : o + 6 ≤ cur.size) (x : Pk) : (st6 w g o x).heap[g]? = some (.cells (splice cur.toList o x.cells).toArray t (0, 0)) := by
  unfold st6
  rw [set1_at (set1_at (set1_at (set1_at (set1_at (set1_at h o _) (o + 1) _) (o + 2) _) (o + 3) _) (o + 4) _) (o + 5) _]
  refine congrArg (fun a => some (Obj.cells a t (0, 0))) (Array.toList_inj.1 ?_)
  apply List.ext_getElem?
  intro j
  have hl : cur.toList.length = cur.size := Array.length_toList
  rw [List.toList_toArray, splice_get _ _ _ (by rw [Pk.cells_len]; omega), Pk.cells_len]
  simp only [Array.toList_setIfInBounds, List.getElem?_set, List.length_set, hl]
  by_cases h1 : j < o
  · rw [if_pos h1, if_neg (by omega), if_neg (by omega), if_neg (by omega), if_neg (by omega), if_neg (by omega), if_neg (by omega)]
  · rw [if_neg h1]
    by_cases h2 : j < o + 6
    · rw [if_pos h2]
      obtain ⟨d, rfl⟩ : ∃ d, j = o + d := ⟨j - o, by omega⟩
      rw [show o + d - o = d from by omega]
      have hd : d = 0 ∨ d = 1 ∨ d = 2 ∨ d = 3 ∨ d = 4 ∨ d = 5 := by omega
      rcases hd with rfl | rfl | rfl | rfl | rfl | rfl
      · rw [if_neg (by omega), if_neg (by omega), if_neg (by omega), if_neg (by omega), if_neg (by omega), if_pos (by omega), if_pos (by omega)]; rfl
      · rw [if_neg (by omega), if_neg (by omega), if_neg (by omega), if_neg (by omega), if_pos (by omega), if_pos (by omega)]; rfl
      · rw [if_neg (by omega), if_neg (by omega), if_neg (by omega), if_pos (by omega), if_pos (by omega)]; rfl
      · rw [if_neg (by omega), if_neg (by omega), if_pos (by omega), if_pos (by omega)]; rfl
      · rw [if_neg (by omega), if_pos (by omega), if_pos (by omega)]; rfl
      · rw [if_pos (by omega), if_pos (by omega)]; rfl
    · rw [if_neg h2, if_neg (by omega), if_neg (by omega), if_neg (by omega), if_neg (by omega), if_neg (by omega), if_neg (by omega)]
theorem st6_grown (w : World) (g o : Nat) (x : Pk) : w.grownBy (st6 w g o x) (some g) :=
  have h : ∀ (w : World) o v, w.grownBy (w.setCell ⟨g, o, none⟩ v) (some g) := fun w o v => ⟨rfl, rfl, rfl, by simp [World.setCell], fun k hk hne => Below.heap_setCell w ⟨g, o, none⟩ v k (fun e => hne (by rw [e]))⟩
  (((((h w _ _).trans (h _ _ _)).trans (h _ _ _)).trans (h _ _ _)).trans (h _ _ _)).trans (h _ _ _)
theorem Own.store {w : World} {base g c : Nat} {m : List Pk} {e : TypeId} (h : Own Pk.cells 6 w base e (.slice (some ⟨g, 0, none⟩) m.length c) m) {i : Nat} (hi : i < m.length) (x : Pk) : Own Pk.cells 6 (st6 w g (i * 6) x) base e (.slice (some ⟨g, 0, none⟩) m.length c) (m.set i x) := by
  rcases h.2 with ⟨he, h0⟩ | ⟨g', cap, cur, he, hb, hg, hn, hc, hcs, ht⟩
  · omega
  · cases he
    have hF := F_len m
    have hlc : cur.toList.length = c * 6 := by rw [Array.length_toList]; exact hcs
    have hh := st6_at hg (show i * 6 + 6 ≤ cur.size by omega) x
    generalize st6 w g (i * 6) x = W' at hh ⊢
    have hls : (m.set i x).length = m.length := List.length_set
    have hsz : (splice cur.toList (i * 6) x.cells).toArray.size = c * 6 := by rw [List.size_toArray, length_splice _ _ _ (by rw [Pk.cells_len]; omega), hlc]
    refine ⟨F_len _, .inr ⟨g, c, (splice cur.toList (i * 6) x.cells).toArray, by rw [hls], hb, hh, by rw [hls]; exact hn, hc, hsz, ?_⟩⟩
    rw [hls, List.toList_toArray, List.set_eq_take_append_cons_drop, if_pos hi, List.flatMap_append, List.flatMap_cons, F_take, F_drop]
    have h1 : ((m.flatMap Pk.cells).take (i * 6)).length = i * 6 := by rw [List.length_take, hF]; omega
    apply List.ext_getElem?
    intro j
    have hFL : ∀ k, k < m.length * 6 → cur.toList[k]? = (m.flatMap Pk.cells)[k]? := fun k hk => by rw [← ht, List.getElem?_take, if_pos hk]
    rw [List.getElem?_take]
    by_cases hj : j < m.length * 6
    · rw [if_pos hj, splice_get _ _ _ (by rw [Pk.cells_len]; omega), Pk.cells_len]
      by_cases c1 : j < i * 6
      · rw [if_pos c1, List.getElem?_append_left (by omega), List.getElem?_take, if_pos c1]
        exact hFL j hj
      · rw [if_neg c1, List.getElem?_append_right (by omega), h1]
        by_cases c2 : j < i * 6 + 6
        · rw [if_pos c2, List.getElem?_append_left (by rw [Pk.cells_len]; omega)]
        · rw [if_neg c2, List.getElem?_append_right (by rw [Pk.cells_len]; omega), Pk.cells_len, List.getElem?_drop, show (i + 1) * 6 + (j - i * 6 - 6) = j from by omega]
          exact hFL j hj
    · rw [if_neg hj]
      symm
      apply List.getElem?_eq_none
      rw [List.length_append, h1, List.length_append, Pk.cells_len, List.length_drop, hF]; omega

/-- What is asked of a predicate with effects: J k holds when the first k packets have been asked about; the row's block g and new blocks are left alone. -/
structure EffB (fn : Nat) (lb : Array Value) (p : Pk → Bool) (l : List Pk) (g : Nat) (J : Nat → World → Prop) : Prop where
  call : ∀ (k : Nat) (W W1 : World), k < l.length → J k W → Below W.heap.size W W1 → Calls Try.prog fn (#[.agg #[.int .i64 (gp l k).id, .int .i64 (gp l k).dst, .int .i64 (gp l k).pr, .int .i64 (gp l k).born, .int .i64 (gp l k).life, .string (gp l k).data]] ++ lb) W1 fun e w' => e = .returned (.bool (p (gp l k))) ∧ J (k + 1) w' ∧ ∀ b, (b = g ∨ (W.heap.size ≤ b ∧ b < W1.heap.size)) → w'.heap[b]? = W1.heap[b]?
  set : ∀ (k : Nat) (W W' : World), J k W → W.grownBy W' (some g) → W'.heap.size = W.heap.size → J k W'
def asked (p : Pk → Bool) (l : List Pk) : Nat := if fidx p l < 0 then l.length else (fidx p l).toNat + 1
set_option maxHeartbeats 800000 in
theorem indexFunc_eff (p : Pk → Bool) (fn : Nat) (lb : Array Value) (A : Option Addr) (c : Nat) (l : List Pk) (w : World) (base g : Nat) (J : Nat → World → Prop) (hO : Own Pk.cells 6 w base 30 (.slice A l.length c) l) (hob : ∀ b, ob A = some b → b = g)
    (eg : ∀ args w, (callFunc fn args).run Try.prog w = .ok (.enter fn args) w) (hp : EffB fn lb p l g J) (h0 : J 0 w) :
    Calls Try.prog 76 #[.slice A l.length c, .func (.func fn) #[] lb] w fun e w' => e = .returned (.int .i64 (fidx p l)) ∧ J (asked p l) w' ∧ w'.heap[g]? = w.heap[g]? := by
  have HO := Lib.hid hO
  have hb := hO.pkAt.row.1
  have HP := Lib.hid hp
  have HJ := Lib.hid h0
  have HB := Lib.hid hob
  have hat : ∀ W : World, W.heap[g]? = w.heap[g]? → PkAt W A c l := fun W hW => (HO.out.block (w1 := W) fun b hbb => by rw [ob_eq] at hbb; rw [HB.out b hbb]; exact hW).pkAt
  have HAT := Lib.hid hat
  clear hO hp h0 hob hat
  go_enter Try.func76, Try.ntmps76
  go_wp2
  go_loopw [5, 8] (fun u v wr => ∃ i : Nat, v = .int .i64 i ∧ i ≤ l.length ∧ Hid (∀ j : Int, 0 ≤ j → j < i → p (gp l j) = false) ∧ Hid (J i wr) ∧ Hid (wr.heap[g]? = w.heap[g]?)) (fun u v _ => (l.length - (intOf v)).toNat)
  case atStart => exact ⟨0, rfl, by omega, fun j h0 h1 => by omega, HJ.out, rfl⟩
  case round =>
    obtain ⟨i, rfl, hle, HN, HI, HG⟩ := hrel
    by_cases hlt : i < l.length
    · obtain ⟨ad, rfl, c0, c1, c2, c3, c4, c5⟩ := (HAT.out wr HG.out).row.pk i (by omega) (by omega)
      rw [Int.toNat_natCast] at c0 c1 c2 c3 c4 c5
      have hcall := HP.out.call i wr wr hlt HI.out (Below.refl _ _)
      obtain ⟨y, hy⟩ : ∃ y, p (gp l i) = y := ⟨_, rfl⟩
      rw [hy] at hcall
      have HY := Lib.hid hy
      clear hy
      have hli : decide ((i : Int) < l.length) = true := by simp; omega
      cases y
      · go_wp2_with (go_at_fn fn; refine hcall.mono ?_; rintro e w' ⟨rfl, hJ', hk'⟩)
        go_roundw
        case rel => exact ⟨i + 1, by simp, by omega, fun j a b => by
          by_cases hj : j = i
          · rw [hj]; exact HY.out
          · exact HN.out j a (by omega), hJ', (hk' g (.inl rfl)).trans HG.out⟩
        case measure => simp [intOf]; omega
      · go_wp2_with (go_at_fn fn; refine hcall.mono ?_; rintro e w' ⟨rfl, hJ', hk'⟩)
        go_ret
        have hx : fidx p l = i := fidx_hit (by omega) (by omega) HY.out HN.out
        exact ⟨ret_int hx.symm, by unfold asked; rw [hx, if_neg (by omega)]; exact hJ', (hk' g (.inl rfl)).trans HG.out⟩
    · have hli : decide ((i : Int) < l.length) = false := by simp; omega
      go_wp2
      go_ret
      have hx : fidx p l = -1 := fidx_miss fun j a b => HN.out j a (by omega)
      exact ⟨ret_int hx.symm, by unfold asked; rw [hx, if_pos (by omega), show l.length = i from by omega]; exact HI.out, HG.out⟩

theorem RowAt.pk0 {w : World} {g : Nat} {l : List Pk} (h : RowAt Pk.cells 6 w (some ⟨g, 0, none⟩) l) (i : Nat) (hi : i < l.length) :
    w.cell? ⟨g, i * 6, none⟩ = some (.int .i64 (gp l i).id) ∧ w.cell? ⟨g, i * 6 + 1, none⟩ = some (.int .i64 (gp l i).dst) ∧ w.cell? ⟨g, i * 6 + 2, none⟩ = some (.int .i64 (gp l i).pr) ∧ w.cell? ⟨g, i * 6 + 3, none⟩ = some (.int .i64 (gp l i).born) ∧ w.cell? ⟨g, i * 6 + 4, none⟩ = some (.int .i64 (gp l i).life) ∧ w.cell? ⟨g, i * 6 + 5, none⟩ = some (.string (gp l i).data) := by
  obtain ⟨ad, e, hc⟩ := h.2 (by omega)
  cases e
  have hx : l[i]? = some (gp l i) := by have := gp_get (l := l) (i := i) (by omega) (by omega); rwa [Int.toNat_natCast] at this
  have hadd : ∀ j, (⟨g, 0, none⟩ : Addr).add j = ⟨g, j, none⟩ := fun j => by unfold Addr.add; split <;> simp_all
  have hc := hc i _ hx
  exact ⟨by rw [← hadd]; exact hc 0 _ rfl, by rw [← hadd]; exact hc 1 _ rfl, by rw [← hadd]; exact hc 2 _ rfl, by rw [← hadd]; exact hc 3 _ rfl, by rw [← hadd]; exact hc 4 _ rfl, by rw [← hadd]; exact hc 5 _ rfl⟩
theorem Own.blk {w : World} {base g c : Nat} {m : List Pk} {e : TypeId} (h : Own Pk.cells 6 w base e (.slice (some ⟨g, 0, none⟩) m.length c) m) (hpos : 0 < m.length) : ∃ cur, w.heap[g]? = some (.cells cur e (0, 0)) ∧ cur.size = c * 6 ∧ cur.toList.take (m.length * 6) = m.flatMap Pk.cells ∧ base ≤ g ∧ m.length ≤ c ∧ c ≤ maxLen := by
  rcases h.2 with ⟨he, h0⟩ | ⟨g', cap, cur, he, hb, hg, hn, hc, hcs, ht⟩
  · omega
  · cases he
    exact ⟨cur, hg, hcs, ht, hb, hn, hc⟩
theorem Own.some {w : World} {base : Nat} {A : Option Addr} {c : Nat} {l : List Pk} {e : TypeId} (h : Own Pk.cells 6 w base e (.slice A l.length c) l) (hpos : 0 < l.length) : ∃ g, A = some ⟨g, 0, none⟩ := by
  rcases h.2 with ⟨he, h0⟩ | ⟨g', cap, cur, he, hb, hg, hn, hc, hcs, ht⟩
  · omega
  · cases he
    exact ⟨g', rfl⟩
def kept (p : Pk → Bool) (l : List Pk) : List Pk := l.filter fun x => !p x
theorem kept_all {p : Pk → Bool} {l : List Pk} (h : ∀ j : Int, 0 ≤ j → j < l.length → p (gp l j) = false) : kept p l = l := by
  unfold kept
  rw [List.filter_eq_self]
  intro x hx
  obtain ⟨j, hj, rfl⟩ := List.getElem_of_mem hx
  have := h j (by omega) (by omega)
  rw [gp_elem hj] at this
  rw [this]; rfl
theorem take_next {l : List Pk} {j : Nat} (h : j < l.length) : l.take (j + 1) = l.take j ++ [gp l j] := by
  rw [List.take_add_one, gp_elem h, List.getElem?_eq_getElem h]; rfl
theorem kept_next {p : Pk → Bool} {l : List Pk} {j : Nat} (h : j < l.length) : kept p (l.take (j + 1)) = kept p (l.take j) ++ if p (gp l j) = true then [] else [gp l j] := by
  unfold kept
  rw [take_next h, List.filter_append]
  congr 1
  cases hp : p (gp l j) <;> simp [hp]
theorem kept_le (p : Pk → Bool) (l : List Pk) (j : Nat) : (kept p (l.take j)).length ≤ j := by
  unfold kept
  have h1 := List.length_filter_le (fun x => !p x) (l.take j)
  rw [List.length_take] at h1; omega
/-- A row under deletion: i kept of the first j; from j on as it was. -/
structure Mid (p : Pk → Bool) (l m : List Pk) (j : Nat) : Prop where
  len : m.length = l.length
  lt : (kept p (l.take j)).length < j
  le : j ≤ l.length
  head : m.take (kept p (l.take j)).length = kept p (l.take j)
  tail : m.drop j = l.drop j
theorem Mid.at {p : Pk → Bool} {l m : List Pk} {j : Nat} (h : Mid p l m j) (hj : j < l.length) : gp m j = gp l j := by
  have h1 := congrArg (fun x => x[0]?) h.tail
  simp only [List.getElem?_drop, Nat.add_zero] at h1
  rw [gp_elem hj, gp_elem (by rw [h.len]; exact hj)]
  rw [List.getElem?_eq_getElem hj, List.getElem?_eq_getElem (by rw [h.len]; exact hj)] at h1
  injection h1
theorem Mid.drop {p : Pk → Bool} {l m : List Pk} {j : Nat} (h : Mid p l m j) (hj : j < l.length) (hp : p (gp l j) = true) : Mid p l m (j + 1) := by
  have hk : kept p (l.take (j + 1)) = kept p (l.take j) := by rw [kept_next hj, if_pos hp, List.append_nil]
  refine ⟨h.len, by rw [hk]; have := h.lt; omega, hj, by rw [hk]; exact h.head, ?_⟩
  have := congrArg (List.drop 1) h.tail
  rwa [List.drop_drop, List.drop_drop] at this
theorem Mid.keep {p : Pk → Bool} {l m : List Pk} {j : Nat} (h : Mid p l m j) (hj : j < l.length) (hp : p (gp l j) = false) : Mid p l (m.set (kept p (l.take j)).length (gp l j)) (j + 1) := by
  have hk : kept p (l.take (j + 1)) = kept p (l.take j) ++ [gp l j] := by rw [kept_next hj, if_neg (by rw [hp]; simp)]
  have hlt := h.lt
  have hle := h.le
  have hlen := h.len
  refine ⟨by rw [List.length_set]; exact h.len, by rw [hk, List.length_append]; simp only [List.length_cons, List.length_nil]; omega, hj, ?_, ?_⟩
  · rw [hk, List.length_append, List.length_cons, List.length_nil, List.take_add_one, List.take_set_of_le (by omega), h.head, List.getElem?_set_self (by omega)]; rfl
  · rw [List.drop_set_of_lt (by omega)]
    have := congrArg (List.drop 1) h.tail
    rwa [List.drop_drop, List.drop_drop] at this
end Go.Proofs.Ytckanomabhbkaaa
