/- Departures; Serve's predicate, which appends to the departures. -/
import Derived.Test.YtckanomabhbkaaaQF2
import Derived.Test.YtckanomabhbkaaaQS
namespace Go.Proofs.Ytckanomabhbkaaa
open Go.RowKit Go.Shelf
set_option linter.unusedVariables false

structure Dp where
  id : Int
  slot : Int
  dropped : Bool
def Dp.cells (d : Dp) : List Value := [.int .i64 d.id, .int .i64 d.slot, .bool d.dropped]
theorem Dp.cells_len (d : Dp) : d.cells.length = 3 := rfl
theorem Dp.cells_one (d : Dp) : ∀ u ∈ d.cells, u.oneCell' = true := by
  intro u hu
  simp only [Dp.cells, List.mem_cons, List.not_mem_nil, or_false] at hu
  rcases hu with rfl | rfl | rfl <;> rfl
theorem info46 : (Try.prog.info? 46).map (fun i => (i.zero, i.size, i.bytes)) = some (some (.agg #[(.int .i64 0), (.int .i64 0), (.bool false)]), 3, 24) := by kernel_rfl
/-- The departures of the stale ones. -/
def deps (s : Int) (l : List Pk) : List Dp := (l.filter fun p => staleB p s).map fun p => ⟨p.id, s, true⟩
theorem deps_next {s : Int} {l : List Pk} {k : Nat} (h : k < l.length) : deps s (l.take (k + 1)) = deps s (l.take k) ++ if staleB (gp l k) s = true then [⟨(gp l k).id, s, true⟩] else [] := by
  unfold deps
  rw [take_next h, List.filter_append, List.map_append]
  congr 1
  cases hp : staleB (gp l k) s <;> simp [hp]
theorem deps_le (s : Int) (l : List Pk) (k : Nat) : (deps s (l.take k)).length ≤ k := by
  unfold deps
  rw [List.length_map]
  have h1 := List.length_filter_le (fun p => staleB p s) (l.take k)
  rw [List.length_take] at h1; omega

/-- What stands while Serve deletes the stale ones: o0 the departures before, sb the slot's block, ub the block of the departures' variable. -/
structure SvJ (w0 : World) (q r sb ub g : Nat) (oq : Obj) (s : Int) (l : List Pk) (o0 : List Dp) (k : Nat) (W : World) : Prop where
  bel : Below w0.heap.size w0 W
  bq : W.heap[q]? = some oq
  br : W.heap[r]? = some (.cells #[.int .i64 0, .slice none 0 0] 24 (0, 0))
  bs : W.heap[sb]? = some (.cells #[.int .i64 s] 3 (0, 0))
  glt : l.length = 0 ∨ g < W.heap.size
  out : ∃ A c, W.heap[ub]? = some (.cells #[.slice A (o0 ++ deps s (l.take k)).length c] 41 (0, 0)) ∧ Own Dp.cells 3 W w0.heap.size 46 (.slice A (o0 ++ deps s (l.take k)).length c) (o0 ++ deps s (l.take k)) ∧ ob A ≠ some g
def staleP (s : Int) : Pk → Bool := fun p => staleB p s
set_option maxHeartbeats 1600000 in
theorem serve1_eff (w0 : World) (q r sb ub g : Nat) (oq : Obj) (s : Int) (l : List Pk) (o0 : List Dp) (hq : w0.heap.size ≤ q ∧ q ≠ ub ∧ q ≠ g) (hrr : w0.heap.size ≤ r ∧ r ≠ ub ∧ r ≠ g) (hs : w0.heap.size ≤ sb ∧ sb ≠ ub ∧ sb ≠ g) (hu : w0.heap.size ≤ ub ∧ ub ≠ g) (hg : w0.heap.size ≤ g)
    (hoq : ∃ cs, oq = .cells cs 24 (0, 0)) (hlen : o0.length + l.length ≤ 64) :
    EffB 80 #[.pointer (some ⟨sb, 0, none⟩), .pointer (some ⟨ub, 0, none⟩)] (staleP s) l g (SvJ w0 q r sb ub g oq s l o0) := by
  constructor
  · intro k W W1 hk hJ hb
    obtain ⟨cs, rfl⟩ := hoq
    obtain ⟨A, c, hout, hown, hne⟩ := hJ.out
    obtain ⟨o, hoo⟩ : ∃ o, o = o0 ++ deps s (l.take k) := ⟨_, rfl⟩
    rw [← hoo] at hout hown
    have HOO := Lib.hid hoo
    have hlt3 : o.length + 1 ≤ 65 := by rw [hoo, List.length_append]; have := deps_le s l k; omega
    clear hoo
    have hq1 := blk_below hJ.bq hb (blk_lt hJ.bq)
    have hr1 := blk_below hJ.br hb (blk_lt hJ.br)
    have hs1 := blk_below hJ.bs hb (blk_lt hJ.bs)
    have hu1 := blk_below hout hb (blk_lt hout)
    have hgW : g < W.heap.size := by rcases hJ.glt with h | h <;> omega
    have hg1 : g < W1.heap.size := Nat.lt_of_lt_of_le hgW hb.size
    have ho1 := hown.below hb (Nat.le_refl _)
    have hbl := hJ.bel.trans (hb.mono hJ.bel.size)
    have HD := Lib.hid (deps_next (s := s) hk)
    have HDL := Lib.hid (deps_le s l k)
    have hsb1 := blk_lt hs1
    have hub1 := blk_lt hu1
    have hsz := hb.size
    have hWu : ub < W.heap.size := blk_lt hout
    obtain ⟨W2, hW2⟩ : ∃ W2, W2 = W1.alloc (.cells #[.int .i64 (gp l k).id, .int .i64 (gp l k).dst, .int .i64 (gp l k).pr, .int .i64 (gp l k).born, .int .i64 (gp l k).life, .string (gp l k).data] 30) := ⟨_, rfl⟩
    obtain ⟨x, hx⟩ : ∃ x, staleB (gp l k) s = x := ⟨_, rfl⟩
    have cs1 : W1.cell? ⟨sb, 0, none⟩ = some (.int .i64 s) := blk_cell hs1 0
    have n1 : ¬ sb = W1.heap.size := by omega
    have HX := Lib.hid hx
    show Calls Try.prog 80 #[.agg #[.int .i64 (gp l k).id, .int .i64 (gp l k).dst, .int .i64 (gp l k).pr, .int .i64 (gp l k).born, .int .i64 (gp l k).life, .string (gp l k).data], .pointer (some ⟨sb, 0, none⟩), .pointer (some ⟨ub, 0, none⟩)] W1 fun e w' => e = .returned (.bool (staleB (gp l k) s)) ∧ SvJ w0 q r sb ub g (.cells cs 24) s l o0 (k + 1) w' ∧ ∀ b, (b = g ∨ (W.heap.size ≤ b ∧ b < W1.heap.size)) → w'.heap[b]? = W1.heap[b]?
    rw [hx] at HD ⊢
    cases x
    · go_enter Try.func80, Try.ntmps80
      go_wp2_with fail
      refine (stale_any (gp l k) s _).mono ?_
      rintro e w2 ⟨rfl, hb2⟩
      rw [HX.out]
      have hb3 : Below W1.heap.size W1 w2 := ((Below.refl _ _).alloc (Nat.le_refl _) _).trans (hb2.mono (by simp))
      have HB3 := Lib.hid hb3
      clear hb2 hb3
      go_wp2
      go_ret
      have hz := HB3.out.size
      refine ⟨rfl, ⟨hbl.trans (HB3.out.mono (by have := hbl.size; omega)), blk_below hq1 HB3.out (blk_lt hq1), blk_below hr1 HB3.out (blk_lt hr1), blk_below hs1 HB3.out hsb1, .inr (by omega), A, c, ?_⟩, fun b hbb => HB3.out.block b (by omega)⟩
      rw [HD.out]
      simp only [Bool.false_eq_true, if_false, List.append_nil]
      rw [← HOO.out]
      exact ⟨blk_below hu1 HB3.out hub1, ho1.below HB3.out (Nat.le_refl _), hne⟩
    · go_enter Try.func80, Try.ntmps80
      go_wp2_with fail
      refine (stale_any (gp l k) s _).mono ?_
      rintro e w2 ⟨rfl, hb2⟩
      rw [HX.out]
      have hbx : w2.heap[W1.heap.size]? = some (.cells #[.int .i64 (gp l k).id, .int .i64 (gp l k).dst, .int .i64 (gp l k).pr, .int .i64 (gp l k).born, .int .i64 (gp l k).life, .string (gp l k).data] 30 (0, 0)) := blk_below (blk_new W1 _ rfl) hb2 (by simp)
      have q0 := (box6 hbx).1
      have HB3 := Lib.hid (((Below.refl _ _).alloc (o := .cells #[.int .i64 (gp l k).id, .int .i64 (gp l k).dst, .int .i64 (gp l k).pr, .int .i64 (gp l k).born, .int .i64 (gp l k).life, .string (gp l k).data] 30) (Nat.le_refl W1.heap.size)).trans (hb2.mono (by simp)))
      have hz2 : W1.heap.size + 1 ≤ w2.heap.size := by have := hb2.size; simpa using this
      have u0 : w2.cell? ⟨ub, 0, none⟩ = some (.slice A o.length c) := blk_cell (blk_below hu1 HB3.out hub1) 0
      have u1 : w2.frozen? ⟨ub, 0, none⟩ = false := blk_free (blk_below hu1 HB3.out hub1) 0
      have s0 : w2.cell? ⟨sb, 0, none⟩ = some (.int .i64 s) := blk_cell (blk_below hs1 HB3.out hsb1) 0
      have n2 : ¬ sb = w2.heap.size := by omega
      have n3 : ¬ ub = w2.heap.size := by omega
      have HO2 := Lib.hid (ho1.below HB3.out (Nat.le_refl _))
      have HL3 := Lib.hid hlt3
      have hbsz := hbl.size
      have hu2 := blk_below hu1 HB3.out hub1
      have hnu := HO2.out.ne hu2 (by decide)
      clear hb2 hbx cs1
      go_wp2_with (at_builtin; refine Own.append Dp.cells_len Dp.cells_one rfl _ _ 41 46 _ 24 rfl Try.underlying41 info46 rfl (by decide) (by decide) (.slice A o.length c) o rfl (base := w0.heap.size) (HO2.out.alloc _) ⟨w2.heap.size, 0, none⟩ [⟨(gp l k).id, s, true⟩] 1 rfl (RowAt.new _ _ _ _ rfl) (by simp; omega) (by have := HL3.out; simp only [List.length_cons, List.length_nil]; omega) ?_; intro v1 w1 hown3 hg3 hat; (have hfm := hown3.form); obtain ⟨A1, c1, rfl, _, _⟩ := hfm; (have hub3 : w1.heap[ub]? = some (.cells #[.slice A o.length c] 41 (0, 0)) := (hg3.block ub (by simp; omega) (fun e => hnu e.symm)).trans (blk_old hu2 _)); (have u2 : w1.cell? ⟨ub, 0, none⟩ = some (.slice A o.length c) := blk_cell hub3 0); (have u3 : w1.frozen? ⟨ub, 0, none⟩ = false := blk_free hub3 0); (have HOW3 := Lib.hid hown3); (have HG3 := Lib.hid hg3); (have HAT := Lib.hid hat); clear hown3 hg3 hat)
      go_ret
      have hkeep : ∀ b x, w2.heap[b]? = some x → b ≠ ub → (Value.slice A o.length c).ownBlock ≠ some b → (w1.setCell ⟨ub, 0, none⟩ (.slice A1 (o.length + 1) c1)).heap[b]? = some x := fun b x hx h1 h2 => by
        rw [Below.heap_setCell w1 ⟨ub, 0, none⟩ _ b h1]
        exact (HG3.out.block b (by have := blk_lt hx; simp; omega) (fun e => h2 e.symm)).trans (blk_old hx _)
      have hq2 := blk_below hq1 HB3.out (blk_lt hq1)
      have hr2 := blk_below hr1 HB3.out (blk_lt hr1)
      have hs2 := blk_below hs1 HB3.out (blk_lt hs1)
      have hkeep2 : ∀ b, b < W1.heap.size → b ≠ ub → (Value.slice A o.length c).ownBlock ≠ some b → (w1.setCell ⟨ub, 0, none⟩ (.slice A1 (o.length + 1) c1)).heap[b]? = W1.heap[b]? := fun b hb1 h1 h2 => by
        have hx : W1.heap[b]? = some W1.heap[b] := Array.getElem?_eq_getElem hb1
        rw [hx]
        exact hkeep b _ (blk_below hx HB3.out hb1) h1 h2
      have hsz3 : w2.heap.size + 1 ≤ w1.heap.size := by have := HG3.out.size; simpa using this
      refine ⟨rfl, ⟨?_, hkeep q _ hq2 hq.2.1 (HO2.out.ne hq2 (by decide)), hkeep r _ hr2 hrr.2.1 (HO2.out.ne hr2 (by decide)), hkeep sb _ hs2 hs.2.1 (HO2.out.ne hs2 (by decide)), .inr (by simp [World.setCell]; omega), A1, c1, ?_⟩, fun b hbb => ?_⟩
      · exact ((((hbl.trans (HB3.out.mono hbsz)).alloc (by omega) _).grown HG3.out (by simp; omega) (fun b e => (HO2.out.lt e).1)).setCell hu.1 _)
      · have e5 : (o ++ [(⟨(gp l k).id, s, true⟩ : Dp)]).length = o.length + 1 := by simp
        rw [HD.out]
        simp only [if_true]
        rw [← List.append_assoc, ← HOO.out, ← e5]
        exact ⟨set1_at hub3 0 _, HOW3.out.setCell (HOW3.out.ne hub3 (by decide)) _, by
          rcases HAT.out with h | h
          · rw [ob_eq, ob_eq] at h; rw [h]; exact hne
          · rw [ob_eq] at h; rw [h]; intro e; injection e with e; simp at e; omega⟩
      · rcases hbb with rfl | ⟨h1, h2⟩
        · exact hkeep2 b hg1 (fun e => hu.2 e.symm) (by rw [ob_eq]; exact hne)
        · exact hkeep2 b h2 (by omega) (fun e => by have := (hown.lt e).2; omega)
  · intro k W W' hJ hg2 hsz
    have hh : ∀ b, b ≠ g → ∀ o, W.heap[b]? = some o → W'.heap[b]? = some o := fun b hne o ho => (hg2.block b (blk_lt ho) (fun e => hne (by injection e))).trans ho
    obtain ⟨A, c, h1, h2, h3⟩ := hJ.out
    exact ⟨hJ.bel.grown hg2 hJ.bel.size (fun k e => by cases e; exact hg), hh q hq.2.2 _ hJ.bq, hh r hrr.2.2 _ hJ.br, hh sb hs.2.2 _ hJ.bs, by rw [hsz]; exact hJ.glt, A, c, hh ub hu.2 _ h1, h2.block fun b hbb => by
      rw [ob_eq] at hbb
      exact hg2.block b (h2.lt (by rw [ob_eq]; exact hbb)).2 (fun e => h3 (by rw [hbb, e])), h3⟩
end Go.Proofs.Ytckanomabhbkaaa
