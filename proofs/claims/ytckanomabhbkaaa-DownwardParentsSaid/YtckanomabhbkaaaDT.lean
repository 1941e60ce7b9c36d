/- twice of the program, walked: arrays of marks. -/
import Derived.Test.YtckanomabhbkaaaDH
import Derived.Test.YtckanomabhbkaaaQMem
import Derived.ChangeKeysEq
import Derived.Laws.Rows
namespace Go.Proofs.Ytckanomabhbkaaa
open Go.RowKit Go.Shelf
set_option linter.unusedVariables false
/-- Thirty-two marks: those of the numbers of a list. -/
def bitsL (l : List Int) : List Value := (List.range 32).map (fun i : Nat => Value.bool (decide ((i : Int) ∈ l)))
def bitsOf (l : List Int) : Array Value := (bitsL l).toArray
theorem bits_size (l : List Int) : (bitsOf l).size = 32 := by simp [bitsOf, bitsL]
theorem bits_get (l : List Int) {i : Nat} (h : i < 32) : (bitsOf l)[i]? = some (.bool (decide ((i : Int) ∈ l))) := by
  simp [bitsOf, bitsL, List.getElem?_map, List.getElem?_range h]
theorem bits_one (l : List Int) : (bitsOf l).all (·.oneCell') = true := by
  simp [bitsOf, bitsL, Value.oneCell']
theorem bits_nil : bitsOf [] = (List.replicate 32 (Value.bool false)).toArray := by
  unfold bitsOf bitsL
  simp only [List.not_mem_nil, decide_false]
  rfl
theorem bits_set (l : List Int) {n : Nat} (h : n < 32) : (bitsOf l).setIfInBounds n (.bool true) = bitsOf (l ++ [(n : Int)]) := by
  apply Array.ext_getElem?
  intro i
  rw [Array.getElem?_setIfInBounds]
  by_cases hi : i < 32
  · by_cases hn : n = i
    · subst hn
      rw [if_pos rfl, if_pos (by rw [bits_size]; exact hi), bits_get _ hi]
      simp
    · rw [if_neg hn, bits_get _ hi, bits_get _ hi]
      have : ((i : Int) ∈ l) ↔ ((i : Int) ∈ l ++ [(n : Int)]) := by
        rw [List.mem_append, List.mem_singleton]
        constructor
        · exact .inl
        · rintro (h | h)
          · exact h
          · omega
      simp only [this]
  · have h1 : ∀ l, (bitsOf l)[i]? = none := fun l => Array.getElem?_eq_none (by rw [bits_size]; omega)
    rw [h1, h1]
    by_cases hn : n = i
    · omega
    · rw [if_neg hn]
theorem bits_same {l m : List Int} (h : ∀ x, x ∈ l ↔ x ∈ m) : bitsOf l = bitsOf m := by
  unfold bitsOf bitsL
  simp only [h]
theorem bits_eqItems {P : Program} (d : Nat) (w : World) (f g : Nat → Bool) (xs ys : Array Value) (is : List Nat) (hb : P.underlying 4 = some .bool) (hx : ∀ i ∈ is, xs[i]? = some (.bool (f i))) (hy : ∀ i ∈ is, ys[i]? = some (.bool (g i))) :
    (Op.eqItems (d + 1) 4 1 xs ys is).run P w = .ok (is.all (fun i => f i == g i)) w := by
  induction is with
  | nil => simp [Op.eqItems]
  | cons i is ih =>
    have h1 := hx i (by simp)
    have h2 := hy i (by simp)
    have ih := ih (fun j hj => hx j (by simp [hj])) (fun j hj => hy j (by simp [hj]))
    have hp : ∀ (zs : Array Value) (b : Bool), zs[i]? = some (.bool b) → (part 4 zs (i * 1)).run P w = .ok (.bool b) w := by
      intro zs b hz
      rw [Nat.mul_one]
      exact run_part_plain w (by simp [Program.plainKey, hb]) hz
    have he : (Op.equalIn (d + 1) 4 (.bool (f i)) (.bool (g i))).run P w = .ok (f i == g i) w := by
      simp [Op.equalIn, run_underlying hb]
    simp only [Op.eqItems, Sem.run_bind, hp xs _ h1, hp ys _ h2, he, Result.andThen_ok]
    cases hfg : (f i == g i)
    · simp [hfg]
    · simp [hfg, ih]
theorem info128 : (Try.prog.info? 128).map (·.size) = some 32 := by kernel_rfl
def sameBits (a b : List Int) : Bool := (List.range 32).all (fun i : Nat => decide ((i : Int) ∈ a) == decide ((i : Int) ∈ b))
theorem sameBits_add {l : List Int} {x : Nat} (h : x < 32) : sameBits l (l ++ [(x : Int)]) = decide ((x : Int) ∈ l) := by
  unfold sameBits
  by_cases hx : (x : Int) ∈ l
  · rw [decide_eq_true hx, List.all_eq_true]
    intro i _
    have : ((i : Int) ∈ l ++ [(x : Int)]) ↔ (i : Int) ∈ l := by
      rw [List.mem_append, List.mem_singleton]
      constructor
      · rintro (h | h)
        · exact h
        · rw [h]; exact hx
      · exact .inl
    simp only [this]
    simp
  · rw [decide_eq_false hx, List.all_eq_false]
    refine ⟨x, by simp; exact h, ?_⟩
    simp [hx]
theorem eqA128 (d : Nat) (w : World) (a b : List Int) : (Op.equalIn (d + 2) 128 (.agg (bitsOf a)) (.agg (bitsOf b))).run Try.prog w = .ok (sameBits a b) w := by
  obtain ⟨i, hi⟩ : ∃ i, Try.prog.info? 4 = some i := by
    have : (Try.prog.info? 4).isSome = true := by kernel_rfl
    exact Option.isSome_iff_exists.1 this
  have hs : Try.prog.cellsOf 4 = 1 := by kernel_rfl
  rw [run_equalIn_array w (d + 1) _ _ Try.underlying128 hi, hs]
  exact bits_eqItems d w (fun i => decide ((i : Int) ∈ a)) (fun i => decide ((i : Int) ∈ b)) _ _ _ Try.underlying4 (fun i hi => bits_get a (by simpa using hi)) (fun i hi => bits_get b (by simpa using hi))
theorem wpList_store_whole {P : Program} {ops : Array Oper} {rest : List Oper} {o : Oper} {a : Act} {w : World} {Q : Exit → Act → World → Prop} (hgd : o.guard = none) (ty : TypeId) (x y : Operand) (ho : o.op = .store ty x y)
    (g : Nat) (cells : Array Value) (hx : a.eval x = .pointer (some ⟨g, 0, none⟩)) (hy : a.eval y = .agg cells)
    (t : TypeId) (old : Array Value) (hg : w.heap[g]? = some (.cells old t (0, 0))) (hi : (P.info? ty).map (·.size) = some cells.size)
    (hold : old.size = cells.size) (h1 : cells.all (·.oneCell') = true)
    (h : ∀ w3, w.grownBy w3 (some g) → w3.heap[g]? = some (.cells cells t (0, 0)) → wpList P ops Q rest (a.put o.dst undef) w3) : wpList P ops Q (o :: rest) a w :=
  wpList_store_row hgd ty x y ho g cells hx hy t old hg hi hold h1 (h _ (setRow_grown w g cells) (setRow_heap w g old cells t (0, 0) hg))
theorem set1_any {w : World} {g : Nat} {cur : Array Value} {t : TypeId} {fr : Nat × Nat} (h : w.heap[g]? = some (.cells cur t fr)) (o : Nat) (v : Value) : (w.setCell ⟨g, o, none⟩ v).heap[g]? = some (.cells (cur.setIfInBounds o v) t fr) := by
  have hm : (w.setCell ⟨g, o, none⟩ v).heap[g]? = (w.heap[g]?).map (fun | .cells c elem frozen => .cells (c.setIfInBounds o v) elem frozen | o => o) := by
    simp [World.setCell, Array.getElem?_modify]
    rfl
  rw [hm, h]; rfl
theorem take_succ_getD {l : List Int} {k : Nat} (h : k < l.length) : l.take (k + 1) = l.take k ++ [l.getD k 0] := by
  rw [List.take_succ_eq_append_getElem h, List.getD_eq_getElem?_getD, List.getElem?_eq_getElem h]; rfl
attribute [local go_sem high] eqA128
set_option maxHeartbeats 1600000 in
theorem twice_any (A : Option Addr) (c : Nat) (l : List Int) (w : World) (hr : RowAt intc 1 w A l) (hin : ∀ x ∈ l, 0 ≤ x ∧ x < 32) :
    Calls Try.prog 95 #[.slice A l.length c] w fun e w' => e = .returned (.bool (dupB l)) ∧ Below w.heap.size w w' := by
  have HR := Lib.hid hr
  have HIN := Lib.hid hin
  have hb := hr.1
  clear hr hin
  have HND := Lib.hid (show (l.take 0).Nodup by rw [List.take_zero]; exact List.nodup_nil)
  go_enter Try.func95, Try.ntmps95
  go_wp2
  go_loopw [9] (fun v wr => ∃ k : Nat, v = .int .i64 k ∧ k ≤ l.length ∧ Hid (wr.heap[w.heap.size]? = some (.cells (bitsOf (l.take k)) 128 (0, 0))) ∧ Hid (Below w.heap.size w wr) ∧ Hid (l.take k).Nodup) (fun v _ => (l.length - (intOf v)).toNat)
  case atStart => exact ⟨0, rfl, by omega, by rw [List.take_zero, bits_nil]; exact blk_new w _ rfl, (Below.refl _ _).alloc (Nat.le_refl _) _, HND.out⟩
  case round =>
    obtain ⟨k, rfl, hk, HV, HB, HN⟩ := hrel
    by_cases hlt : k < l.length
    · obtain ⟨ad, rfl, c0⟩ := (HR.out.below HB.out).int k hlt
      have bk : decide ((k : Int) < l.length) = true := by simp; omega
      have g1 : (0 : Int) ≤ k := by omega
      have g2 : (k : Int) < l.length := by omega
      obtain ⟨x, hx⟩ : ∃ x : Nat, l.getD k 0 = x := by
        have := HIN.out (l.getD k 0) (by rw [List.getD_eq_getElem?_getD, List.getElem?_eq_getElem hlt]; exact List.getElem_mem _)
        exact ⟨(l.getD k 0).toNat, by omega⟩
      rw [hx] at c0
      have hx32 : (x : Int) < 32 := by
        have := HIN.out (l.getD k 0) (by rw [List.getD_eq_getElem?_getD, List.getElem?_eq_getElem hlt]; exact List.getElem_mem _)
        omega
      have hx0 : (0 : Int) ≤ x := by omega
      obtain ⟨T, hT⟩ : ∃ T, l.take k = T := ⟨_, rfl⟩
      have HT1 := Lib.hid (show l.take (k + 1) = T ++ [(x : Int)] by rw [take_succ_getD hlt, hT, hx])
      rw [hT] at HV HN
      have HT := Lib.hid hT
      clear hx hT
      have hltw : w.heap.size < wr.heap.size := blk_lt HV.out
      have hne : ¬ w.heap.size = wr.heap.size := by omega
      have go2 : ∀ b : Bool, sameBits T (T ++ [(x : Int)]) = b → True := fun _ _ => trivial
      by_cases hxT : (x : Int) ∈ T
      · have sb : sameBits T (T ++ [(x : Int)]) = true := by rw [sameBits_add (by omega)]; simpa using hxT
        have HD := Lib.hid (show dupB l = true by
          rw [dupB_yes]
          intro hn
          have h1 : (l.take (k + 1)).Nodup := hn.sublist (List.take_sublist _ _)
          rw [HT1.out, List.nodup_append] at h1
          exact h1.2.2 _ hxT _ (by simp) rfl)
        clear hxT go2
        go_wp2_with (first | (refine wpList_load_row rfl 128 (.tmp 3) rfl w.heap.size rfl 128 (bitsOf T) (0, 0) (.array 32 4) HV.out Try.underlying128 rfl (by rw [bits_size]; exact info128) ?_) | (refine wpList_store_whole rfl 128 (.tmp 6) (.tmp 13) rfl wr.heap.size (bitsOf T) rfl rfl 128 _ (blk_new wr _ rfl) (by rw [bits_size]; exact info128) (by rw [bits_size]; rfl) (bits_one _) ?_; intro w3 hg3 hv3; (have HV3 := Lib.hid ((hg3.block w.heap.size (by simp; omega) (by simpa using hne)).trans (blk_old HV.out _))); (have HB3 := Lib.hid ((HB.out.alloc HB.out.size _).grown hg3 (by simp; omega) (fun k e => by cases e; omega))); (have HC4 := Lib.hid (show (w3.setCell ⟨w.heap.size, x, none⟩ (.bool true)).heap[wr.heap.size]? = some (.cells (bitsOf T) 128 (0, 0)) from (Below.heap_setCell w3 ⟨w.heap.size, x, none⟩ (.bool true) wr.heap.size (Ne.symm hne)).trans hv3)); (have HV4 := Lib.hid (show (w3.setCell ⟨w.heap.size, x, none⟩ (.bool true)).heap[w.heap.size]? = some (.cells (bitsOf (T ++ [(x : Int)])) 128 (0, 0)) from by rw [← bits_set T (by omega)]; exact set1_any HV3.out x _)); (have HB5 := Lib.hid (HB3.out.setCell (p := ⟨w.heap.size, x, none⟩) (Nat.le_refl _) (.bool true))); clear hg3 hv3; (have q0 : w3.cell? ⟨w.heap.size, x, none⟩ = some (.bool (decide ((x : Int) ∈ T))) := (blk_cell HV3.out x).trans (bits_get T (by omega))); (have f0 := blk_free HV3.out x)) | (refine wpList_load_row rfl 128 (.tmp 6) rfl wr.heap.size rfl 128 (bitsOf T) (0, 0) (.array 32 4) HC4.out Try.underlying128 rfl (by rw [bits_size]; exact info128) ?_) | (refine wpList_load_row rfl 128 (.tmp 3) rfl w.heap.size rfl 128 (bitsOf (T ++ [(x : Int)])) (0, 0) (.array 32 4) HV4.out Try.underlying128 rfl (by rw [bits_size]; exact info128) ?_))
        go_ret
        exact ⟨ret_bool HD.out.symm, HB5.out⟩
      · have sb : sameBits T (T ++ [(x : Int)]) = false := by rw [sameBits_add (by omega)]; simpa using hxT
        have HN2 := Lib.hid (show (l.take (k + 1)).Nodup by
          rw [HT1.out, List.nodup_append]
          exact ⟨HN.out, by simp, fun a ha b hb e => by rw [List.mem_singleton] at hb; subst hb; exact hxT (e ▸ ha)⟩)
        clear hxT go2
        go_wp2_with (first | (refine wpList_load_row rfl 128 (.tmp 3) rfl w.heap.size rfl 128 (bitsOf T) (0, 0) (.array 32 4) HV.out Try.underlying128 rfl (by rw [bits_size]; exact info128) ?_) | (refine wpList_store_whole rfl 128 (.tmp 6) (.tmp 13) rfl wr.heap.size (bitsOf T) rfl rfl 128 _ (blk_new wr _ rfl) (by rw [bits_size]; exact info128) (by rw [bits_size]; rfl) (bits_one _) ?_; intro w3 hg3 hv3; (have HV3 := Lib.hid ((hg3.block w.heap.size (by simp; omega) (by simpa using hne)).trans (blk_old HV.out _))); (have HB3 := Lib.hid ((HB.out.alloc HB.out.size _).grown hg3 (by simp; omega) (fun k e => by cases e; omega))); (have HC4 := Lib.hid (show (w3.setCell ⟨w.heap.size, x, none⟩ (.bool true)).heap[wr.heap.size]? = some (.cells (bitsOf T) 128 (0, 0)) from (Below.heap_setCell w3 ⟨w.heap.size, x, none⟩ (.bool true) wr.heap.size (Ne.symm hne)).trans hv3)); (have HV4 := Lib.hid (show (w3.setCell ⟨w.heap.size, x, none⟩ (.bool true)).heap[w.heap.size]? = some (.cells (bitsOf (T ++ [(x : Int)])) 128 (0, 0)) from by rw [← bits_set T (by omega)]; exact set1_any HV3.out x _)); (have HB5 := Lib.hid (HB3.out.setCell (p := ⟨w.heap.size, x, none⟩) (Nat.le_refl _) (.bool true))); clear hg3 hv3; (have q0 : w3.cell? ⟨w.heap.size, x, none⟩ = some (.bool (decide ((x : Int) ∈ T))) := (blk_cell HV3.out x).trans (bits_get T (by omega))); (have f0 := blk_free HV3.out x)) | (refine wpList_load_row rfl 128 (.tmp 6) rfl wr.heap.size rfl 128 (bitsOf T) (0, 0) (.array 32 4) HC4.out Try.underlying128 rfl (by rw [bits_size]; exact info128) ?_) | (refine wpList_load_row rfl 128 (.tmp 3) rfl w.heap.size rfl 128 (bitsOf (T ++ [(x : Int)])) (0, 0) (.array 32 4) HV4.out Try.underlying128 rfl (by rw [bits_size]; exact info128) ?_))
        go_roundw
        case rel => exact ⟨k + 1, by simp, by omega, by rw [HT1.out]; exact HV4.out, HB5.out, HN2⟩
        case measure => simp [intOf]; omega
    · have bk : decide ((k : Int) < l.length) = false := by simp; omega
      obtain rfl : k = l.length := by omega
      have HD := Lib.hid (show dupB l = false by rw [dupB_no]; have := HN.out; rwa [List.take_of_length_le (Nat.le_refl _)] at this)
      go_wp2
      go_ret
      exact ⟨ret_bool HD.out.symm, HB.out⟩
end Go.Proofs.Ytckanomabhbkaaa
