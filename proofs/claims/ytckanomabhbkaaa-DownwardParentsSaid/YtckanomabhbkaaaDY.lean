/- Is a header right: the reference's walk. -/
import Derived.Test.YtckanomabhbkaaaDX
namespace Go.Proofs.Ytckanomabhbkaaa
open Go.RowKit Go.Shelf
set_option linter.unusedVariables false
def bI (s : ByteArray) : List Int := s.data.toList.map (fun b => (b.toNat : Int))
theorem bI_len (s : ByteArray) : (bI s).length = s.size := by simp [bI]
theorem bI_get (s : ByteArray) {i : Nat} (h : i < s.size) : (bI s).getD i 0 = (s[i].toNat : Int) := by
  unfold bI
  have h2 : i < s.data.toList.length := by simpa using h
  rw [List.getD_eq_getElem?_getD, List.getElem?_map, List.getElem?_eq_getElem h2]
  rfl
/-- A header that is right, by its numbers. -/
def rightI (l : List Int) : Bool := decide (l.length ≤ 8) && (!outB l && !dupB l)
theorem rightI_iff {l : List Int} : rightI l = true ↔ l.length ≤ 8 ∧ (∀ x ∈ l, 0 ≤ x ∧ x < 32) ∧ l.Nodup := by
  unfold rightI
  rw [Bool.and_eq_true, Bool.and_eq_true, Bool.not_eq_true', Bool.not_eq_true', outB_no, dupB_no, decide_eq_true_iff]
theorem nodup_toNat {l : List UInt8} : (l.map (fun b => (b.toNat : Int))).Nodup ↔ l.Nodup := by
  induction l with
  | nil => simp
  | cons x l ih =>
    rw [List.map_cons, List.nodup_cons, List.nodup_cons, ih]
    constructor
    · rintro ⟨h1, h2⟩
      exact ⟨fun h => h1 (List.mem_map.2 ⟨x, h, rfl⟩), h2⟩
    · rintro ⟨h1, h2⟩
      refine ⟨fun h => h1 ?_, h2⟩
      obtain ⟨y, hy, e⟩ := List.mem_map.1 h
      have : y = x := UInt8.toNat_inj.1 (by simpa using Int.ofNat_inj.1 e)
      exact this ▸ hy
theorem rightB_eq (s : ByteArray) : rightB s.data.toList = rightI (bI s) := by
  rw [Bool.eq_iff_iff, rightB_iff, rightI_iff]
  unfold bI
  rw [List.length_map, nodup_toNat]
  constructor
  · rintro ⟨h1, h2, h3⟩
    refine ⟨h1, fun x hx => ?_, h3⟩
    obtain ⟨y, hy, rfl⟩ := List.mem_map.1 hx
    have := h2 y hy
    omega
  · rintro ⟨h1, h2, h3⟩
    refine ⟨h1, fun x hx => ?_, h3⟩
    have := h2 _ (List.mem_map.2 ⟨x, hx, rfl⟩)
    omega
theorem rightI_len {l : List Int} (h : 8 < l.length) : rightI l = false := by unfold rightI; rw [decide_eq_false (by omega)]; rfl
theorem rightI_out {l : List Int} {i : Nat} (h : i < l.length) (hn : ¬ (0 ≤ l.getD i 0 ∧ l.getD i 0 < 32)) : rightI l = false := by
  unfold rightI; rw [outB_hit h hn]; cases decide (l.length ≤ 8) <;> rfl
theorem rightI_dup {l : List Int} {i : Nat} (h : i < l.length) (hm : memB (l.take i) (l.getD i 0) = true) : rightI l = false := by
  unfold rightI; rw [dup_hit h hm]; cases decide (l.length ≤ 8) <;> cases outB l <;> rfl
def inv (n : Int) : Value := .int .i64 n
theorem intc_eq : intc = fun x => [inv x] := rfl
theorem intc_one (n : Int) : ∀ u ∈ intc n, u.oneCell' = true := by
  intro u hu
  simp only [intc, List.mem_cons, List.not_mem_nil, or_false] at hu
  subst hu; rfl
theorem info3 : (Try.prog.info? 3).map (fun i => (i.zero, i.size, i.bytes)) = some (some (.int .i64 0), 1, 8) := by kernel_rfl
set_option maxHeartbeats 3200000 in
theorem refRight_any (s : ByteArray) (w : World) (hs : s.size ≤ maxLen) :
    Calls Try.prog 98 #[.string s] w fun e w' => e = .returned (.bool (rightI (bI s))) ∧ Below w.heap.size w w' := by
  unfold maxLen at hs
  have hl := bI_len s
  by_cases h8 : 8 < s.size
  · have HE := Lib.hid (rightI_len (l := bI s) (by omega))
    have b8 : decide ((8 : Int) < s.size) = true := by simp; omega
    have b8' : decide (8 < s.size) = true := by simp; omega
    clear hl
    go_enter Try.func98, Try.ntmps98
    go_wp2
    go_ret
    exact ⟨ret_bool HE.out.symm, Below.refl _ _⟩
  have b8 : decide ((8 : Int) < s.size) = false := by simp; omega
  have b8' : decide (8 < s.size) = false := by simp; omega
  have HL := Lib.hid hl
  have HND := Lib.hid (show ((bI s).take 0).Nodup by rw [List.take_zero]; exact List.nodup_nil)
  clear hl
  go_enter Try.func98, Try.ntmps98
  go_wp2
  go_loopw [3, 4] (fun u v wr => ∃ i : Nat, v = .int .i64 i ∧ i ≤ s.size ∧ Hid (Own intc 1 wr w.heap.size 3 u ((bI s).take i)) ∧ Hid (∀ j : Nat, j < i → 0 ≤ (bI s).getD j 0 ∧ (bI s).getD j 0 < 32) ∧ Hid ((bI s).take i).Nodup ∧ Hid (Below w.heap.size w wr)) (fun _ v _ => (s.size - (intOf v)).toNat)
  case atStart => exact ⟨0, rfl, by omega, Lib.hid (by rw [List.take_zero]; exact Own.nil _ _ _), Lib.hid (fun j h => by omega), HND, Lib.hid (Below.refl _ _)⟩
  case round =>
    obtain ⟨i, rfl, hle, HOW, HIN, HN, HB⟩ := hrel
    by_cases hlt : i < s.size
    · have hil : i < (bI s).length := by rw [HL.out]; exact hlt
      have g1 : (0 : Int) ≤ i := by omega
      have g2 : (i : Int) < s.size := by omega
      have bl : decide ((i : Int) < s.size) = true := by simp; omega
      have hget := bI_get s hlt
      have hb1 : (s[i].toNat : Int) ≤ 255 := by have := UInt8.toNat_lt s[i]; omega
      have hb0 : (0 : Int) ≤ s[i].toNat := by omega
      have HG := Lib.hid hget
      clear hget
      obtain ⟨T, hT⟩ : ∃ T, (bI s).take i = T := ⟨_, rfl⟩
      have HTN := Lib.hid (show (bI s).take (i + 1) = T ++ [(s[i].toNat : Int)] by rw [take_succ_getD hil, hT, HG.out])
      have HTL := Lib.hid (show T.length = i by rw [← hT, List.length_take]; omega)
      rw [hT] at HOW HN
      have HT := Lib.hid hT
      clear hT
      have hfm := HOW.out.form
      obtain ⟨A6, c6, rfl, hle6, hcm6⟩ := hfm
      by_cases h32 : 32 ≤ s[i].toNat
      · have HE := Lib.hid (rightI_out hil (by rw [HG.out]; omega))
        have b1 : decide ((32 : Int) ≤ s[i].toNat) = true := by simp; omega
        go_wp2
        go_ret
        exact ⟨ret_bool HE.out.symm, HB.out⟩
      have b1 : decide ((32 : Int) ≤ s[i].toNat) = false := by simp; omega
      have HC := Lib.hid (has_any A6 T.length c6 T s[i].toNat wr rfl (HOW.out.slAt intc_len).row)
      obtain ⟨m, hm⟩ : ∃ m, memB T s[i].toNat = m := ⟨_, rfl⟩
      rw [hm] at HC
      have HM := Lib.hid (show memB ((bI s).take i) ((bI s).getD i 0) = m by rw [HT.out, HG.out, hm])
      clear hm h32
      cases m
      · have HN2 := Lib.hid (dup_next hil (by rw [HT.out]; exact HN.out) HM.out)
        have HIN2 := Lib.hid (show ∀ j : Nat, j < i + 1 → 0 ≤ (bI s).getD j 0 ∧ (bI s).getD j 0 < 32 from fun j hj => by
          by_cases e : j = i
          · subst e; rw [HG.out]; simp at b1; omega
          · exact HIN.out j (by omega))
        go_wp2_with (first | (go_at_call 96; refine HC.out.mono ?_; rintro e w' ⟨rfl, rfl⟩) | (at_builtin; refine Own.append intc_len intc_one rfl _ _ 40 3 (.int .i64 0) 8 rfl Try.underlying40 info3 rfl (by decide) (by decide) (.slice A6 T.length c6) T rfl (base := w.heap.size) (HOW.out.alloc _) ⟨wr.heap.size, 0, none⟩ [(s[i].toNat : Int)] 1 rfl (RowAt.new wr (s[i].toNat : Int) #[.int .i64 s[i].toNat] 3 rfl) (by have := HB.out.size; simp; omega) (by have := HTL.out; simp; omega) ?_; intro v1 w4 hO4 hg4 _; (have HO4 := Lib.hid hO4); (have HB4 := Lib.hid ((HB.out.alloc HB.out.size _).grown hg4 (by have := HB.out.size; simp; omega) (fun k e => (HOW.out.lt e).1))); clear hO4 hg4))
        go_roundw
        case rel => exact ⟨i + 1, by simp, by omega, Lib.hid (by rw [HTN.out]; exact HO4.out), HIN2, HN2, HB4⟩
        case measure => simp [intOf]; omega
      · have HE := Lib.hid (rightI_dup hil HM.out)
        go_wp2_with (go_at_call 96; refine HC.out.mono ?_; rintro e w' ⟨rfl, rfl⟩)
        go_ret
        exact ⟨ret_bool HE.out.symm, HB.out⟩
    · have bl : decide ((i : Int) < s.size) = false := by simp; omega
      obtain rfl : i = s.size := by omega
      have HE := Lib.hid (show rightI (bI s) = true by
        rw [rightI_iff]
        have h1 := HN.out
        rw [List.take_of_length_le (by rw [HL.out]; exact Nat.le_refl _)] at h1
        refine ⟨by rw [HL.out]; omega, fun x hx => ?_, h1⟩
        obtain ⟨j, hj, rfl⟩ := List.getElem_of_mem hx
        have := HIN.out j (by rw [HL.out] at hj; exact hj)
        rwa [List.getD_eq_getElem?_getD, List.getElem?_eq_getElem hj] at this)
      go_wp2
      go_ret
      exact ⟨ret_bool HE.out.symm, HB.out⟩
end Go.Proofs.Ytckanomabhbkaaa
