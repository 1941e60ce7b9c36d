/- find of the program, walked: slices.BinarySearchFunc over a list that increases. -/
import Derived.Test.YtckanomabhbkaaaDB
namespace Go.Proofs.Ytckanomabhbkaaa
open Go.RowKit Go.Shelf
set_option linter.unusedVariables false
/-- A right list. -/
structure Rok (l : List Rp) : Prop where
  form : ∀ r ∈ l, rform r = 0
  inc : l.Pairwise (fun a b => a.node < b.node)
theorem rfirstErr_zero (l : List Rp) : ∀ (n : Nat) (i : Int), rfirstErr l n i = 0 ↔ ∀ k : Nat, k < n → rerrAt l (i + k) = 0
  | 0, i => by simp [rfirstErr]
  | n + 1, i => by
    rw [rfirstErr]
    by_cases h : rerrAt l i = 0
    · rw [if_neg (by simp [h]), rfirstErr_zero l n (i + 1)]
      constructor
      · intro H k hk
        cases k with
        | zero => simpa using h
        | succ k => have := H k (by omega); rwa [show i + ((k + 1 : Nat) : Int) = i + 1 + k from by omega]
      · intro H k hk
        have := H (k + 1) (by omega)
        rwa [show i + 1 + (k : Int) = i + ((k + 1 : Nat) : Int) from by omega]
    · rw [if_pos h]
      constructor
      · intro H; exact absurd H h
      · intro H; exact absurd (by simpa using H 0 (by omega)) h
theorem rerrAt_zero {l : List Rp} {i : Int} : rerrAt l i = 0 ↔ rform (gr l i) = 0 ∧ ¬ (0 < i ∧ (gr l i).node ≤ (gr l (i - 1)).node) := by
  unfold rerrAt
  by_cases h1 : rform (gr l i) = 0
  · rw [if_neg (by simp [h1])]
    by_cases h3 : 0 < i ∧ (gr l i).node ≤ (gr l (i - 1)).node
    · rw [if_pos h3]; simp [h3]
    · rw [if_neg h3]; simp only [h1, h3, not_false_eq_true, and_self]
  · rw [if_pos h1]; simp [h1]
theorem rchk_iff {l : List Rp} : rchk l = 0 ↔ Rok l := by
  unfold rchk
  rw [rfirstErr_zero]
  constructor
  · intro hz
    have hz : ∀ k : Nat, k < l.length → rerrAt l k = 0 := fun k hk => by have := hz k hk; rwa [Int.zero_add] at this
    refine ⟨fun p hp => ?_, ?_⟩
    · obtain ⟨k, hk, rfl⟩ := List.getElem_of_mem hp
      have := (rerrAt_zero.1 (hz k hk)).1
      rwa [gr_elem hk] at this
    · rw [List.pairwise_iff_getElem]
      have step : ∀ d i : Nat, (hj : i + (d + 1) < l.length) → l[i].node < l[i + (d + 1)].node := by
        intro d
        induction d with
        | zero =>
          intro i hj
          have h3 := (rerrAt_zero.1 (hz (i + 1) hj)).2
          rw [show ((i + 1 : Nat) : Int) - 1 = (i : Nat) from by omega, gr_elem hj, gr_elem (show i < l.length by omega)] at h3
          omega
        | succ d ih =>
          intro i hj
          have h1 := ih i (by omega)
          have h3 := (rerrAt_zero.1 (hz (i + (d + 1 + 1)) hj)).2
          rw [show ((i + (d + 1 + 1) : Nat) : Int) - 1 = (i + (d + 1) : Nat) from by omega, gr_elem hj, gr_elem (show i + (d + 1) < l.length by omega)] at h3
          omega
      intro i j hi hj hij
      have := step (j - i - 1) i (by omega)
      have e : i + (j - i - 1 + 1) = j := by omega
      simpa only [e] using this
  · intro h k hk
    rw [Int.zero_add, rerrAt_zero, gr_elem hk]
    refine ⟨h.form _ (List.getElem_mem _), fun ⟨h0, hlt⟩ => ?_⟩
    obtain ⟨m, rfl⟩ : ∃ m, k = m + 1 := ⟨k - 1, by omega⟩
    rw [show ((m + 1 : Nat) : Int) - 1 = m from by omega, gr_elem (by omega)] at hlt
    have := List.pairwise_iff_getElem.1 h.inc m (m + 1) (by omega) hk (by omega)
    omega
theorem rform_zero {r : Rp} (h : rform r = 0) : 1 ≤ r.node ∧ r.node < 32 ∧ -1 ≤ r.parent ∧ r.parent < 32 ∧ 1 ≤ r.num ∧ r.num ≤ 2147483647 ∧ r.parent ≠ r.node := by
  unfold rform at h
  by_cases h1 : r.node < 1 ∨ 32 ≤ r.node ∨ r.parent < -1 ∨ 32 ≤ r.parent ∨ r.num < 1 ∨ 2147483647 < r.num
  · rw [if_pos h1] at h; cases h
  · rw [if_neg h1] at h
    by_cases h2 : r.parent = r.node
    · rw [if_pos h2] at h; cases h
    · exact ⟨by omega, by omega, by omega, by omega, by omega, by omega, h2⟩
theorem Rok.low {l : List Rp} (h : Rok l) : ∀ k : Nat, (hk : k < l.length) → (k : Int) + 1 ≤ l[k].node := by
  intro k
  induction k with
  | zero => intro hk; have := (rform_zero (h.form _ (List.getElem_mem hk))).1; omega
  | succ k ih =>
    intro hk
    have h1 := ih (by omega)
    have h2 := List.pairwise_iff_getElem.1 h.inc k (k + 1) (by omega) hk (by omega)
    omega
theorem Rok.len {l : List Rp} (h : Rok l) : l.length ≤ 31 := by
  by_cases h0 : 0 < l.length
  · have h1 := h.low (l.length - 1) (by omega)
    have h2 := (rform_zero (h.form _ (List.getElem_mem (show l.length - 1 < l.length by omega)))).2.1
    omega
  · omega
/-- Where the report of a node is, or would be. -/
def rpos (l : List Rp) (n : Int) : Nat := (l.takeWhile (fun r => decide (r.node < n))).length
theorem rpos_eq {l : List Rp} {n : Int} {p : Nat} (hp : p ≤ l.length) (hlo : ∀ k : Nat, k < p → (gr l k).node < n) (hhi : p < l.length → ¬ (gr l p).node < n) : rpos l n = p := by
  unfold rpos
  have e : l.takeWhile (fun r => decide (r.node < n)) = l.take p := by
    conv => lhs; rw [← List.take_append_drop p l]
    rw [List.takeWhile_append_of_pos]
    · have hd : (l.drop p).takeWhile (fun r => decide (r.node < n)) = [] := by
        by_cases h : p < l.length
        · rw [List.drop_eq_getElem_cons h, List.takeWhile_cons, if_neg]
          have := hhi h
          rw [gr_elem h] at this
          simpa using this
        · rw [List.drop_of_length_le (by omega)]; rfl
      rw [hd, List.append_nil]
    · intro r hr
      obtain ⟨k, hk, rfl⟩ := List.getElem_of_mem hr
      rw [List.length_take] at hk
      have := hlo k (by omega)
      rw [gr_elem (by omega)] at this
      rw [List.getElem_take]
      simpa using this
  rw [e, List.length_take]; omega
theorem rpos_le (l : List Rp) (n : Int) : rpos l n ≤ l.length := by
  unfold rpos
  exact List.Sublist.length_le (List.takeWhile_sublist _)
def cmpI (x y : Int) : Int := if x < y then -1 else if y < x then 1 else 0
theorem isNaN_any (x : Int) (w : World) : Calls Try.prog 117 #[.int .i64 x] w fun e w' => e = .returned (.bool false) ∧ w = w' := by
  have b : (x != x) = false := by simp
  go_enter Try.func117, Try.ntmps117
  go_wp2
  go_ret
  exact ⟨rfl, rfl⟩
set_option maxHeartbeats 800000 in
theorem compare_any (x y : Int) (w : World) : Calls Try.prog 109 #[.int .i64 x, .int .i64 y] w fun e w' => e = .returned (.int .i64 (cmpI x y)) ∧ w = w' := by
  by_cases h1 : x < y
  · have b1 : decide (x < y) = true := by simp [h1]
    have HE := Lib.hid (show -1 = cmpI x y by unfold cmpI; rw [if_pos h1])
    clear h1
    go_enter Try.func109, Try.ntmps109
    go_wp2_with (go_at_call 117; refine (isNaN_any _ _).mono ?_; rintro e w' ⟨rfl, rfl⟩)
    go_ret
    exact ⟨ret_int HE.out, rfl⟩
  have b1 : decide (x < y) = false := by simp; omega
  by_cases h2 : y < x
  · have b2 : decide (y < x) = true := by simp [h2]
    have HE := Lib.hid (show 1 = cmpI x y by unfold cmpI; rw [if_neg h1, if_pos h2])
    clear h1 h2
    go_enter Try.func109, Try.ntmps109
    go_wp2_with (go_at_call 117; refine (isNaN_any _ _).mono ?_; rintro e w' ⟨rfl, rfl⟩)
    go_ret
    exact ⟨ret_int HE.out, rfl⟩
  · have b2 : decide (y < x) = false := by simp; omega
    have HE := Lib.hid (show 0 = cmpI x y by unfold cmpI; rw [if_neg h1, if_neg h2])
    clear h1 h2
    go_enter Try.func109, Try.ntmps109
    go_wp2_with (go_at_call 117; refine (isNaN_any _ _).mono ?_; rintro e w' ⟨rfl, rfl⟩)
    go_ret
    exact ⟨ret_int HE.out, rfl⟩
set_option maxHeartbeats 800000 in
theorem find1_any (r : Rp) (k : Int) (w : World) : Calls Try.prog 108 #[.agg #[.int .i64 r.node, .int .i64 r.parent, .int .i64 r.num], .int .i64 k] w fun e w' => e = .returned (.int .i64 (cmpI r.node k)) ∧ Below w.heap.size w w' := by
  go_enter Try.func108, Try.ntmps108
  go_wp2_with (go_at_call 109; refine (compare_any _ _ _).mono ?_; rintro e w' ⟨rfl, rfl⟩)
  go_ret
  exact ⟨rfl, (Below.refl _ _).alloc (Nat.le_refl _) _⟩
/-- Is there a report of a node? -/
def rhas (l : List Rp) (n : Int) : Bool := decide (rpos l n < l.length) && (gr l (rpos l n)).node == n
set_option maxHeartbeats 1600000 in
theorem bsearch_any (A : Option Addr) (c : Nat) (l : List Rp) (n : Int) (w : World) (hr : RpAt w A c l) (hok : Rok l) :
    Calls Try.prog 107 #[.slice A l.length c, .int .i64 n, .func (.func 108) #[] #[]] w fun e w' => e = .returned (.tuple #[.int .i64 (rpos l n), .bool (rhas l n)]) ∧ Below w.heap.size w w' := by
  have HR := Lib.hid hr.row
  have hl := hok.len
  have HI := Lib.hid hok.inc
  clear hr hok
  go_enter Try.func107, Try.ntmps107
  go_wp2
  go_loopw [9, 10] (fun u v wr => ∃ i j : Nat, u = .int .i64 i ∧ v = .int .i64 j ∧ i ≤ j ∧ j ≤ l.length ∧ Hid (∀ k : Nat, k < i → (gr l k).node < n) ∧ Hid (∀ k : Nat, j ≤ k → k < l.length → n ≤ (gr l k).node) ∧ Hid (Below w.heap.size w wr)) (fun u v _ => (intOf v - intOf u).toNat)
  case atStart => exact ⟨0, l.length, rfl, rfl, by omega, by omega, fun k hk => by omega, fun k h1 h2 => by omega, Below.refl _ _⟩
  case round =>
    obtain ⟨i, j, rfl, rfl, hij, hjl, HLO, HHI, HB⟩ := hrel
    by_cases hlt : i < j
    · have bl : decide ((i : Int) < j) = true := by simp; omega
      obtain ⟨m, hm⟩ : ∃ m, m = (i + j) / 2 := ⟨_, rfl⟩
      have hmi : ((i : Int) + j) / 2 = (m : Int) := by omega
      have hmj : m < j := by omega
      have him : i ≤ m := by omega
      have hml : m < l.length := by omega
      have HM := Lib.hid hm
      have HMI := Lib.hid hmi
      clear hm hmi
      go_upto_region 5 with fail
      rw [HMI.out]
      obtain ⟨ad, rfl, c0, c1, c2⟩ := (HR.out.below HB.out).rp m (by omega) (by omega)
      rw [Int.toNat_natCast] at c0 c1 c2
      have g1 : (0 : Int) ≤ m := by omega
      have g2 : (m : Int) < l.length := by omega
      by_cases hp : (gr l m).node < n
      · have b1 : decide (cmpI (gr l m).node n < 0) = true := by unfold cmpI; rw [if_pos hp]; decide
        have HLO2 := Lib.hid (show ∀ k : Nat, k < m + 1 → (gr l k).node < n from fun k hk => by
          by_cases e : k = m
          · subst e; exact hp
          · have h1 := List.pairwise_iff_getElem.1 HI.out k m (by omega) hml (by omega)
            rw [gr_elem hml] at hp
            rw [gr_elem (show k < l.length by omega)]
            omega)
        clear hp
        go_wp2_with (go_at_call 108; refine (find1_any (gr l m) n _).mono ?_; rintro e w1 ⟨rfl, hb1⟩; (have HB1 := Lib.hid (HB.out.trans (hb1.mono HB.out.size))); clear hb1)
        go_roundw
        case rel => exact ⟨m + 1, j, by simp, rfl, by omega, hjl, HLO2, HHI, HB1⟩
        case measure => simp [intOf]; omega
      · have b1 : decide (cmpI (gr l m).node n < 0) = false := by unfold cmpI; rw [if_neg hp]; split <;> decide
        have HHI2 := Lib.hid (show ∀ k : Nat, m ≤ k → k < l.length → n ≤ (gr l k).node from fun k hk hkl => by
          by_cases e : k = m
          · subst e; omega
          · have h1 := List.pairwise_iff_getElem.1 HI.out m k hml hkl (by omega)
            rw [gr_elem hml] at hp
            rw [gr_elem hkl]
            omega)
        clear hp
        go_wp2_with (go_at_call 108; refine (find1_any (gr l m) n _).mono ?_; rintro e w1 ⟨rfl, hb1⟩; (have HB1 := Lib.hid (HB.out.trans (hb1.mono HB.out.size))); clear hb1)
        go_roundw
        case rel => exact ⟨i, m, rfl, rfl, by omega, by omega, HLO, HHI2, HB1⟩
        case measure => simp [intOf]; omega
    · have bl : decide ((i : Int) < j) = false := by simp; omega
      obtain rfl : i = j := by omega
      have HP := Lib.hid (show rpos l n = i from rpos_eq hjl HLO.out (fun h => by have := HHI.out i (Nat.le_refl _) h; omega))
      by_cases hil : i < l.length
      · have b2 : decide ((i : Int) < l.length) = true := by simp; omega
        obtain ⟨ad, rfl, c0, c1, c2⟩ := (HR.out.below HB.out).rp i (by omega) (by omega)
        rw [Int.toNat_natCast] at c0 c1 c2
        have g1 : (0 : Int) ≤ i := by omega
        have g2 : (i : Int) < l.length := by omega
        have HE := Lib.hid (show (cmpI (gr l i).node n == 0) = rhas l n by
          unfold rhas
          rw [HP.out, decide_eq_true hil, Bool.true_and]
          unfold cmpI
          by_cases h1 : (gr l i).node < n
          · rw [if_pos h1]; have : ¬ (gr l i).node = n := by omega
            simp [this]
          · rw [if_neg h1]
            by_cases h2 : n < (gr l i).node
            · rw [if_pos h2]; have : ¬ (gr l i).node = n := by omega
              simp [this]
            · rw [if_neg h2]; have : (gr l i).node = n := by omega
              simp [this])
        go_wp2_with (go_at_call 108; refine (find1_any (gr l i) n _).mono ?_; rintro e w1 ⟨rfl, hb1⟩; (have HB1 := Lib.hid (HB.out.trans (hb1.mono HB.out.size))); clear hb1)
        go_ret2
        exact ⟨by rw [HP.out, ← HE.out]; rfl, HB1.out⟩
      · have b2 : decide ((i : Int) < l.length) = false := by simp; omega
        have HE := Lib.hid (show false = rhas l n by unfold rhas; rw [HP.out, decide_eq_false hil]; rfl)
        go_wp2
        go_ret2
        exact ⟨by rw [HP.out, ← HE.out]; rfl, HB.out⟩
set_option maxHeartbeats 800000 in
theorem find_any (A : Option Addr) (c : Nat) (l : List Rp) (n : Int) (w : World) (hr : RpAt w A c l) (hok : Rok l) :
    Calls Try.prog 88 #[.slice A l.length c, .int .i64 n] w fun e w' => e = .returned (.tuple #[.int .i64 (rpos l n), .bool (rhas l n)]) ∧ Below w.heap.size w w' := by
  have HC := Lib.hid (bsearch_any A c l n w hr hok)
  clear hr hok
  go_enter Try.func88, Try.ntmps88
  go_wp2_with fail
  refine HC.out.mono ?_
  rintro e w1 ⟨rfl, hb1⟩
  have HB := Lib.hid hb1
  clear hb1
  go_wp2
  go_ret2
  exact ⟨rfl, HB.out⟩
end Go.Proofs.Ytckanomabhbkaaa
