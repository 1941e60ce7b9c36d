/- The law QueueKeeps, walked. -/
import Derived.Test.YtckanomabhbkaaaPK
import Derived.Test.YtckanomabhbkaaaYF
import Derived.Test.YtckanomabhbkaaaQW2
import Derived.Test.YtckanomabhbkaaaQE
namespace Go.Proofs.Ytckanomabhbkaaa
open Go.RowKit Go.Shelf
open Go.Maps (Keyed int_keyed keyOf_int_mk Tidy)
set_option linter.unusedVariables false
/-- 's[k]', as a run: for a look-up behind a guard. -/
theorem SetIs.run {P : Program} {K E T : TypeId} {w : World} {b n : Nat} {s : List Int} (h : SetIs P K E w b n s)
    (hK : P.underlying K = some (.int .i64)) (hT : P.underlying T = some (.map K E)) (hE : P.underlying E = some .bool) (hz : (zeroValue E).run P w = .ok (.bool false) w)
    (k : Int) (hk : (Lit.int .i64 k).wf = true) : (Instr.lookup T (.map (some b)) (.int .i64 k) false).run P w = .ok (.bool (decide (k ∈ s))) w := by
  obtain ⟨D, h1, h2, h3, h4, h5⟩ := h
  obtain ⟨v, ps, hrun, hv⟩ := h1.lookup (int_keyed hK) hT hz (plainElem_bool hE false) (keyOf_int_mk hK hk)
  obtain ⟨y, rfl, hy⟩ := plainElem_bool_inv hE hv
  rw [h4 k] at hy
  generalize decide (k ∈ s) = d at hy ⊢
  simp only [Prod.mk.injEq, DataW.lit.injEq, Lit.bool.injEq] at hy
  obtain ⟨rfl, _⟩ := hy
  exact hrun
def bigP (p : Pk) : Bool := decide ((200 : Int) < (p.data.size : Int))
theorem bigP_pred (w : World) : PredB 34 #[] bigP w := by
  intro W x hb
  have HS := Lib.hid (show decide ((200 : Int) < (x.data.size : Int)) = bigP x from rfl)
  show Calls Try.prog 34 #[.agg #[.int .i64 x.id, .int .i64 x.dst, .int .i64 x.pr, .int .i64 x.born, .int .i64 x.life, .string x.data]] W _
  go_enter Try.func34, Try.ntmps34
  go_wp2
  go_ret
  exact ⟨ret_bool HS.out, hb.alloc hb.size _⟩
set_option maxHeartbeats 800000 in
theorem containsBig_any (A : Option Addr) (c : Nat) (l : List Pk) (w : World) (hr : RowAt Pk.cells 6 w A l) :
    Calls Try.prog 33 #[.slice A l.length c, .func (.func 34) #[] #[]] w fun e w' => e = .returned (.bool (decide (0 ≤ fidx bigP l))) ∧ Below w.heap.size w w' := by
  have HC := Lib.hid (indexFunc_any bigP 34 #[] A c l w hr (enters_of Try.func34 (by kernel_rfl) rfl) (bigP_pred w))
  clear hr
  go_enter Try.func33, Try.ntmps33
  go_wp2_with fail
  refine HC.out.mono ?_
  rintro e w1 ⟨rfl, hb1⟩
  have HB := Lib.hid hb1
  clear hb1
  go_wp2
  go_ret
  exact ⟨rfl, HB.out⟩
theorem putG_len (L : Int) (l : List Pk) (p : Pk) : (putG L l p).length ≤ 1 := by
  unfold putG
  split
  · split <;> simp
  · simp
/-- At the head of a round: the queue at Q, the two sets behind it. -/
structure KeI (Q : Nat) (W0 : World) (L : Int) (i : Nat) (A : Option Addr) (c : Nat) (q : List Pk) (n m : Nat) (s t : List Int) (wr : World) : Prop where
  bel : Below Q W0 wr
  bq : wr.heap[Q]? = some (.cells #[.int .i64 L, .slice A q.length c] 24 (0, 0))
  row : PkAt wr A c q
  fr : Fresh (Q + 3) A
  chk : chk L q = 0
  ids : IdsOk q
  si : SetIs Try.prog 3 4 wr (Q + 1) n s
  so : SetIs Try.prog 3 4 wr (Q + 2) m t
  hn : n ≤ i ∧ m ≤ 2 * i
  io : InOut (idsOf q) s t
theorem KeI.below {Q : Nat} {W0 : World} {L : Int} {i j : Nat} {A : Option Addr} {c : Nat} {q : List Pk} {n m : Nat} {s t : List Int} {W W1 : World} (h : KeI Q W0 L i A c q n m s t W) (hb : Below W.heap.size W W1) (hij : i ≤ j) : KeI Q W0 L j A c q n m s t W1 :=
  ⟨h.bel.trans (hb.mono (Nat.le_of_lt (blk_lt h.bq))), blk_below h.bq hb (blk_lt h.bq), h.row.below hb, h.fr, h.chk, h.ids, h.si.below hb h.si.lt, h.so.below hb h.so.lt, by have := h.hn; omega, h.io⟩
theorem SetIs.nodup {P : Program} {K E : TypeId} {w : World} {b n : Nat} {s : List Int} (h : SetIs P K E w b n s) : s.Nodup := by
  obtain ⟨D, _, h2, _⟩ := h; exact h2
/-- While those that leave for the new packet are written down. -/
structure KeJ (Q X : Nat) (W0 : World) (L : Int) (Aq : Option Addr) (nq cq : Nat) (A3 : Option Addr) (c3 : Nat) (Qn : List Pk) (A4 : Option Addr) (c4 : Nat) (G : List Pk) (n m : Nat) (s t0 t : List Int) (j : Nat) (wr : World) : Prop where
  bel : Below Q W0 wr
  bq : wr.heap[Q]? = some (.cells #[.int .i64 L, .slice Aq nq cq] 24 (0, 0))
  bn : wr.heap[X]? = some (.cells #[.int .i64 L, .slice A3 Qn.length c3] 24 (0, 0))
  row3 : PkAt wr A3 c3 Qn
  row4 : PkAt wr A4 c4 G
  fr3 : Fresh (Q + 3) A3
  fr4 : Fresh (Q + 3) A4
  si : SetIs Try.prog 3 4 wr (Q + 1) n s
  so : SetIs Try.prog 3 4 wr (Q + 2) m t
  out : OutS t0 (idsOf G) j t
theorem KeJ.below {Q X : Nat} {W0 : World} {L : Int} {Aq : Option Addr} {nq cq : Nat} {A3 : Option Addr} {c3 : Nat} {Qn : List Pk} {A4 : Option Addr} {c4 : Nat} {G : List Pk} {n m : Nat} {s t0 t : List Int} {j : Nat} {W W1 : World} (h : KeJ Q X W0 L Aq nq cq A3 c3 Qn A4 c4 G n m s t0 t j W) (hb : Below W.heap.size W W1) : KeJ Q X W0 L Aq nq cq A3 c3 Qn A4 c4 G n m s t0 t j W1 :=
  ⟨h.bel.trans (hb.mono (Nat.le_of_lt (blk_lt h.bq))), blk_below h.bq hb (blk_lt h.bq), blk_below h.bn hb (blk_lt h.bn), h.row3.below hb, h.row4.below hb, h.fr3, h.fr4, h.si.below hb h.si.lt, h.so.below hb h.so.lt, h.out⟩
theorem PkAt.far {w w1 : World} {A : Option Addr} {c B b : Nat} {l : List Pk} (h : PkAt w A c l) (hf : Fresh B A) (hg : w.grownBy w1 (some b)) (hb : b < B) : PkAt w1 A c l :=
  h.keep fun hl a ha => by
    subst ha
    exact hg.block a.block (row_lt h.row hl) (fun e => by have := hf a rfl; injection e with e; omega)
theorem KeJ.add {Q X : Nat} {W0 : World} {L : Int} {Aq : Option Addr} {nq cq : Nat} {A3 : Option Addr} {c3 : Nat} {Qn : List Pk} {A4 : Option Addr} {c4 : Nat} {G : List Pk} {n m : Nat} {s t0 t t1 : List Int} {j j1 m1 : Nat} {W W1 : World} (h : KeJ Q X W0 L Aq nq cq A3 c3 Qn A4 c4 G n m s t0 t j W) (hX : Q + 2 < X) (hs : SetIs Try.prog 3 4 W1 (Q + 2) m1 t1) (hg : W.grownBy W1 (some (Q + 2))) (ho : OutS t0 (idsOf G) j1 t1) : KeJ Q X W0 L Aq nq cq A3 c3 Qn A4 c4 G n m1 s t0 t1 j1 W1 :=
  ⟨h.bel.grown hg (Nat.le_of_lt (blk_lt h.bq)) (fun k e => by cases e; omega), (hg.block Q (blk_lt h.bq) (by simp)).trans h.bq, (hg.block X (blk_lt h.bn) (by simp; omega)).trans h.bn, h.row3.far h.fr3 hg (by omega), h.row4.far h.fr4 hg (by omega), h.fr3, h.fr4, h.si.kept hg (by simp), hs, ho⟩
/-- A row that is read does not lie in a map's block. -/
theorem SetIs.ne_cell {P : Program} {K E : TypeId} {w : World} {b n : Nat} {s : List Int} (h : SetIs P K E w b n s) {p : Addr} {v : Value} (hc : w.cell? p = some v) : p.block ≠ b := by
  obtain ⟨D, ⟨es, clock, h1, _⟩, _⟩ := h
  intro e
  subst e
  simp [World.cell?, h1] at hc
theorem RowAt.mapped {α : Type} {enc : α → List Value} {k : Nat} {P : Program} {K E : TypeId} {w w1 : World} {b n : Nat} {s : List Int} {A : Option Addr} {l : List α} (h : RowAt enc k w A l) (hs : SetIs P K E w b n s) (hg : w.grownBy w1 (some b)) : RowAt enc k w1 A l :=
  ⟨h.1, fun hn => by
    obtain ⟨ad, e, hc⟩ := h.2 hn
    exact ⟨ad, e, fun i x hx j v hv => hg.cell (hc i x hx j v hv) (fun e => hs.ne_cell (hc i x hx j v hv) (by injection e))⟩⟩
/-- While what is left, and what has left, is counted. -/
structure KeL (Q : Nat) (W0 : World) (A3 : Option Addr) (R : List Pk) (A4 : Option Addr) (D : List Dp) (n m : Nat) (s t0 G t : List Int) (j : Nat) (wr : World) : Prop where
  bel : Below Q W0 wr
  lt : Q < wr.heap.size
  row3 : RowAt Pk.cells 6 wr A3 R
  row4 : RowAt Dp.cells 3 wr A4 D
  si : SetIs Try.prog 3 4 wr (Q + 1) n s
  so : SetIs Try.prog 3 4 wr (Q + 2) m t
  out : OutS t0 G j t
theorem KeL.below {Q : Nat} {W0 : World} {A3 : Option Addr} {R : List Pk} {A4 : Option Addr} {D : List Dp} {n m : Nat} {s t0 G t : List Int} {j : Nat} {W W1 : World} (h : KeL Q W0 A3 R A4 D n m s t0 G t j W) (hb : Below W.heap.size W W1) : KeL Q W0 A3 R A4 D n m s t0 G t j W1 :=
  ⟨h.bel.trans (hb.mono (Nat.le_of_lt h.lt)), Nat.lt_of_lt_of_le h.lt hb.size, h.row3.below hb, h.row4.below hb, h.si.below hb h.si.lt, h.so.below hb h.so.lt, h.out⟩
theorem KeL.add {Q : Nat} {W0 : World} {A3 : Option Addr} {R : List Pk} {A4 : Option Addr} {D : List Dp} {n m m1 : Nat} {s t0 G t t1 : List Int} {j j1 : Nat} {W W1 : World} (h : KeL Q W0 A3 R A4 D n m s t0 G t j W) (hs : SetIs Try.prog 3 4 W1 (Q + 2) m1 t1) (hg : W.grownBy W1 (some (Q + 2))) (ho : OutS t0 G j1 t1) : KeL Q W0 A3 R A4 D n m1 s t0 G t1 j1 W1 :=
  ⟨h.bel.grown hg (Nat.le_of_lt h.lt) (fun k e => by cases e; omega), Nat.lt_of_lt_of_le h.lt hg.size, h.row3.mapped h.so hg, h.row4.mapped h.so hg, h.si.kept hg (by simp), hs, ho⟩
set_option maxHeartbeats 12800000 in
theorem queueKeeps_any (lim : Int) (A : Option Addr) (c : Nat) (l : List Pk) (fr : Int) (As : Option Addr) (cs : Nat) (sv : List Int) (w : World) (hw0 : (Lit.int .u8 lim).wf = true) (hr : PkAt w A c l) (hids : IdsOk l) (hw1 : (Lit.int .u16 fr).wf = true) (hv : SlAt intc 1 w As cs sv) :
    Calls Try.prog 7 #[.int .u8 lim, .slice A l.length c, .int .u16 fr, .slice As sv.length cs] w fun e w' => e = .returned (.bool true) ∧ Below w.heap.size w w' := by
  have HR := Lib.hid hr
  have HV := Lib.hid hv.row
  have hs63 := hv.row.1
  have hl63 := hr.row.1
  have hfr : 0 ≤ fr ∧ fr ≤ 65535 := by
    have e1 : IntKind.u16.min = 0 := rfl
    have e2 : IntKind.u16.max = 65535 := rfl
    simp [Lit.wf] at hw1
    omega
  have hlim : 0 ≤ lim ∧ lim ≤ 255 := by
    have e1 : IntKind.u8.min = 0 := rfl
    have e2 : IntKind.u8.max = 255 := rfl
    simp [Lit.wf] at hw0
    omega
  clear hr hw0 hw1 hv
  have hu24 := Try.underlying24
  have hu30 := Try.underlying30
  have hmm := @run_makeMap Try.prog
  have HA : ∀ W, Hid (Calls Try.prog 18 #[] W fun e w' => e = .returned (.bool true) ∧ Below W.heap.size W w') := awake_any
  by_cases h1 : 20 < l.length
  · have b1 : decide ((20 : Int) < l.length) = true := by simp; omega
    have b1' : decide (20 < l.length) = true := by simp; omega
    clear h1
    set_option maxRecDepth 100000 in go_enter Try.func7, Try.ntmps7
    set_option maxRecDepth 100000 in go_wp2_with fail
    refine (HA _).out.mono ?_
    rintro e w1 ⟨rfl, hb1⟩
    have HB1 := Lib.hid hb1
    clear hb1 hmm
    set_option maxRecDepth 100000 in go_wp2
    go_ret
    exact ⟨rfl, HB1.out⟩
  have b1 : decide ((20 : Int) < l.length) = false := by simp; omega
  have b1' : decide (20 < l.length) = false := by simp; omega
  by_cases h2 : 100 < sv.length
  · have b2 : decide ((100 : Int) < sv.length) = true := by simp; omega
    have b2' : decide (100 < sv.length) = true := by simp; omega
    clear h1 h2
    set_option maxRecDepth 100000 in go_enter Try.func7, Try.ntmps7
    set_option maxRecDepth 100000 in go_wp2_with fail
    refine (HA _).out.mono ?_
    rintro e w1 ⟨rfl, hb1⟩
    have HB1 := Lib.hid hb1
    clear hb1 hmm
    set_option maxRecDepth 100000 in go_wp2
    go_ret
    exact ⟨rfl, HB1.out⟩
  have b2 : decide ((100 : Int) < sv.length) = false := by simp; omega
  have b2' : decide (100 < sv.length) = false := by simp; omega
  obtain ⟨x, hx⟩ : ∃ x, decide (0 ≤ fidx bigP l) = x := ⟨_, rfl⟩
  have HX := Lib.hid hx
  have hl20 : l.length ≤ 20 := by omega
  have hsv : sv.length ≤ 100 := by omega
  obtain ⟨L, hL⟩ : ∃ L, 1 + lim % 8 = L := ⟨_, rfl⟩
  have hL8 : 1 ≤ L ∧ L ≤ 8 := by omega
  clear hx h1 h2
  cases x
  case true =>
    clear hL
    set_option maxRecDepth 100000 in go_enter Try.func7, Try.ntmps7
    set_option maxRecDepth 100000 in go_wp2_with fail
    refine (HA _).out.mono ?_
    rintro e w1 ⟨rfl, hb1⟩
    have HB1 := Lib.hid hb1
    clear hb1 hmm
    set_option maxRecDepth 100000 in go_wp2_with fail
    refine (containsBig_any A c l _ (HR.out.row.below HB1.out)).mono ?_
    rintro e w2 ⟨rfl, hb2⟩
    rw [HX.out]
    have HB2 := Lib.hid (HB1.out.trans (hb2.mono HB1.out.size))
    clear hb2
    set_option maxRecDepth 100000 in go_wp2
    go_ret
    exact ⟨rfl, HB2.out⟩
  set_option maxRecDepth 100000 in go_enter Try.func7, Try.ntmps7
  set_option maxRecDepth 100000 in go_wp2_with fail
  refine (HA _).out.mono ?_
  rintro e w1 ⟨rfl, hb1⟩
  have HB1 := Lib.hid hb1
  clear hb1
  set_option maxRecDepth 100000 in go_wp2_with fail
  refine (containsBig_any A c l _ (HR.out.row.below HB1.out)).mono ?_
  rintro e w2 ⟨rfl, hb2⟩
  rw [HX.out]
  have HB2 := Lib.hid (HB1.out.trans (hb2.mono HB1.out.size))
  clear hb2
  set_option maxRecDepth 100000 in go_wp2
  clear hmm hL
  have HI0 : Hid (KeI w2.heap.size w2 L 0 none 0 [] 0 0 [] [] (((w2.alloc (.cells #[.int .i64 L, .slice none 0 0] 24)).alloc (.map #[] 0)).alloc (.map #[] 0))) := by
    refine ⟨(((Below.refl _ _).alloc (Nat.le_refl _) _).alloc (by simp) _).alloc (by simp; omega) _, blk_old (blk_old (blk_new w2 _ rfl) _) _, PkAt.zero _, (fun a h => by cases h), chk_iff.2 ⟨hL8.1, by omega, by simp; omega, (fun p h => by cases h), List.Pairwise.nil, List.Pairwise.nil⟩, (fun p h => by cases h), ?_, ?_, ⟨by omega, by omega⟩, ⟨(fun k => by simp [idsOf]), (fun k h => by cases h)⟩⟩
    · have h := (SetIs.made (w2.alloc (.cells #[.int .i64 L, .slice none 0 0] 24)) Try.prog 3 4).alloc (.map #[] 0)
      rw [World.size_alloc] at h
      exact h
    · have h := SetIs.made ((w2.alloc (.cells #[.int .i64 L, .slice none 0 0] 24)).alloc (.map #[] 0)) Try.prog 3 4
      rw [World.size_alloc, World.size_alloc] at h
      exact h
  obtain ⟨Q, hQ⟩ : ∃ Q, w2.heap.size = Q := ⟨_, rfl⟩
  rw [hQ] at HI0 ⊢
  have HQQ := Lib.hid hQ
  clear hQ
  set_option maxRecDepth 100000 in
  go_loopw [49] (fun v wr => ∃ (i : Nat) (Aq : Option Addr) (cq : Nat) (q : List Pk) (n m : Nat) (s t : List Int), v = .int .i64 i ∧ i ≤ l.length ∧ Hid (KeI Q w2 L i Aq cq q n m s t wr)) (fun v _ => (l.length - (intOf v)).toNat)
  case atStart => exact ⟨0, none, 0, [], 0, 0, [], [], rfl, by omega, HI0.out⟩
  case round =>
    obtain ⟨i, Aq, cq, q, n, m, s, t, rfl, hil, HI⟩ := hrel
    obtain ⟨wo, rfl⟩ : ∃ wo : World, wo = wr := ⟨_, rfl⟩
    have HBW := Lib.hid (HB2.out.trans (HI.out.bel.mono (by have := HQQ.out; have := HB2.out.size; omega)))
    have q0 : wo.cell? ⟨Q, 0, none⟩ = some (.int .i64 L) := blk_cell HI.out.bq 0
    have q1 : wo.cell? ⟨Q, 1, none⟩ = some (.slice Aq q.length cq) := blk_cell HI.out.bq 1
    have lQ : Q < wo.heap.size := blk_lt HI.out.bq
    have lQ2 : Q + 2 < wo.heap.size := HI.out.so.lt
    have nQ : ¬ Q = wo.heap.size := by omega
    have hq64 : q.length ≤ 8 := by have := (chk_ok HI.out.chk).2.2; omega
    by_cases hlt : i < l.length
    · have hli : decide ((i : Int) < l.length) = true := by simp; omega
      obtain ⟨ad, rfl, c0, c1, c2, c3, c4, c5⟩ := (HR.out.row.below HBW.out).pk i (by omega) (by omega)
      rw [Int.toNat_natCast] at c0 c1 c2 c3 c4 c5
      have g1 : (0 : Int) ≤ i := by omega
      have g2 : (i : Int) < l.length := by omega
      have HWF := Lib.hid (hids.gp g1 g2)
      obtain ⟨p, hp⟩ : ∃ p, gp l i = p := ⟨_, rfl⟩
      rw [hp] at c0 c1 c2 c3 c4 c5 HWF
      clear hp
      have HV1 := Lib.hid (show Below wo.heap.size wo (wo.alloc (.cells #[.int .i64 p.id, .int .i64 p.dst, .int .i64 p.pr, .int .i64 p.born, .int .i64 p.life, .string p.data] 30)) from (Below.refl _ _).alloc (Nat.le_refl _) _)
      have HP1 := Lib.hid (blk_new wo (.cells #[.int .i64 p.id, .int .i64 p.dst, .int .i64 p.pr, .int .i64 p.born, .int .i64 p.life, .string p.data] 30) rfl)
      have hv1 : (wo.alloc (.cells #[.int .i64 p.id, .int .i64 p.dst, .int .i64 p.pr, .int .i64 p.born, .int .i64 p.life, .string p.data] 30)).heap.size = wo.heap.size + 1 := by simp
      set_option maxRecDepth 100000 in go_wp2_with fail
      refine (put_any L Aq cq q p _ (HI.out.row.below HV1.out) HI.out.ids).mono ?_
      rintro e w3 ⟨⟨A3, c3', A4, c4', rfl, hQ3, hG3, hF3, hF4⟩, hb3⟩
      obtain ⟨E, hE⟩ : ∃ E, putE L q p = E := ⟨_, rfl⟩
      obtain ⟨K, hK⟩ : ∃ K, putL L q p = K := ⟨_, rfl⟩
      obtain ⟨Qn, hQn⟩ : ∃ Qn, putQ L q p = Qn := ⟨_, rfl⟩
      obtain ⟨G, hG⟩ : ∃ G, putG L q p = G := ⟨_, rfl⟩
      have HEQ := Lib.hid (show putE L q p = E ∧ putL L q p = K ∧ putQ L q p = Qn ∧ putG L q p = G from ⟨hE, hK, hQn, hG⟩)
      rw [hE, hK, hQn, hG]
      rw [hQn] at hQ3
      rw [hG] at hG3
      have HQ3 := Lib.hid hQ3
      have HG3 := Lib.hid hG3
      have HF3 := Lib.hid hF3
      have HF4 := Lib.hid hF4
      have HB3 := Lib.hid (HV1.out.trans (hb3.mono (by omega)))
      have HP3 := Lib.hid (blk_below HP1.out hb3 (by omega))
      have hz3 : wo.heap.size + 1 ≤ w3.heap.size := by have := hb3.size; omega
      clear hb3 hQ3 hG3 hF3 hF4 hE hK hQn hG c0 c1 c2 c3 c4 c5 q0 q1 HV1 HP1 hv1
      by_cases hE0 : E = 0
      case neg =>
        have bE : (E != 0) = true := by simp [hE0]
        clear hE0
        set_option maxRecDepth 100000 in go_wp2
        go_roundw
        case rel => exact ⟨i + 1, Aq, cq, q, n, m, s, t, by simp, by omega, (HI.out.below HB3.out (Nat.le_refl _)).below ((Below.refl _ _).alloc (Nat.le_refl _) _) (by omega)⟩
        case measure => simp [intOf]; omega
      subst hE0
      have bE : ((0 : Int) != 0) = false := by simp
      have HPUT := put_keeps HEQ.out.1
      rw [HEQ.out.2.1, HEQ.out.2.2.1, HEQ.out.2.2.2] at HPUT
      have HPK := Lib.hid HPUT
      obtain rfl : K = L := HPUT.2.1
      have HIO := Lib.hid (inout_put HI.out.io HPUT.2.2.1 (ok_ids (chk_iff.1 HPUT.1)) HI.out.so.nodup HPUT.2.2.2.2.1)
      have hlenG : G.length ≤ 1 := by rw [← HEQ.out.2.2.2]; exact putG_len _ _ _
      have hlenQ : Qn.length + G.length = q.length + 1 := HPUT.2.2.2.2.2
      have HIDN := Lib.hid (show IdsOk Qn ∧ IdsOk G from by
        have hm : ∀ x : Pk, x ∈ Qn ∨ x ∈ G → (Lit.int .i64 x.id).wf = true := fun x hx => by
          have hx' : x.id ∈ p.id :: idsOf q := HPUT.2.2.2.2.1.mem_iff.1 (by
            rcases hx with h | h
            · exact List.mem_append_left _ (List.mem_map_of_mem h)
            · exact List.mem_append_right _ (List.mem_map_of_mem h))
          rcases List.mem_cons.1 hx' with e | hx'
          · rw [e]; exact HWF.out
          · obtain ⟨y, hy, e⟩ := List.mem_map.1 hx'
            rw [← e]; exact HI.out.ids y hy
        exact ⟨fun x hx => hm x (.inl hx), fun x hx => hm x (.inr hx)⟩)
      clear HPUT
      obtain ⟨p0, p1, p2, p3, p4, p5⟩ := box6 HP3.out
      have HI3 := Lib.hid (HI.out.below HB3.out (Nat.le_refl _))
      have lp : wo.heap.size < w3.heap.size := by omega
      have np : ¬ wo.heap.size = w3.heap.size := by omega
      have nQ3 : ¬ Q = w3.heap.size := by omega
      have lQ3 : Q < w3.heap.size := by omega
      have q0 : w3.cell? ⟨Q, 0, none⟩ = some (.int .i64 K) := blk_cell HI3.out.bq 0
      have q1 : w3.cell? ⟨Q, 1, none⟩ = some (.slice Aq q.length cq) := blk_cell HI3.out.bq 1
      have t1 : ((Qn.length : Int) + (G.length : Int) != (q.length : Int) + 1) = false := by simp; omega
      have hQ9 : Qn.length ≤ 9 := by omega
      have HV3 := Lib.hid (show Below w3.heap.size w3 (w3.alloc (.cells #[.int .i64 K, .slice A3 Qn.length c3'] 24)) from (Below.refl _ _).alloc (Nat.le_refl _) _)
      obtain ⟨x, hx⟩ : ∃ x, decide (p.id ∈ s) = x := ⟨_, rfl⟩
      have HXS := Lib.hid hx
      clear hx
      have HXT := Lib.hid (show x = true → decide (p.id ∈ t) = true from fun h => by
        have := HIO.out.1 (by have := HXS.out; rw [h] at this; simpa using this)
        simpa using this)
      have hlook : x = true ∨ x = false := by cases x <;> simp
      have hni : n < maxLen := by have := HI.out.hn; unfold maxLen; omega
      have HNX := Lib.hid (blk_new w3 (.cells #[.int .i64 K, .slice A3 Qn.length c3'] 24) rfl)
      have hv3 : (w3.alloc (.cells #[.int .i64 K, .slice A3 Qn.length c3'] 24)).heap.size = w3.heap.size + 1 := by simp
      cases x
      all_goals
        have hr1 := (HI3.out.si.alloc (.cells #[.int .i64 K, .slice A3 Qn.length c3'] 24)).run (T := 51) Try.underlying3 Try.underlying51 Try.underlying4 (zeroB _) p.id HWF.out
        have hr2 := (HI3.out.so.alloc (.cells #[.int .i64 K, .slice A3 Qn.length c3'] 24)).run (T := 51) Try.underlying3 Try.underlying51 Try.underlying4 (zeroB _) p.id HWF.out
        rw [HXS.out] at hr1
        first
          | rw [HXT.out rfl] at hr2
          | clear hr2
        set_option maxRecDepth 100000 in go_wp2_with fail
        clear hr1
        try clear hr2
        refine (check_any K A3 c3' Qn _ (HQ3.out.row.below HV3.out) HIDN.out.1).mono ?_
        rintro e w4 ⟨rfl, hb4⟩
        rw [HPK.out.2.2.2.1]
        have HB4 := Lib.hid (HV3.out.trans (hb4.mono (by omega)))
        have HN4 := Lib.hid (blk_below HNX.out hb4 (by omega))
        have HP4 := Lib.hid (blk_below HP3.out HB4.out lp)
        have HI4 := Lib.hid (HI3.out.below HB4.out (Nat.le_refl _))
        clear hb4 q0 q1 p0 p1 p2 p3 p4 p5
        have p0 : w4.cell? ⟨wo.heap.size, 0, none⟩ = some (.int .i64 p.id) := blk_cell HP4.out 0
        have q0 : w4.cell? ⟨Q, 0, none⟩ = some (.int .i64 K) := blk_cell HI4.out.bq 0
        have q1 : w4.cell? ⟨Q, 1, none⟩ = some (.slice Aq q.length cq) := blk_cell HI4.out.bq 1
        have y0 : w4.cell? ⟨w3.heap.size, 0, none⟩ = some (.int .i64 K) := blk_cell HN4.out 0
        have y1 : w4.cell? ⟨w3.heap.size, 1, none⟩ = some (.slice A3 Qn.length c3') := blk_cell HN4.out 1
        set_option maxRecDepth 100000 in go_wp2_with (first | ((at_mapUpdate; refine SetIs.add (K := 3) (E := 4) rfl _ _ _ rfl Try.underlying3 Try.underlying51 Try.underlying4 rfl HI4.out.si hni p.id rfl rfl HWF.out ?_); intro w5 hS5 hg5; (have HS5 := Lib.hid hS5); (have HG5 := Lib.hid hg5); (have p0' : w5.cell? ⟨wo.heap.size, 0, none⟩ = some (.int .i64 p.id) := blk_cell ((hg5.block wo.heap.size (blk_lt HP4.out) (by simp; omega)).trans HP4.out) 0); clear hS5 hg5) | ((at_delete; refine SetIs.del (K := 3) (E := 4) rfl _ _ rfl Try.underlying3 Try.underlying51 rfl (HI4.out.so.kept HG5.out (by simp)) p.id rfl HWF.out ?_); intro w6 hS6 hg6; (have HS6 := Lib.hid hS6); (have HG6 := Lib.hid hg6); clear hS6 hg6))
        have hfr3 : Fresh (Q + 3) A3 := fun a ha => by have := HF3.out a ha; simp at this; omega
        have hfr4 : Fresh (Q + 3) A4 := fun a ha => by have := HF4.out a ha; simp at this; omega
        obtain ⟨s', hs'⟩ : ∃ s', (if p.id ∈ s then s else p.id :: s) = s' := ⟨_, rfl⟩
        have hio2 := HIO.out
        rw [hs'] at hio2
        have HIO2 := Lib.hid hio2
        have hs5 := HS5.out
        rw [hs'] at hs5
        have HSP := Lib.hid hs'
        have HJ0 : Hid (KeJ Q w3.heap.size w2 K Aq q.length cq A3 c3' Qn A4 c4' G (n + 1) m s' (t.erase p.id) (t.erase p.id) 0 w6) := by
          have hX : Q + 2 < w3.heap.size := by omega
          refine ⟨((HI4.out.bel.grown HG5.out (Nat.le_of_lt (blk_lt HI4.out.bq)) (fun k e => by cases e; omega)).grown HG6.out (Nat.le_trans (Nat.le_of_lt (blk_lt HI4.out.bq)) HG5.out.size) (fun k e => by cases e; omega)), ?_, ?_, ?_, ?_, hfr3, hfr4, hs5.kept HG6.out (by simp), HS6.out, out_zero _ _⟩
          · have h5 := (HG5.out.block Q (blk_lt HI4.out.bq) (by simp)).trans HI4.out.bq
            exact (HG6.out.block Q (blk_lt h5) (by simp; omega)).trans h5
          · have h5 := (HG5.out.block w3.heap.size (blk_lt HN4.out) (by simp; omega)).trans HN4.out
            exact (HG6.out.block w3.heap.size (blk_lt h5) (by simp; omega)).trans h5
          · exact ((HQ3.out.below HB4.out).far hfr3 HG5.out (by omega)).far hfr3 HG6.out (by omega)
          · exact ((HG3.out.below HB4.out).far hfr4 HG5.out (by omega)).far hfr4 HG6.out (by omega)
        have hXQ : Q + 2 < w3.heap.size := by omega
        obtain ⟨X, hX⟩ : ∃ X, w3.heap.size = X := ⟨_, rfl⟩
        rw [hX] at HJ0 hXQ ⊢
        clear hX hio2 hs5 hs' p0 q0 q1 y0 y1 HIO HS5 HS6 HG5 HG6
        try clear p0'
        set_option maxRecDepth 100000 in
        go_loopw [99] (fun v wr => ∃ (j m1 : Nat) (t1 : List Int), v = .int .i64 j ∧ j ≤ G.length ∧ m1 ≤ m + j ∧ Hid (KeJ Q X w2 K Aq q.length cq A3 c3' Qn A4 c4' G (n + 1) m1 s' (t.erase p.id) t1 j wr)) (fun v _ => (G.length - (intOf v)).toNat)
        case atStart => exact ⟨0, m, t.erase p.id, rfl, by omega, by omega, HJ0.out⟩
        case round =>
          obtain ⟨j, m1, t1, rfl, hj, hm1, HJ⟩ := hrel
          by_cases hjl : j < G.length
          · have bj : decide ((j : Int) < G.length) = true := by simp; omega
            obtain ⟨ad4, rfl, c0, c1, c2, c3, c4, c5⟩ := HJ.out.row4.row.pk j (by omega) (by omega)
            rw [Int.toNat_natCast] at c0 c1 c2 c3 c4 c5
            have j1 : (0 : Int) ≤ j := by omega
            have j2 : (j : Int) < G.length := by omega
            have HWG := Lib.hid (HIDN.out.2.gp j1 j2)
            have hgid : (idsOf G)[j]'(by unfold idsOf; rw [List.length_map]; exact hjl) = (gp G j).id := by unfold idsOf; rw [List.getElem_map, gp_elem hjl]
            have hnx := out_next HIO2.out.2.1 HIO2.out.2.2.2.1 HJ.out.out (by unfold idsOf; rw [List.length_map]; exact hjl)
            rw [hgid] at hnx
            have hin := HIO2.out.2.2.1 (gp G j).id (by rw [← hgid]; exact List.getElem_mem _)
            obtain ⟨g, hg⟩ : ∃ g, gp G j = g := ⟨_, rfl⟩
            rw [hg] at c0 c1 c2 c3 c4 c5 HWG hnx hin
            have HNX := Lib.hid hnx
            have hr1 := (HJ.out.so.alloc (.cells #[.int .i64 g.id, .int .i64 g.dst, .int .i64 g.pr, .int .i64 g.born, .int .i64 g.life, .string g.data] 30)).run (T := 51) Try.underlying3 Try.underlying51 Try.underlying4 (zeroB _) g.id HWG.out
            have hr2 := (HJ.out.si.alloc (.cells #[.int .i64 g.id, .int .i64 g.dst, .int .i64 g.pr, .int .i64 g.born, .int .i64 g.life, .string g.data] 30)).run (T := 51) Try.underlying3 Try.underlying51 Try.underlying4 (zeroB _) g.id HWG.out
            rw [decide_eq_false hnx.1] at hr1
            rw [decide_eq_true hin] at hr2
            have HJA := Lib.hid (HJ.out.below ((Below.refl _ _).alloc (Nat.le_refl _) (.cells #[.int .i64 g.id, .int .i64 g.dst, .int .i64 g.pr, .int .i64 g.born, .int .i64 g.life, .string g.data] 30)))
            have hm1n : m1 < maxLen := by have := HI.out.hn; unfold maxLen; omega
            clear hg hgid hnx hin
            set_option maxRecDepth 100000 in go_wp2_with ((at_mapUpdate; refine SetIs.add (K := 3) (E := 4) rfl _ _ _ rfl Try.underlying3 Try.underlying51 Try.underlying4 rfl HJA.out.so hm1n g.id rfl rfl HWG.out ?_); intro w8 hS8 hg8; (have HJ8 := Lib.hid (HJA.out.add hXQ hS8 hg8 HNX.out.2)); clear hS8 hg8)
            go_roundw
            case rel => exact ⟨j + 1, m1 + 1, _, by simp, by omega, by omega, HJ8.out⟩
            case measure => simp [intOf]; omega
          · have bj : decide ((j : Int) < G.length) = false := by simp; omega
            obtain rfl : j = G.length := by omega
            have x0 : wr.cell? ⟨X, 0, none⟩ = some (.int .i64 K) := blk_cell HJ.out.bn 0
            have x1 : wr.cell? ⟨X, 1, none⟩ = some (.slice A3 Qn.length c3') := blk_cell HJ.out.bn 1
            have q0 : wr.cell? ⟨Q, 0, none⟩ = some (.int .i64 K) := blk_cell HJ.out.bq 0
            have q1 : wr.cell? ⟨Q, 1, none⟩ = some (.slice Aq q.length cq) := blk_cell HJ.out.bq 1
            have f0 : wr.frozen? ⟨Q, 0, none⟩ = false := blk_free HJ.out.bq 0
            have f1 : wr.frozen? ⟨Q, 1, none⟩ = false := blk_free HJ.out.bq 1
            have HFIN : Hid (KeI Q w2 K (i + 1) A3 c3' Qn (n + 1) m1 s' t1 ((wr.setCell ⟨Q, 0, none⟩ (.int .i64 K)).setCell ⟨Q, 1, none⟩ (.slice A3 Qn.length c3'))) :=
              ⟨(HJ.out.bel.setCell (Nat.le_refl _) _).setCell (Nat.le_refl _) _, set1_at (set1_at HJ.out.bq 0 (.int .i64 K)) 1 (.slice A3 Qn.length c3'), (HJ.out.row3.setFresh HJ.out.fr3 (by show Q < Q + 3; omega) _).setFresh HJ.out.fr3 (by show Q < Q + 3; omega) _, HJ.out.fr3, HPK.out.2.2.2.1, HIDN.out.1,
                (HJ.out.si.setCell (by show Q + 1 ≠ Q; omega) _).setCell (by show Q + 1 ≠ Q; omega) _, (HJ.out.so.setCell (by show Q + 2 ≠ Q; omega) _).setCell (by show Q + 2 ≠ Q; omega) _, by have := HI.out.hn; omega, HIO2.out.2.2.2.2 t1 (by have h := HJ.out.out; unfold idsOf at h ⊢; rw [List.length_map]; exact h)⟩
            set_option maxRecDepth 100000 in go_wp2
            go_roundw
            case rel => exact ⟨i + 1, A3, c3', Qn, n + 1, m1, s', t1, by simp, by omega, HFIN.out⟩
            case measure => simp [intOf]; omega
    · have hli : decide ((i : Int) < l.length) = false := by simp; omega
      obtain rfl : i = l.length := by omega
      have HE := Lib.hid (show serveE L q fr sv = 0 by unfold serveE; rw [if_neg (by rw [HI.out.chk]; simp), if_neg (by omega), if_neg (by omega)])
      have HL := Lib.hid (show serveL L q fr sv = L by unfold serveL; rw [if_pos HE.out])
      obtain ⟨R, hR⟩ : ∃ R, serveQ L q fr sv = R := ⟨_, rfl⟩
      obtain ⟨D, hD⟩ : ∃ D, serveD L q fr sv = D := ⟨_, rfl⟩
      have hR' : R = (srv fr sv q sv.length).1 := by rw [← hR]; unfold serveQ; rw [if_pos HE.out]
      have hD' : D = (srv fr sv q sv.length).2 := by rw [← hD]; unfold serveD; rw [if_pos HE.out]
      have HPM := Lib.hid (show List.Perm (idsOf R ++ idsD D) (idsOf q) by rw [hR', hD']; exact srv_perm fr sv q sv.length)
      have hlen : R.length + D.length = q.length := by rw [hR', hD']; exact srv_len fr sv q sv.length
      have HCR := Lib.hid (show chk L R = 0 by rw [hR']; exact srv_chk HI.out.chk fr sv sv.length)
      have HRE := Lib.hid hR
      have HDE := Lib.hid hD
      clear hR hD hR' hD'
      have hnd := HPM.out.nodup_iff.2 (ok_ids (chk_iff.1 HI.out.chk))
      rw [List.nodup_append] at hnd
      have HND := Lib.hid hnd
      have HWQ := Lib.hid (fun (k : Int) (hk : k ∈ idsOf q) => show (Lit.int .i64 k).wf = true by
        obtain ⟨y, hy, e⟩ := List.mem_map.1 hk
        rw [← e]; exact HI.out.ids y hy)
      have HRQ := Lib.hid (fun (k : Int) (hk : k ∈ idsOf R) => HPM.out.mem_iff.1 (List.mem_append_left _ hk))
      have HDQ := Lib.hid (fun (k : Int) (hk : k ∈ idsD D) => HPM.out.mem_iff.1 (List.mem_append_right _ hk))
      clear hnd
      set_option maxRecDepth 100000 in go_wp2_with fail
      refine (serve_any L Aq cq q fr As cs sv _ HI.out.row HI.out.ids (HV.out.below HBW.out)).mono ?_
      rintro e w3 ⟨⟨A3, c3', A4, c4', rfl, hP3, hP4⟩, hb3⟩
      rw [HE.out, HL.out, HRE.out, HDE.out]
      rw [HRE.out] at hP3
      rw [HDE.out] at hP4
      have HP3 := Lib.hid hP3
      have HP4 := Lib.hid hP4
      have HB3 := Lib.hid hb3
      have lQ3 : Q < w3.heap.size := Nat.lt_of_lt_of_le lQ hb3.size
      have nQ3 : ¬ Q = w3.heap.size := by omega
      have HI3 := Lib.hid (HI.out.below hb3 (Nat.le_refl _))
      clear hb3 hP3 hP4 q0 q1
      have q0 : w3.cell? ⟨Q, 0, none⟩ = some (.int .i64 L) := blk_cell HI3.out.bq 0
      have q1 : w3.cell? ⟨Q, 1, none⟩ = some (.slice Aq q.length cq) := blk_cell HI3.out.bq 1
      have t0 : ((0 : Int) != 0) = false := by simp
      have t1 : ((R.length : Int) + (D.length : Int) != (q.length : Int)) = false := by simp; omega
      have hR9 : R.length ≤ 8 := by omega
      have hD9 : D.length ≤ 8 := by omega
      have HV3 := Lib.hid (show Below w3.heap.size w3 (w3.alloc (.cells #[.int .i64 L, .slice A3 R.length c3'] 24)) from (Below.refl _ _).alloc (Nat.le_refl _) _)
      have HNX := Lib.hid (blk_new w3 (.cells #[.int .i64 L, .slice A3 R.length c3'] 24) rfl)
      have hv3 : (w3.alloc (.cells #[.int .i64 L, .slice A3 R.length c3'] 24)).heap.size = w3.heap.size + 1 := by simp
      have HIR := Lib.hid (show IdsOk R from fun x hx => HWQ.out x.id (HRQ.out x.id (List.mem_map_of_mem hx)))
      set_option maxRecDepth 100000 in go_wp2_with fail
      refine (check_any L A3 c3' R _ (HP3.out.row.below HV3.out) HIR.out).mono ?_
      rintro e w4 ⟨rfl, hb4⟩
      rw [HCR.out]
      have HB4 := Lib.hid (HV3.out.trans (hb4.mono (by omega)))
      have HN4 := Lib.hid (blk_below HNX.out hb4 (by omega))
      have y0 : w4.cell? ⟨w3.heap.size, 0, none⟩ = some (.int .i64 L) := blk_cell HN4.out 0
      have y1 : w4.cell? ⟨w3.heap.size, 1, none⟩ = some (.slice A3 R.length c3') := blk_cell HN4.out 1
      have HI4 := Lib.hid (HI3.out.below HB4.out (Nat.le_refl _))
      have hm40 : m ≤ 40 := by have := HI.out.hn; omega
      have HKL0 : Hid (KeL Q w2 A3 R A4 D n m s t (idsOf R) t 0 w4) := ⟨HI4.out.bel, Nat.lt_of_lt_of_le lQ3 HB4.out.size, HP3.out.row.below HB4.out, HP4.out.row.below HB4.out, HI4.out.si, HI4.out.so, out_zero _ _⟩
      have HIO := Lib.hid HI.out.io
      have HTN := Lib.hid HI.out.so.nodup
      have HSN := Lib.hid HI.out.si.nodup
      clear hb4 q0 q1
      set_option maxRecDepth 100000 in go_wp2
      clear y0 y1
      set_option maxRecDepth 100000 in
      go_loopw [151] (fun v wr => ∃ (j m1 : Nat) (t1 : List Int), v = .int .i64 j ∧ j ≤ R.length ∧ m1 ≤ m + j ∧ Hid (KeL Q w2 A3 R A4 D n m1 s t (idsOf R) t1 j wr)) (fun v _ => (R.length - (intOf v)).toNat)
      case atStart => exact ⟨0, m, t, rfl, by omega, by omega, HKL0.out⟩
      case round =>
        obtain ⟨j, m1, t1', rfl, hj, hm1, HJ⟩ := hrel
        by_cases hjl : j < R.length
        · have bj : decide ((j : Int) < R.length) = true := by simp; omega
          obtain ⟨ad4, rfl, c0, c1, c2, c3, c4, c5⟩ := HJ.out.row3.pk j (by omega) (by omega)
          rw [Int.toNat_natCast] at c0 c1 c2 c3 c4 c5
          have j1 : (0 : Int) ≤ j := by omega
          have j2 : (j : Int) < R.length := by omega
          have hgid : (idsOf R)[j]'(by unfold idsOf; rw [List.length_map]; exact hjl) = (gp R j).id := by unfold idsOf; rw [List.getElem_map, gp_elem hjl]
          have hmem : (gp R j).id ∈ idsOf R := by rw [← hgid]; exact List.getElem_mem _
          have hnx := out_next HND.out.1 (fun k hk => HIO.out.2 k (HRQ.out k hk)) HJ.out.out (by unfold idsOf; rw [List.length_map]; exact hjl)
          rw [hgid] at hnx
          have hin : (gp R j).id ∈ s := (HIO.out.1 _).2 (.inl (HRQ.out _ hmem))
          have HWG := Lib.hid (HWQ.out _ (HRQ.out _ hmem))
          obtain ⟨g, hg⟩ : ∃ g, gp R j = g := ⟨_, rfl⟩
          rw [hg] at c0 c1 c2 c3 c4 c5 HWG hnx hin
          have HNX := Lib.hid hnx
          have hr1 := (HJ.out.so.alloc (.cells #[.int .i64 g.id, .int .i64 g.dst, .int .i64 g.pr, .int .i64 g.born, .int .i64 g.life, .string g.data] 30)).run (T := 51) Try.underlying3 Try.underlying51 Try.underlying4 (zeroB _) g.id HWG.out
          have hr2 := (HJ.out.si.alloc (.cells #[.int .i64 g.id, .int .i64 g.dst, .int .i64 g.pr, .int .i64 g.born, .int .i64 g.life, .string g.data] 30)).run (T := 51) Try.underlying3 Try.underlying51 Try.underlying4 (zeroB _) g.id HWG.out
          rw [decide_eq_false hnx.1] at hr1
          rw [decide_eq_true hin] at hr2
          have HJA := Lib.hid (HJ.out.below ((Below.refl _ _).alloc (Nat.le_refl _) (.cells #[.int .i64 g.id, .int .i64 g.dst, .int .i64 g.pr, .int .i64 g.born, .int .i64 g.life, .string g.data] 30)))
          have hm1n : m1 < maxLen := by unfold maxLen; omega
          clear hg hgid hnx hin hmem
          set_option maxRecDepth 100000 in go_wp2_with ((at_mapUpdate; refine SetIs.add (K := 3) (E := 4) rfl _ _ _ rfl Try.underlying3 Try.underlying51 Try.underlying4 rfl HJA.out.so hm1n g.id rfl rfl HWG.out ?_); intro w8 hS8 hg8; (have HJ8 := Lib.hid (HJA.out.add hS8 hg8 HNX.out.2)); clear hS8 hg8)
          go_roundw
          case rel => exact ⟨j + 1, m1 + 1, _, by simp, by omega, by omega, HJ8.out⟩
          case measure => simp [intOf]; omega
        · have bj : decide ((j : Int) < R.length) = false := by simp; omega
          obtain rfl : j = R.length := by omega
          have hT1 : ∀ k, k ∈ t1' ↔ k ∈ t ∨ k ∈ idsOf R := fun k => by
            have h := HJ.out.out k
            rwa [show R.length = (idsOf R).length from by unfold idsOf; rw [List.length_map], List.take_length] at h
          have HT1 := Lib.hid hT1
          have HKL1 : Hid (KeL Q w2 A3 R A4 D n m1 s t1' (idsD D) t1' 0 wr) := ⟨HJ.out.bel, HJ.out.lt, HJ.out.row3, HJ.out.row4, HJ.out.si, HJ.out.so, out_zero _ _⟩
          obtain ⟨wz, rfl⟩ : ∃ wz : World, wz = wr := ⟨_, rfl⟩
          have hm48 : m1 ≤ 48 := by omega
          clear hT1 HJ hj hm1
          set_option maxRecDepth 100000 in go_wp2
          set_option maxRecDepth 100000 in
          go_loopw [172] (fun v wr => ∃ (j m2 : Nat) (t2 : List Int), v = .int .i64 j ∧ j ≤ D.length ∧ m2 ≤ m1 + j ∧ Hid (KeL Q w2 A3 R A4 D n m2 s t1' (idsD D) t2 j wr)) (fun v _ => (D.length - (intOf v)).toNat)
          case atStart => exact ⟨0, m1, t1', rfl, by omega, by omega, HKL1.out⟩
          case round =>
            obtain ⟨j, m2, t2, rfl, hj, hm2, HJ⟩ := hrel
            by_cases hjl : j < D.length
            · have bj : decide ((j : Int) < D.length) = true := by simp; omega
              obtain ⟨ad5, rfl, c0, c1, c2⟩ := HJ.out.row4.dp j (by omega) (by omega)
              rw [Int.toNat_natCast] at c0 c1 c2
              have j1 : (0 : Int) ≤ j := by omega
              have j2 : (j : Int) < D.length := by omega
              have hgid : (idsD D)[j]'(by unfold idsD; rw [List.length_map]; exact hjl) = (gd D j).id := by
                unfold idsD
                rw [List.getElem_map]
                simp [gd, List.getD_eq_getElem?_getD, List.getElem?_eq_getElem hjl]
              have hmem : (gd D j).id ∈ idsD D := by rw [← hgid]; exact List.getElem_mem _
              have hnx := out_next HND.out.2.1 (fun k hk hk' => by
                rcases (HT1.out k).1 hk' with h | h
                · exact HIO.out.2 k (HDQ.out k hk) h
                · exact HND.out.2.2 k h k hk rfl) HJ.out.out (by unfold idsD; rw [List.length_map]; exact hjl)
              rw [hgid] at hnx
              have hin : (gd D j).id ∈ s := (HIO.out.1 _).2 (.inl (HDQ.out _ hmem))
              have HWG := Lib.hid (HWQ.out _ (HDQ.out _ hmem))
              obtain ⟨g, hg⟩ : ∃ g, gd D j = g := ⟨_, rfl⟩
              rw [hg] at c0 c1 c2 HWG hnx hin
              have HNX := Lib.hid hnx
              have hr1 := (HJ.out.so.alloc (.cells #[.int .i64 g.id, .int .i64 g.slot, .bool g.dropped] 46)).run (T := 51) Try.underlying3 Try.underlying51 Try.underlying4 (zeroB _) g.id HWG.out
              have hr2 := (HJ.out.si.alloc (.cells #[.int .i64 g.id, .int .i64 g.slot, .bool g.dropped] 46)).run (T := 51) Try.underlying3 Try.underlying51 Try.underlying4 (zeroB _) g.id HWG.out
              rw [decide_eq_false hnx.1] at hr1
              rw [decide_eq_true hin] at hr2
              have HJA := Lib.hid (HJ.out.below ((Below.refl _ _).alloc (Nat.le_refl _) (.cells #[.int .i64 g.id, .int .i64 g.slot, .bool g.dropped] 46)))
              have hm1n : m2 < maxLen := by unfold maxLen; omega
              clear hg hgid hnx hin hmem
              set_option maxRecDepth 100000 in go_wp2_with ((at_mapUpdate; refine SetIs.add (K := 3) (E := 4) rfl _ _ _ rfl Try.underlying3 Try.underlying51 Try.underlying4 rfl HJA.out.so hm1n g.id rfl rfl HWG.out ?_); intro w8 hS8 hg8; (have HJ8 := Lib.hid (HJA.out.add hS8 hg8 HNX.out.2)); clear hS8 hg8)
              go_roundw
              case rel => exact ⟨j + 1, m2 + 1, _, by simp, by omega, by omega, HJ8.out⟩
              case measure => simp [intOf]; omega
            · have bj : decide ((j : Int) < D.length) = false := by simp; omega
              obtain rfl : j = D.length := by omega
              have hT2 : ∀ k, k ∈ t2 ↔ k ∈ t1' ∨ k ∈ idsD D := fun k => by
                have h := HJ.out.out k
                rwa [show D.length = (idsD D).length from by unfold idsD; rw [List.length_map], List.take_length] at h
              have hst : s.length = t2.length := by
                refine List.Perm.length_eq ((List.perm_ext_iff_of_nodup HSN.out HJ.out.so.nodup).2 fun k => ?_)
                rw [hT2, HT1.out, HIO.out.1, ← HPM.out.mem_iff, List.mem_append]
                constructor
                · rintro ((h | h) | h)
                  · exact .inl (.inr h)
                  · exact .inr h
                  · exact .inl (.inl h)
                · rintro ((h | h) | h)
                  · exact .inr h
                  · exact .inl (.inl h)
                  · exact .inl (.inr h)
              have t9 : ((s.length : Int) == (t2.length : Int)) = true := by simp [hst]
              clear hT2 hst
              set_option maxRecDepth 100000 in go_wp2_with (first | ((at_len; refine SetIs.len (K := 3) (E := 4) rfl _ rfl Try.underlying51 rfl HJ.out.si ?_)) | ((at_len; refine SetIs.len (K := 3) (E := 4) rfl _ rfl Try.underlying51 rfl HJ.out.so ?_)))
              go_ret
              exact ⟨rfl, HB2.out.trans (HJ.out.bel.mono (by have := HQQ.out; have := HB2.out.size; omega))⟩
end Go.Proofs.Ytckanomabhbkaaa
