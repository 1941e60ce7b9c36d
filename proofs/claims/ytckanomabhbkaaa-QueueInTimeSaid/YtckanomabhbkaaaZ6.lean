/- The law QueueInTime, walked. -/
import Derived.Test.YtckanomabhbkaaaYT
import Derived.Test.YtckanomabhbkaaaZ1
import Derived.Test.YtckanomabhbkaaaQV2
import Derived.Test.YtckanomabhbkaaaQW2
import Derived.Deep.DeepCutAuto
import Derived.Deep.QuietTactic
import Derived.BigQuiet
namespace Go.Proofs.Ytckanomabhbkaaa
open Go.RowKit Go.Shelf
set_option linter.unusedVariables false
/-- While the slots of the departures are noted: map M. -/
structure TiM (M : Nat) (W0 : World) (D : List Dp) (i : Nat) (wr : World) : Prop where
  bel : Below M W0 wr
  map : IMap 3 wr M i (leftF (D.take i))
theorem TiM.put {M : Nat} {W0 : World} {D : List Dp} {i : Nat} {W W1 : World} {k s : Int} (h : TiM M W0 D i W) (hi : i < D.length) (hk : (gd D i).id = k) (hs : (gd D i).slot = s) (o : Obj) (hm : IMap 3 W1 M (i + 1) (put1 (leftF (D.take i)) (.int .i64 k) s)) (hg : (W.alloc o).grownBy W1 (some M)) : TiM M W0 D (i + 1) W1 := by
  have hl := h.map.lt
  refine ⟨(h.bel.alloc (Nat.le_of_lt hl) o).grown hg (by simp; omega) (fun k e => by cases e; exact Nat.le_refl _), ?_⟩
  rw [← leftF_next hi, hk, hs]
  exact hm
/-- While the packets are looked at: map M holds the slots, map N the order. -/
structure TiP (M N : Nat) (W0 : World) (l : List Pk) (D : List Dp) (i n : Nat) (f : Lit → Option Int) (wr : World) : Prop where
  bel : Below W0.heap.size W0 wr
  map : IMap 3 wr M D.length (leftF D)
  ord : IMap 58 wr N n f
  inv : OrdI l D i f
  le : n ≤ i
  ne : M ≠ N
  old : W0.heap.size ≤ N
theorem TiP.below {M N : Nat} {W0 : World} {l : List Pk} {D : List Dp} {i n : Nat} {f : Lit → Option Int} {W W1 : World} (h : TiP M N W0 l D i n f W) (hb : Below W.heap.size W W1) : TiP M N W0 l D i n f W1 :=
  ⟨h.bel.trans (hb.mono h.bel.size), h.map.below hb h.map.lt, h.ord.below hb h.ord.lt, h.inv, h.le, h.ne, h.old⟩
theorem TiP.drewN {M N : Nat} {W0 : World} {l : List Pk} {D : List Dp} {i n : Nat} {f : Lit → Option Int} {W : World} (h : TiP M N W0 l D i n f W) (m : Nat) : TiP M N W0 l D i n f (W.drewN m) :=
  ⟨blw_drewN h.bel m, h.map.block rfl, h.ord.block rfl, h.inv, h.le, h.ne, h.old⟩
theorem TiP.skip {M N : Nat} {W0 : World} {l : List Pk} {D : List Dp} {i n : Nat} {f : Lit → Option Int} {W : World} (h : TiP M N W0 l D i n f W) : TiP M N W0 l D (i + 1) n f W :=
  ⟨h.bel, h.map, h.ord, h.inv.skip, by have := h.le; omega, h.ne, h.old⟩
theorem TiP.put {M N : Nat} {W0 : World} {l : List Pk} {D : List Dp} {i n : Nat} {f f1 : Lit → Option Int} {W W1 : World} (h : TiP M N W0 l D i n f W) (hm : IMap 58 W1 N (n + 1) f1) (hg : W.grownBy W1 (some N)) (hi : OrdI l D (i + 1) f1) : TiP M N W0 l D (i + 1) (n + 1) f1 W1 :=
  ⟨h.bel.grown hg h.bel.size (fun k e => by cases e; exact h.old), h.map.kept hg (by simp; exact h.ne), hm, hi, by have := h.le; omega, h.ne, h.old⟩
section
variable {K : TypeId} {w : World} {b n : Nat} {f : Lit → Option Int} {ops : Array Oper} {rest : List Oper} {o : Oper} {a : Act} {Q : Exit → Act → World → Prop}
theorem IMap.lookN {T : TypeId} (hg : o.guard = none) (m x : Operand) (hop : o.op = Op.lookup T m x true) (Kd : Maps.Keyed Try.prog K) (hT : Try.prog.underlying T = some (.map K 3))
    (hm : a.eval m = .map (some b)) (h : IMap K w b n f) (key : Value) (kl : Lit) (hx : a.eval x = key) (hk : keyOf Try.prog K key = some kl) (hf : f kl = none)
    (hQ : wpList Try.prog ops Q rest (a.put o.dst (.tuple #[.int .i64 0, .bool false])) w) : wpList Try.prog ops Q (o :: rest) a w :=
  IMap.look hg m x hop Kd hT hm h key kl hx hk (by rw [hf]; exact hQ)
theorem IMap.lookS {T : TypeId} (hg : o.guard = none) (m x : Operand) (hop : o.op = Op.lookup T m x true) (Kd : Maps.Keyed Try.prog K) (hT : Try.prog.underlying T = some (.map K 3))
    (hm : a.eval m = .map (some b)) (h : IMap K w b n f) (key : Value) (kl : Lit) (hx : a.eval x = key) (hk : keyOf Try.prog K key = some kl) (s : Int) (hf : f kl = some s)
    (hQ : wpList Try.prog ops Q rest (a.put o.dst (.tuple #[.int .i64 s, .bool true])) w) : wpList Try.prog ops Q (o :: rest) a w :=
  IMap.look hg m x hop Kd hT hm h key kl hx hk (by rw [hf]; exact hQ)
end
theorem steady_q (ad : Addr) (c : Nat) (l : List Int) (d : Int) (e b : Nat) (w : World) (hr : RowAt intc 1 w (some ad) l) (hb : b ≤ l.length) (hlc : l.length ≤ c) (hc : c ≤ 9223372036854775807) (he : 1 ≤ e) (he2 : e ≤ 255) (hl : l.length ≤ 100) (r : Bool) (hrr : steadyB (l.take b) d e = r) (n : Nat) :
    Calls Try.prog 37 #[.slice (some ad) b c, .int .i64 d, .int .i64 e] (w.drewN n) fun v w' => v = .returned (.bool r) ∧ w' = w.drewN n := by
  have hlen : (l.take b).length = b := by rw [List.length_take]; omega
  have h0 : RowAt intc 1 (w.drewN n) (some ad) (l.take b) := by
    have h := row_sub (show RowAt intc 1 (w.drewN n) (some ad) l from hr) 0 b
    rw [List.drop_zero] at h
    exact h
  have h := steady_any (some ad) c (l.take b) d e (w.drewN n) h0 (by omega) hc he he2 (by omega)
  rw [hlen, hrr] at h
  exact h.mono fun _ _ ⟨h1, h2⟩ => ⟨h1, h2.symm⟩
set_option maxHeartbeats 25600000 in
theorem queueInTime_any (L : Int) (A : Option Addr) (c : Nat) (l : List Pk) (fr : Int) (As : Option Addr) (cs : Nat) (sv : List Int) (id : Int) (e : Nat) (w : World) (hr : PkAt w A c l) (hids : IdsOk l) (hw1 : (Lit.int .u16 fr).wf = true) (hv : SlAt intc 1 w As cs sv) (hw3 : (Lit.int .i64 id).wf = true) (hw4 : (Lit.int .u8 (e : Int)).wf = true) :
    Calls Try.prog 8 #[.agg #[.int .i64 L, .slice A l.length c], .int .u16 fr, .slice As sv.length cs, .int .i64 id, .int .u8 e] w fun e w' => e = .returned (.bool true) ∧ Below w.heap.size w w' := by
  have HR := Lib.hid hr
  have HV := Lib.hid hv
  have hs63 := hv.row.1
  have hfr : 0 ≤ fr ∧ fr ≤ 65535 := by
    have e1 : IntKind.u16.min = 0 := rfl
    have e2 : IntKind.u16.max = 65535 := rfl
    simp [Lit.wf] at hw1
    omega
  have hev : e ≤ 255 := by
    have e1 : IntKind.u8.min = 0 := rfl
    have e2 : IntKind.u8.max = 255 := rfl
    simp [Lit.wf] at hw4
    omega
  have hcap := hr.cap
  clear hr hw1 hw3 hw4 hv
  have hu24 := Try.underlying24
  have hu30 := Try.underlying30
  have hmm := @run_makeMap Try.prog
  have HA : ∀ W, Hid (Calls Try.prog 18 #[] W fun e w' => e = .returned (.bool true) ∧ Below W.heap.size W w') := awake_any
  obtain ⟨x, hx⟩ : ∃ x, few l = x := ⟨_, rfl⟩
  have HX := Lib.hid hx
  clear hx
  by_cases hskip : x = false ∨ 100 < sv.length ∨ chk L l ≠ 0
  · have hsk : x = false ∨ (x = true ∧ 100 < sv.length) ∨ (x = true ∧ ¬ 100 < sv.length ∧ chk L l ≠ 0) := by
      cases x
      · exact .inl rfl
      · by_cases h : 100 < sv.length
        · exact .inr (.inl ⟨rfl, h⟩)
        · exact .inr (.inr ⟨rfl, h, by rcases hskip with h1 | h1 | h1 <;> first | cases h1 | exact absurd h1 h | exact h1⟩)
    clear hskip
    rcases hsk with rfl | ⟨rfl, h2⟩ | ⟨rfl, h2, h1⟩
    · set_option maxRecDepth 100000 in go_enter Try.func8, Try.ntmps8
      set_option maxRecDepth 100000 in go_wp2_with fail
      refine (HA _).out.mono ?_
      rintro z w1 ⟨rfl, hb1⟩
      have HB1 := Lib.hid (show Below (w.heap.size + 1) (w.alloc (.cells #[.int .i64 L, .slice A l.length c] 24)) w1 from by simpa using hb1)
      obtain ⟨⟨q0, q1⟩, l1⟩ := box24 HB1.out
      clear hb1
      set_option maxRecDepth 100000 in go_wp2_with fail
      refine (few_any L A c l _ (HR.out.row.below (box24_bel HB1.out))).mono ?_
      rintro z w2 ⟨rfl, hb2⟩
      rw [HX.out]
      have HB2 := Lib.hid (HB1.out.trans (hb2.mono (by omega)))
      clear q0 q1 hb2 hmm
      set_option maxRecDepth 100000 in go_wp2
      go_ret
      exact ⟨rfl, box24_bel HB2.out⟩
    · have b2 : decide ((100 : Int) < sv.length) = true := by simp; omega
      have b2' : decide (100 < sv.length) = true := by simp; omega
      clear h2
      set_option maxRecDepth 100000 in go_enter Try.func8, Try.ntmps8
      set_option maxRecDepth 100000 in go_wp2_with fail
      refine (HA _).out.mono ?_
      rintro z w1 ⟨rfl, hb1⟩
      have HB1 := Lib.hid (show Below (w.heap.size + 1) (w.alloc (.cells #[.int .i64 L, .slice A l.length c] 24)) w1 from by simpa using hb1)
      obtain ⟨⟨q0, q1⟩, l1⟩ := box24 HB1.out
      clear hb1
      set_option maxRecDepth 100000 in go_wp2_with fail
      refine (few_any L A c l _ (HR.out.row.below (box24_bel HB1.out))).mono ?_
      rintro z w2 ⟨rfl, hb2⟩
      rw [HX.out]
      have HB2 := Lib.hid (HB1.out.trans (hb2.mono (by omega)))
      clear q0 q1 hb2 hmm
      set_option maxRecDepth 100000 in go_wp2
      go_ret
      exact ⟨rfl, box24_bel HB2.out⟩
    · have b2 : decide ((100 : Int) < sv.length) = false := by simp; omega
      have b2' : decide (100 < sv.length) = false := by simp; omega
      have b1 : (chk L l != 0) = true := by simp [h1]
      clear h2 h1
      set_option maxRecDepth 100000 in go_enter Try.func8, Try.ntmps8
      set_option maxRecDepth 100000 in go_wp2_with fail
      refine (HA _).out.mono ?_
      rintro z w1 ⟨rfl, hb1⟩
      have HB1 := Lib.hid (show Below (w.heap.size + 1) (w.alloc (.cells #[.int .i64 L, .slice A l.length c] 24)) w1 from by simpa using hb1)
      obtain ⟨⟨q0, q1⟩, l1⟩ := box24 HB1.out
      clear hb1
      set_option maxRecDepth 100000 in go_wp2_with fail
      refine (few_any L A c l _ (HR.out.row.below (box24_bel HB1.out))).mono ?_
      rintro z w2 ⟨rfl, hb2⟩
      rw [HX.out]
      have HB2 := Lib.hid (HB1.out.trans (hb2.mono (by omega)))
      clear q0 q1 hb2
      obtain ⟨⟨q0, q1⟩, l2⟩ := box24 HB2.out
      set_option maxRecDepth 100000 in go_wp2_with fail
      refine (check_any L A c l _ (HR.out.row.below (box24_bel HB2.out)) hids).mono ?_
      rintro z w3 ⟨rfl, hb3⟩
      have HB3 := Lib.hid (HB2.out.trans (hb3.mono (by omega)))
      clear q0 q1 hb3 hmm
      set_option maxRecDepth 100000 in go_wp2
      go_ret
      exact ⟨rfl, box24_bel HB3.out⟩
  obtain rfl : x = true := by cases x <;> simp_all
  have h2 : ¬ 100 < sv.length := fun h => hskip (.inr (.inl h))
  have h1 : chk L l = 0 := by
    by_cases h : chk L l = 0
    · exact h
    · exact absurd (.inr (.inr h)) hskip
  have H1 := Lib.hid h1
  have b1 : (chk L l != 0) = false := by simp [h1]
  have b2 : decide ((100 : Int) < sv.length) = false := by simp; omega
  have b2' : decide (100 < sv.length) = false := by simp; omega
  have hck := chk_ok h1
  have hl64 : l.length ≤ 64 := by omega
  have HE := Lib.hid (show serveE L l fr sv = 0 by unfold serveE; rw [if_neg (by rw [h1]; simp), if_neg (by omega), if_neg (by omega)])
  have hsv : sv.length ≤ 100 := by omega
  clear h1 h2 hskip hck
  set_option maxRecDepth 100000 in go_enter Try.func8, Try.ntmps8
  set_option maxRecDepth 100000 in go_wp2_with fail
  refine (HA _).out.mono ?_
  rintro z w1 ⟨rfl, hb1⟩
  have HB1 := Lib.hid (show Below (w.heap.size + 1) (w.alloc (.cells #[.int .i64 L, .slice A l.length c] 24)) w1 from by simpa using hb1)
  obtain ⟨⟨q0, q1⟩, l1⟩ := box24 HB1.out
  clear hb1
  set_option maxRecDepth 100000 in go_wp2_with fail
  refine (few_any L A c l _ (HR.out.row.below (box24_bel HB1.out))).mono ?_
  rintro z w2 ⟨rfl, hb2⟩
  rw [HX.out]
  have HB2 := Lib.hid (HB1.out.trans (hb2.mono (by omega)))
  clear q0 q1 hb2
  obtain ⟨⟨q0, q1⟩, l2⟩ := box24 HB2.out
  set_option maxRecDepth 100000 in go_wp2_with fail
  refine (check_any L A c l _ (HR.out.row.below (box24_bel HB2.out)) hids).mono ?_
  rintro z w3 ⟨rfl, hb3⟩
  have HB3 := Lib.hid (HB2.out.trans (hb3.mono (by omega)))
  clear q0 q1 hb3 l1 l2 HB1 HB2
  obtain ⟨⟨q0, q1⟩, l3⟩ := box24 HB3.out
  set_option maxRecDepth 100000 in go_wp2_with fail
  refine (serve_any L A c l fr As cs sv _ (HR.out.below (box24_bel HB3.out)) hids (HV.out.row.below (box24_bel HB3.out))).mono ?_
  rintro z w4 ⟨⟨A5, c5, A6, c6, rfl, hP5, hP6⟩, hb4⟩
  rw [HE.out]
  have HD0 := Lib.hid (show serveD L l fr sv = (srv fr sv l sv.length).2 by unfold serveD; rw [if_pos HE.out])
  obtain ⟨D, hD⟩ : ∃ D, serveD L l fr sv = D := ⟨_, rfl⟩
  rw [hD] at hP6 HD0 ⊢
  have HP6 := Lib.hid hP6.row
  have hDL : D.length ≤ 64 := by
    have h := srv_len fr sv l sv.length
    rw [← HD0.out] at h
    omega
  have hd63 : D.length ≤ 9223372036854775807 := by omega
  have HB4 := Lib.hid (HB3.out.trans (hb4.mono (by omega)))
  obtain ⟨K5, hK5⟩ : ∃ K, serveL L l fr sv = K := ⟨_, rfl⟩
  obtain ⟨Q5, hQ5⟩ : ∃ K, (serveQ L l fr sv).length = K := ⟨_, rfl⟩
  rw [hK5, hQ5]
  clear q0 q1 hb4 HB3 l3 hD hP5 hP6 hK5 hQ5
  obtain ⟨⟨q0, q1⟩, l4⟩ := box24 HB4.out
  set_option maxRecDepth 100000 in go_wp2
  clear q0 q1
  have HB5 := Lib.hid (HB4.out.alloc (show _ ≤ _ by omega) (.cells #[.int .i64 K5, .slice A5 Q5 c5] 24))
  have HP7 := Lib.hid (HP6.out.below ((Below.refl _ w4).alloc (Nat.le_refl _) (.cells #[.int .i64 K5, .slice A5 Q5 c5] 24)))
  have HT0 : Hid (TiM (w4.heap.size + 1) (w4.alloc (.cells #[.int .i64 K5, .slice A5 Q5 c5] 24)) D 0 ((w4.alloc (.cells #[.int .i64 K5, .slice A5 Q5 c5] 24)).alloc (.map #[] 0))) := by
    have hm := IMap.made (w4.alloc (.cells #[.int .i64 K5, .slice A5 Q5 c5] 24)) 3
    rw [World.size_alloc] at hm
    exact ⟨(Below.refl _ _).alloc (by simp) _, hm⟩
  have HSZ := Lib.hid (show (w4.alloc (.cells #[.int .i64 K5, .slice A5 Q5 c5] 24)).heap.size = w4.heap.size + 1 by simp)
  obtain ⟨M, hM⟩ : ∃ M, w4.heap.size + 1 = M := ⟨_, rfl⟩
  obtain ⟨w5, hw5⟩ : ∃ w5, w4.alloc (.cells #[.int .i64 K5, .slice A5 Q5 c5] 24) = w5 := ⟨_, rfl⟩
  rw [hM, hw5] at HT0
  rw [hw5] at HB5 HP7
  rw [hM, hw5] at HSZ
  rw [hM, hw5]
  have hBM : w.heap.size + 1 ≤ M := by omega
  clear hM hw5 HP6 HB4
  set_option maxRecDepth 100000 in
  go_loopw [58] (fun v wr => ∃ i : Nat, v = .int .i64 i ∧ i ≤ D.length ∧ Hid (TiM M w5 D i wr)) (fun v _ => (D.length - (intOf v)).toNat)
  case atStart => exact ⟨0, rfl, by omega, HT0.out⟩
  case round =>
    obtain ⟨i, rfl, hil, HT⟩ := hrel
    by_cases hlt : i < D.length
    · have HBW := Lib.hid (HT.out.bel)
      have HRD := Lib.hid (show RowAt Dp.cells 3 wr A6 D from HP7.out.below (by rw [HSZ.out]; exact HBW.out))
      obtain ⟨ad, rfl, d0, d1, d2⟩ := HRD.out.dp i (by omega) (by omega)
      rw [Int.toNat_natCast] at d0 d1 d2
      have hli : decide ((i : Int) < D.length) = true := by simp; omega
      have g1 : (0 : Int) ≤ i := by omega
      have g2 : (i : Int) < D.length := by omega
      have hmem := HD0.out ▸ gd_mem hlt
      have HWK := Lib.hid (show (Lit.int .i64 (gd D i).id).wf = true by
        have h := (srv_perm fr sv l sv.length).mem_iff (a := (gd D i).id)
        rw [← HD0.out] at h
        obtain ⟨p, hp, he⟩ := mem_idsOf.1 (h.1 (List.mem_append_right _ (mem_idsD.2 ⟨_, gd_mem hlt, rfl⟩)))
        rw [← he]
        exact hids p hp)
      have HWS := Lib.hid (show (Lit.int .i64 (gd D i).slot).wf = true by
        have h := srv_slots fr sv l sv.length (gd D i) (HD0.out ▸ gd_mem hlt)
        exact wfi (by omega) (by omega))
      clear hmem
      obtain ⟨k, hk⟩ : ∃ k, (gd D i).id = k := ⟨_, rfl⟩
      obtain ⟨s, hs⟩ : ∃ s, (gd D i).slot = s := ⟨_, rfl⟩
      obtain ⟨dr, hdr⟩ : ∃ s, (gd D i).dropped = s := ⟨_, rfl⟩
      rw [hk] at d0 HWK
      rw [hs] at d1 HWS
      rw [hdr] at d2
      have HK := Lib.hid hk
      have HS := Lib.hid hs
      have HIL := Lib.hid (show i < maxLen by unfold maxLen; omega)
      clear hk hs hdr
      set_option maxRecDepth 100000 in
      go_wp2_with (at_mapUpdate; refine IMap.store (K := 3) (T := 53) rfl _ _ _ rfl keyed3 Try.underlying53 rfl (HT.out.map.alloc _) HIL.out (.int .i64 k) (.int .i64 k) rfl (keyOf1 HWK.out) trivial s rfl HWS.out ?_; intro w6 hm6 hg6; (have HT6 := Lib.hid (HT.out.put hlt HK.out HS.out _ hm6 hg6)); clear hm6 hg6)
      go_roundw
      case rel => exact ⟨i + 1, by simp, by omega, HT6⟩
      case measure => simp [intOf]; omega
    · have hli : decide ((i : Int) < D.length) = false := by simp; omega
      obtain rfl : i = D.length := by omega
      have HM := Lib.hid (show IMap 3 wr M D.length (leftF D) by have h := HT.out.map; rwa [List.take_length] at h)
      have HRD := Lib.hid (show RowAt Dp.cells 3 wr A6 D from HP7.out.below (by rw [HSZ.out]; exact HT.out.bel))
      have HBX := Lib.hid (HB5.out.trans (HT.out.bel.mono hBM))
      have HRP := Lib.hid (HR.out.below (box24_bel HBX.out))
      have HRV := Lib.hid (HV.out.row.below (box24_bel HBX.out))
      have hMN := HT.out.map.lt
      have hMN' : ¬ M = wr.heap.size := by omega
      clear HT0 HT HP7 HSZ
      obtain ⟨⟨q0, q1⟩, l5⟩ := box24 HBX.out
      have n5 : ¬ w.heap.size = wr.heap.size := by omega
      set_option maxRecDepth 100000 in go_wp2
      have HT1 : Hid (TiP M wr.heap.size wr l D 0 0 (fun _ => none) (wr.alloc (.map #[] 0))) := ⟨(Below.refl _ _).alloc (Nat.le_refl _) _, HM.out.alloc _, IMap.made wr 58, OrdI.zero l D, Nat.le_refl _, hMN', Nat.le_refl _⟩
      clear q0 q1 hmm n5
      obtain ⟨N, hN⟩ : ∃ N, wr.heap.size = N := ⟨_, rfl⟩
      rw [hN] at HT1 ⊢
      have HN := Lib.hid hN
      clear hN
      obtain ⟨wz, rfl⟩ : ∃ wz : World, wz = wr := ⟨_, rfl⟩
      set_option maxRecDepth 100000 in
      go_loopw [72] (fun v wo => ∃ (i n : Nat) (f : Lit → Option Int), v = .int .i64 i ∧ i ≤ l.length ∧ Hid (TiP M N wz l D i n f wo)) (fun v _ => (l.length - (intOf v)).toNat)
      case atStart => exact ⟨0, 0, _, rfl, by omega, HT1.out⟩
      case round =>
        obtain ⟨i, n, f, rfl, hil, HT⟩ := hrel
        obtain ⟨wo, rfl⟩ : ∃ wo : World, wo = wr := ⟨_, rfl⟩
        have HBW := Lib.hid (HBX.out.trans (HT.out.bel.mono (by have := HBX.out.size; simp at this; omega)))
        by_cases hlt : i < l.length
        · obtain ⟨ad, rfl, c0, c1, c2, c3, c4, c5⟩ := (HRP.out.row.below HT.out.bel).pk i (by omega) (by omega)
          rw [Int.toNat_natCast] at c0 c1 c2 c3 c4 c5
          have hli : decide ((i : Int) < l.length) = true := by simp; omega
          have g1 : (0 : Int) ≤ i := by omega
          have g2 : (i : Int) < l.length := by omega
          have HLT := Lib.hid hlt
          have HWK := Lib.hid (hids.gp g1 g2)
          have HPF := Lib.hid ((chk_iff.1 H1.out).form _ (gp_mem hlt))
          have hpf := pform_rng HPF.out
          obtain ⟨p, hp⟩ : ∃ p, gp l i = p := ⟨_, rfl⟩
          rw [hp] at c0 c1 c2 c3 c4 c5 HWK HPF hpf
          have HPP := Lib.hid hp
          have hb0 : 0 ≤ p.born := hpf.2.2.2.1.1
          have hb1 : p.born ≤ 1099511627776 := hpf.2.2.2.1.2
          have HRG := Lib.hid hpf
          clear hp hpf
          set_option maxRecDepth 100000 in go_upto_region 18 with fail
          have HPB := Lib.hid (blk_new wo (.cells #[.int .i64 p.id, .int .i64 p.dst, .int .i64 p.pr, .int .i64 p.born, .int .i64 p.life, .string p.data] 30) rfl)
          have HTP := Lib.hid (HT.out.below ((Below.refl _ wo).alloc (Nat.le_refl _) (.cells #[.int .i64 p.id, .int .i64 p.dst, .int .i64 p.pr, .int .i64 p.born, .int .i64 p.life, .string p.data] 30)))
          have HBV := Lib.hid (show Below (w.heap.size + 1) (w.alloc (.cells #[.int .i64 L, .slice (some ad) l.length c] 24)) (wo.alloc (.cells #[.int .i64 p.id, .int .i64 p.dst, .int .i64 p.pr, .int .i64 p.born, .int .i64 p.life, .string p.data] 30)) from HBW.out.alloc (by have := HBW.out.size; simp at this; omega) _)
          obtain ⟨wp, hwp⟩ : ∃ wp, wo.alloc (.cells #[.int .i64 p.id, .int .i64 p.dst, .int .i64 p.pr, .int .i64 p.born, .int .i64 p.life, .string p.data] 30) = wp := ⟨_, rfl⟩
          obtain ⟨P, hP⟩ : ∃ P, wo.heap.size = P := ⟨_, rfl⟩
          have hNP : N < P := by have := HT.out.ord.lt; omega
          rw [hwp, hP] at HPB
          rw [hwp] at HTP HBV
          rw [hwp, hP]
          clear hwp hP c0 c1 c2 c3 c4 c5 HBW
          have HRDp := Lib.hid (show RowAt Dp.cells 3 wp A6 D from HRD.out.below HTP.out.bel)
          have HSL := Lib.hid (srv_slots fr sv l sv.length)
          rw [← HD0.out] at HSL
          have HND := Lib.hid (show (idsD D).Nodup by rw [HD0.out]; exact (not_both H1.out fr sv sv.length).1)
          have HRDp := Lib.hid (show RowAt Dp.cells 3 wp A6 D from HRD.out.below HTP.out.bel)
          have HSL := Lib.hid (srv_slots fr sv l sv.length)
          rw [← HD0.out] at HSL
          have HND := Lib.hid (show (idsD D).Nodup by rw [HD0.out]; exact (not_both H1.out fr sv sv.length).1)
          have k0 : wp.cell? ⟨P, 0, none⟩ = some (.int .i64 p.id) := blk_cell HPB.out 0
          have k1 : wp.cell? ⟨P, 1, none⟩ = some (.int .i64 p.dst) := blk_cell HPB.out 1
          have k2 : wp.cell? ⟨P, 2, none⟩ = some (.int .i64 p.pr) := blk_cell HPB.out 2
          have k3 : wp.cell? ⟨P, 3, none⟩ = some (.int .i64 p.born) := blk_cell HPB.out 3
          have k4 : wp.cell? ⟨P, 4, none⟩ = some (.int .i64 p.life) := blk_cell HPB.out 4
          rcases dix_cases D p.id with ⟨hx, hnot⟩ | ⟨m, hx, hm, hme⟩
          · have HI := Lib.hid hx
            have HNT := Lib.hid hnot
            have HF := Lib.hid (leftF_none hnot)
            have HW := Lib.hid (show 0 < sv.length → fr + sv.length - 1 - p.born < p.life from fun hz => by
              have h := wait_ok H1.out (fr := fr) (sv := sv) (by omega) (by omega) hsv HLT.out (by rw [HPP.out, ← HD0.out]; exact hnot) hz
              rwa [HPP.out] at h)
            clear hx hnot
            by_cases hz : 0 < sv.length
            · as_aux_lemma =>
                have bz : decide ((0 : Int) < sv.length) = true := by simp; omega
                have bz' : decide (0 < sv.length) = true := by simp; omega
                have bl : decide (p.life ≤ fr + sv.length - 1 - p.born) = false := by have := HW.out hz; simp; omega
                clear hz
                by_cases he : p.id = id
                · subst he
                  by_cases h0 : e = 0
                  · have u1 : ((e : Int) == 0) = true := by simp; omega
                    have u2 : (e == 0) = true := by simp; omega
                    clear h0
                    set_option maxRecDepth 100000 in
                    go_wp2_with (at_lookup; refine IMap.lookN (K := 3) (T := 53) rfl _ _ rfl keyed3 Try.underlying53 rfl HTP.out.map _ _ rfl (keyOf1 HWK.out) HF.out ?_)
                    refine (indexD_any P p.id A6 c6 D _ HRDp.out k0).mono ?_
                    rintro z w6 ⟨rfl, hb6⟩
                    rw [HI.out]
                    have HT6 := Lib.hid (HTP.out.below hb6)
                    have HP6 := Lib.hid (blk_below HPB.out hb6 (blk_lt HPB.out))
                    have HRD6 := Lib.hid (HRD.out.below HT6.out.bel)
                    clear hb6 k0 k1 k2 k3 k4
                    have k0 : w6.cell? ⟨P, 0, none⟩ = some (.int .i64 p.id) := blk_cell HP6.out 0
                    have k1 : w6.cell? ⟨P, 1, none⟩ = some (.int .i64 p.dst) := blk_cell HP6.out 1
                    have k2 : w6.cell? ⟨P, 2, none⟩ = some (.int .i64 p.pr) := blk_cell HP6.out 2
                    have k3 : w6.cell? ⟨P, 3, none⟩ = some (.int .i64 p.born) := blk_cell HP6.out 3
                    have k4 : w6.cell? ⟨P, 4, none⟩ = some (.int .i64 p.life) := blk_cell HP6.out 4
                    obtain ⟨⟨q0, q1⟩, lq⟩ := box24 (HBX.out.trans (HT6.out.bel.mono (by have := HBX.out.size; simp at this; omega)))
                    have HT9 := Lib.hid HT6.out.skip
                    set_option maxRecDepth 100000 in go_wp2_with fail
                    go_roundw
                    case rel => exact ⟨i + 1, n, f, by simp, by omega, HT9.out⟩
                    case measure => simp [intOf]; omega
                  · have u1 : ((e : Int) == 0) = false := by simp; omega
                    have u2 : (e == 0) = false := by simp; omega
                    have HE1 := Lib.hid (show 1 ≤ e by omega)
                    obtain ⟨a, ha, hbE, hbV, hbM⟩ := bound_is H1.out HLT.out HE1.out hev
                    rw [HPP.out] at ha hbE hbV
                    obtain ⟨bd, hbd⟩ : ∃ bd, e * (a + 1) = bd := ⟨_, rfl⟩
                    have HBO := Lib.hid (show bd ≤ sv.length → steadyB (sv.take bd) p.dst e = true → ∃ d ∈ D, d.id = p.id ∧ d.slot < fr + (bd : Int) from fun h1 h2 => by
                      have h := bound_ok H1.out (fr := fr) (sv := sv) HLT.out (e := e) (a := a) (by rw [HPP.out]; exact ha) (by rw [hbd]; exact h1) (by rw [hbd, HPP.out]; exact h2)
                      rw [hbd, HPP.out, ← HD0.out] at h
                      exact h)
                    rw [hbd] at hbV hbM
                    have HBE1 := Lib.hid hbE
                    have HBV1 := Lib.hid hbV
                    have hbd1 : 1 ≤ bd := by have h := Nat.mul_le_mul HE1.out (show 1 ≤ a + 1 by omega); rw [hbd] at h; exact h
                    clear h0 ha hbE hbV hbd
                    have HNO := Lib.hid (show bd ≤ sv.length → steadyB (sv.take bd) p.dst e = true → False from fun h1 h2 => by
                      obtain ⟨d, hd, hdi, _⟩ := HBO.out h1 h2
                      exact HNT.out (mem_idsD.2 ⟨d, hd, hdi⟩))
                    set_option maxRecDepth 100000 in
                    go_wp2_with (at_lookup; refine IMap.lookN (K := 3) (T := 53) rfl _ _ rfl keyed3 Try.underlying53 rfl HTP.out.map _ _ rfl (keyOf1 HWK.out) HF.out ?_)
                    refine (indexD_any P p.id A6 c6 D _ HRDp.out k0).mono ?_
                    rintro z w6 ⟨rfl, hb6⟩
                    rw [HI.out]
                    have HT6 := Lib.hid (HTP.out.below hb6)
                    have HP6 := Lib.hid (blk_below HPB.out hb6 (blk_lt HPB.out))
                    have HRD6 := Lib.hid (HRD.out.below HT6.out.bel)
                    clear hb6 k0 k1 k2 k3 k4
                    have k0 : w6.cell? ⟨P, 0, none⟩ = some (.int .i64 p.id) := blk_cell HP6.out 0
                    have k1 : w6.cell? ⟨P, 1, none⟩ = some (.int .i64 p.dst) := blk_cell HP6.out 1
                    have k2 : w6.cell? ⟨P, 2, none⟩ = some (.int .i64 p.pr) := blk_cell HP6.out 2
                    have k3 : w6.cell? ⟨P, 3, none⟩ = some (.int .i64 p.born) := blk_cell HP6.out 3
                    have k4 : w6.cell? ⟨P, 4, none⟩ = some (.int .i64 p.life) := blk_cell HP6.out 4
                    obtain ⟨⟨q0, q1⟩, lq⟩ := box24 (HBX.out.trans (HT6.out.bel.mono (by have := HBX.out.size; simp at this; omega)))
                    have HT9 := Lib.hid HT6.out.skip
                    set_option maxRecDepth 100000 in go_wp2_with fail
                    refine (bound_any L (some ad) c l p.id e _ (HRP.out.below HT9.out.bel) hids).mono ?_
                    rintro z w8 ⟨rfl, hb8⟩
                    rw [HBV1.out, HBE1.out]
                    have HT8 := Lib.hid (HT9.out.below hb8)
                    have HP8 := Lib.hid (blk_below HP6.out hb8 (blk_lt HP6.out))
                    clear hb8 k0 k1 k2 k3 k4
                    have k0 : w8.cell? ⟨P, 0, none⟩ = some (.int .i64 p.id) := blk_cell HP8.out 0
                    have k1 : w8.cell? ⟨P, 1, none⟩ = some (.int .i64 p.dst) := blk_cell HP8.out 1
                    have k2 : w8.cell? ⟨P, 2, none⟩ = some (.int .i64 p.pr) := blk_cell HP8.out 2
                    have k3 : w8.cell? ⟨P, 3, none⟩ = some (.int .i64 p.born) := blk_cell HP8.out 3
                    have k4 : w8.cell? ⟨P, 4, none⟩ = some (.int .i64 p.life) := blk_cell HP8.out 4
                    by_cases hbl : sv.length < bd
                    · have b3 : decide ((sv.length : Int) < (bd : Int)) = true := by simp; omega
                      have b3' : decide (sv.length < bd) = true := by simp; omega
                      clear hbl
                      set_option maxRecDepth 100000 in go_wp2_with fail
                      go_quiet (fail)
                      set_option maxRecDepth 100000 in go_wp2
                      go_roundw
                      case rel => exact ⟨i + 1, n, f, by simp, by omega, HT8.out.drewN _⟩
                      case measure => simp [intOf]; omega
                    have b3 : decide ((sv.length : Int) < (bd : Int)) = false := by simp; omega
                    have b3' : decide (sv.length < bd) = false := by simp; omega
                    obtain ⟨av, rfl⟩ : ∃ av, As = some av := by
                      obtain ⟨av, h, _⟩ := HV.out.row.2 (by omega)
                      exact ⟨av, h⟩
                    have HRW := Lib.hid (HRV.out.below HT8.out.bel)
                    have hbc : bd ≤ cs := by have := HV.out.le; omega
                    have hbc' : (bd : Int) ≤ (cs : Int) := by omega
                    have hbt : ((bd : Nat) : Int).toNat = bd := by omega
                    have HLE := Lib.hid HV.out.le
                    have HCA := Lib.hid HV.out.cap
                    have hb0' : (0 : Int) ≤ (bd : Int) := by omega
                    obtain ⟨r, hr⟩ : ∃ r, steadyB (sv.take bd) p.dst e = r := ⟨_, rfl⟩
                    have HSY := Lib.hid hr
                    have HBL := Lib.hid (show bd ≤ sv.length by omega)
                    clear hr hbl
                    cases r
                    · set_option maxRecDepth 100000 in go_wp2_with fail
                      set_option maxRecDepth 100000 in go_quiet ((go_at_call 37; exact Calls.quiet_of_same (steady_q av cs sv p.dst e bd _ HRW.out HBL.out HLE.out HCA.out HE1.out hev hsv _ HSY.out _)))
                      set_option maxRecDepth 100000 in go_wp2
                      go_roundw
                      case rel => exact ⟨i + 1, n, f, by simp, by omega, HT8.out.drewN _⟩
                      case measure => simp [intOf]; omega
                    · set_option maxRecDepth 100000 in go_wp2_with fail
                      set_option maxRecDepth 100000 in go_quiet ((go_at_call 37; exact Calls.quiet_of_same (steady_q av cs sv p.dst e bd _ HRW.out HBL.out HLE.out HCA.out HE1.out hev hsv _ HSY.out _)))
                      exfalso
                      exact HNO.out HBL.out HSY.out
                · have u1 : (p.id != id) = true := by simp [he]
                  clear he
                  set_option maxRecDepth 100000 in
                  go_wp2_with (at_lookup; refine IMap.lookN (K := 3) (T := 53) rfl _ _ rfl keyed3 Try.underlying53 rfl HTP.out.map _ _ rfl (keyOf1 HWK.out) HF.out ?_)
                  refine (indexD_any P p.id A6 c6 D _ HRDp.out k0).mono ?_
                  rintro z w6 ⟨rfl, hb6⟩
                  rw [HI.out]
                  have HT6 := Lib.hid (HTP.out.below hb6)
                  have HP6 := Lib.hid (blk_below HPB.out hb6 (blk_lt HPB.out))
                  have HRD6 := Lib.hid (HRD.out.below HT6.out.bel)
                  clear hb6 k0 k1 k2 k3 k4
                  have k0 : w6.cell? ⟨P, 0, none⟩ = some (.int .i64 p.id) := blk_cell HP6.out 0
                  have k1 : w6.cell? ⟨P, 1, none⟩ = some (.int .i64 p.dst) := blk_cell HP6.out 1
                  have k2 : w6.cell? ⟨P, 2, none⟩ = some (.int .i64 p.pr) := blk_cell HP6.out 2
                  have k3 : w6.cell? ⟨P, 3, none⟩ = some (.int .i64 p.born) := blk_cell HP6.out 3
                  have k4 : w6.cell? ⟨P, 4, none⟩ = some (.int .i64 p.life) := blk_cell HP6.out 4
                  obtain ⟨⟨q0, q1⟩, lq⟩ := box24 (HBX.out.trans (HT6.out.bel.mono (by have := HBX.out.size; simp at this; omega)))
                  have HT9 := Lib.hid HT6.out.skip
                  set_option maxRecDepth 100000 in go_wp2_with fail
                  go_roundw
                  case rel => exact ⟨i + 1, n, f, by simp, by omega, HT9.out⟩
                  case measure => simp [intOf]; omega
            · as_aux_lemma =>
                have bz : decide ((0 : Int) < sv.length) = false := decide_eq_false (by omega)
                have bz' : decide (0 < sv.length) = false := decide_eq_false (by omega)
                clear hz
                by_cases he : p.id = id
                · subst he
                  by_cases h0 : e = 0
                  · have u1 : ((e : Int) == 0) = true := by simp; omega
                    have u2 : (e == 0) = true := by simp; omega
                    clear h0
                    set_option maxRecDepth 100000 in
                    go_wp2_with (at_lookup; refine IMap.lookN (K := 3) (T := 53) rfl _ _ rfl keyed3 Try.underlying53 rfl HTP.out.map _ _ rfl (keyOf1 HWK.out) HF.out ?_)
                    refine (indexD_any P p.id A6 c6 D _ HRDp.out k0).mono ?_
                    rintro z w6 ⟨rfl, hb6⟩
                    rw [HI.out]
                    have HT6 := Lib.hid (HTP.out.below hb6)
                    have HP6 := Lib.hid (blk_below HPB.out hb6 (blk_lt HPB.out))
                    have HRD6 := Lib.hid (HRD.out.below HT6.out.bel)
                    clear hb6 k0 k1 k2 k3 k4
                    have k0 : w6.cell? ⟨P, 0, none⟩ = some (.int .i64 p.id) := blk_cell HP6.out 0
                    have k1 : w6.cell? ⟨P, 1, none⟩ = some (.int .i64 p.dst) := blk_cell HP6.out 1
                    have k2 : w6.cell? ⟨P, 2, none⟩ = some (.int .i64 p.pr) := blk_cell HP6.out 2
                    have k3 : w6.cell? ⟨P, 3, none⟩ = some (.int .i64 p.born) := blk_cell HP6.out 3
                    have k4 : w6.cell? ⟨P, 4, none⟩ = some (.int .i64 p.life) := blk_cell HP6.out 4
                    obtain ⟨⟨q0, q1⟩, lq⟩ := box24 (HBX.out.trans (HT6.out.bel.mono (by have := HBX.out.size; simp at this; omega)))
                    have HT9 := Lib.hid HT6.out.skip
                    set_option maxRecDepth 100000 in go_wp2_with fail
                    go_roundw
                    case rel => exact ⟨i + 1, n, f, by simp, by omega, HT9.out⟩
                    case measure => simp [intOf]; omega
                  · have u1 : ((e : Int) == 0) = false := by simp; omega
                    have u2 : (e == 0) = false := by simp; omega
                    have HE1 := Lib.hid (show 1 ≤ e by omega)
                    obtain ⟨a, ha, hbE, hbV, hbM⟩ := bound_is H1.out HLT.out HE1.out hev
                    rw [HPP.out] at ha hbE hbV
                    obtain ⟨bd, hbd⟩ : ∃ bd, e * (a + 1) = bd := ⟨_, rfl⟩
                    have HBO := Lib.hid (show bd ≤ sv.length → steadyB (sv.take bd) p.dst e = true → ∃ d ∈ D, d.id = p.id ∧ d.slot < fr + (bd : Int) from fun h1 h2 => by
                      have h := bound_ok H1.out (fr := fr) (sv := sv) HLT.out (e := e) (a := a) (by rw [HPP.out]; exact ha) (by rw [hbd]; exact h1) (by rw [hbd, HPP.out]; exact h2)
                      rw [hbd, HPP.out, ← HD0.out] at h
                      exact h)
                    rw [hbd] at hbV hbM
                    have HBE1 := Lib.hid hbE
                    have HBV1 := Lib.hid hbV
                    have hbd1 : 1 ≤ bd := by have h := Nat.mul_le_mul HE1.out (show 1 ≤ a + 1 by omega); rw [hbd] at h; exact h
                    clear h0 ha hbE hbV hbd
                    have HNO := Lib.hid (show bd ≤ sv.length → steadyB (sv.take bd) p.dst e = true → False from fun h1 h2 => by
                      obtain ⟨d, hd, hdi, _⟩ := HBO.out h1 h2
                      exact HNT.out (mem_idsD.2 ⟨d, hd, hdi⟩))
                    set_option maxRecDepth 100000 in
                    go_wp2_with (at_lookup; refine IMap.lookN (K := 3) (T := 53) rfl _ _ rfl keyed3 Try.underlying53 rfl HTP.out.map _ _ rfl (keyOf1 HWK.out) HF.out ?_)
                    refine (indexD_any P p.id A6 c6 D _ HRDp.out k0).mono ?_
                    rintro z w6 ⟨rfl, hb6⟩
                    rw [HI.out]
                    have HT6 := Lib.hid (HTP.out.below hb6)
                    have HP6 := Lib.hid (blk_below HPB.out hb6 (blk_lt HPB.out))
                    have HRD6 := Lib.hid (HRD.out.below HT6.out.bel)
                    clear hb6 k0 k1 k2 k3 k4
                    have k0 : w6.cell? ⟨P, 0, none⟩ = some (.int .i64 p.id) := blk_cell HP6.out 0
                    have k1 : w6.cell? ⟨P, 1, none⟩ = some (.int .i64 p.dst) := blk_cell HP6.out 1
                    have k2 : w6.cell? ⟨P, 2, none⟩ = some (.int .i64 p.pr) := blk_cell HP6.out 2
                    have k3 : w6.cell? ⟨P, 3, none⟩ = some (.int .i64 p.born) := blk_cell HP6.out 3
                    have k4 : w6.cell? ⟨P, 4, none⟩ = some (.int .i64 p.life) := blk_cell HP6.out 4
                    obtain ⟨⟨q0, q1⟩, lq⟩ := box24 (HBX.out.trans (HT6.out.bel.mono (by have := HBX.out.size; simp at this; omega)))
                    have HT9 := Lib.hid HT6.out.skip
                    set_option maxRecDepth 100000 in go_wp2_with fail
                    refine (bound_any L (some ad) c l p.id e _ (HRP.out.below HT9.out.bel) hids).mono ?_
                    rintro z w8 ⟨rfl, hb8⟩
                    rw [HBV1.out, HBE1.out]
                    have HT8 := Lib.hid (HT9.out.below hb8)
                    have HP8 := Lib.hid (blk_below HP6.out hb8 (blk_lt HP6.out))
                    clear hb8 k0 k1 k2 k3 k4
                    have k0 : w8.cell? ⟨P, 0, none⟩ = some (.int .i64 p.id) := blk_cell HP8.out 0
                    have k1 : w8.cell? ⟨P, 1, none⟩ = some (.int .i64 p.dst) := blk_cell HP8.out 1
                    have k2 : w8.cell? ⟨P, 2, none⟩ = some (.int .i64 p.pr) := blk_cell HP8.out 2
                    have k3 : w8.cell? ⟨P, 3, none⟩ = some (.int .i64 p.born) := blk_cell HP8.out 3
                    have k4 : w8.cell? ⟨P, 4, none⟩ = some (.int .i64 p.life) := blk_cell HP8.out 4
                    by_cases hbl : sv.length < bd
                    · have b3 : decide ((sv.length : Int) < (bd : Int)) = true := by simp; omega
                      have b3' : decide (sv.length < bd) = true := by simp; omega
                      clear hbl
                      set_option maxRecDepth 100000 in go_wp2_with fail
                      go_quiet (fail)
                      set_option maxRecDepth 100000 in go_wp2
                      go_roundw
                      case rel => exact ⟨i + 1, n, f, by simp, by omega, HT8.out.drewN _⟩
                      case measure => simp [intOf]; omega
                    have b3 : decide ((sv.length : Int) < (bd : Int)) = false := by simp; omega
                    have b3' : decide (sv.length < bd) = false := by simp; omega
                    obtain ⟨av, rfl⟩ : ∃ av, As = some av := by
                      obtain ⟨av, h, _⟩ := HV.out.row.2 (by omega)
                      exact ⟨av, h⟩
                    have HRW := Lib.hid (HRV.out.below HT8.out.bel)
                    have hbc : bd ≤ cs := by have := HV.out.le; omega
                    have hbc' : (bd : Int) ≤ (cs : Int) := by omega
                    have hbt : ((bd : Nat) : Int).toNat = bd := by omega
                    have HLE := Lib.hid HV.out.le
                    have HCA := Lib.hid HV.out.cap
                    have hb0' : (0 : Int) ≤ (bd : Int) := by omega
                    obtain ⟨r, hr⟩ : ∃ r, steadyB (sv.take bd) p.dst e = r := ⟨_, rfl⟩
                    have HSY := Lib.hid hr
                    have HBL := Lib.hid (show bd ≤ sv.length by omega)
                    clear hr hbl
                    cases r
                    · set_option maxRecDepth 100000 in go_wp2_with fail
                      set_option maxRecDepth 100000 in go_quiet ((go_at_call 37; exact Calls.quiet_of_same (steady_q av cs sv p.dst e bd _ HRW.out HBL.out HLE.out HCA.out HE1.out hev hsv _ HSY.out _)))
                      set_option maxRecDepth 100000 in go_wp2
                      go_roundw
                      case rel => exact ⟨i + 1, n, f, by simp, by omega, HT8.out.drewN _⟩
                      case measure => simp [intOf]; omega
                    · set_option maxRecDepth 100000 in go_wp2_with fail
                      set_option maxRecDepth 100000 in go_quiet ((go_at_call 37; exact Calls.quiet_of_same (steady_q av cs sv p.dst e bd _ HRW.out HBL.out HLE.out HCA.out HE1.out hev hsv _ HSY.out _)))
                      exfalso
                      exact HNO.out HBL.out HSY.out
                · have u1 : (p.id != id) = true := by simp [he]
                  clear he
                  set_option maxRecDepth 100000 in
                  go_wp2_with (at_lookup; refine IMap.lookN (K := 3) (T := 53) rfl _ _ rfl keyed3 Try.underlying53 rfl HTP.out.map _ _ rfl (keyOf1 HWK.out) HF.out ?_)
                  refine (indexD_any P p.id A6 c6 D _ HRDp.out k0).mono ?_
                  rintro z w6 ⟨rfl, hb6⟩
                  rw [HI.out]
                  have HT6 := Lib.hid (HTP.out.below hb6)
                  have HP6 := Lib.hid (blk_below HPB.out hb6 (blk_lt HPB.out))
                  have HRD6 := Lib.hid (HRD.out.below HT6.out.bel)
                  clear hb6 k0 k1 k2 k3 k4
                  have k0 : w6.cell? ⟨P, 0, none⟩ = some (.int .i64 p.id) := blk_cell HP6.out 0
                  have k1 : w6.cell? ⟨P, 1, none⟩ = some (.int .i64 p.dst) := blk_cell HP6.out 1
                  have k2 : w6.cell? ⟨P, 2, none⟩ = some (.int .i64 p.pr) := blk_cell HP6.out 2
                  have k3 : w6.cell? ⟨P, 3, none⟩ = some (.int .i64 p.born) := blk_cell HP6.out 3
                  have k4 : w6.cell? ⟨P, 4, none⟩ = some (.int .i64 p.life) := blk_cell HP6.out 4
                  obtain ⟨⟨q0, q1⟩, lq⟩ := box24 (HBX.out.trans (HT6.out.bel.mono (by have := HBX.out.size; simp at this; omega)))
                  have HT9 := Lib.hid HT6.out.skip
                  set_option maxRecDepth 100000 in go_wp2_with fail
                  go_roundw
                  case rel => exact ⟨i + 1, n, f, by simp, by omega, HT9.out⟩
                  case measure => simp [intOf]; omega
          · have HI := Lib.hid hx
            have g3 : (0 : Int) ≤ m := by omega
            have g4 : (m : Int) < D.length := by omega
            have HDM := Lib.hid (gd_mem hm)
            have hsl := HSL.out _ HDM.out
            have HSV := Lib.hid (show (gd D m).dropped = false → (gd D m).slot - p.born < p.life from fun h => by
              have h1 := served_ok H1.out (fr := fr) (sv := sv) (by omega) (by omega) hsv HLT.out (d := gd D m) (HD0.out ▸ HDM.out) (by rw [HPP.out]; exact hme) h
              rwa [HPP.out] at h1)
            have HF := Lib.hid (show leftF D (.int .i64 p.id) = some (gd D m).slot by have h := leftF_some HND.out HDM.out; rwa [hme] at h)
            have HORD := Lib.hid (show (gd D m).dropped = false → ∀ v, f (pk2 p.dst p.pr) = some v → v ≤ (gd D m).slot from fun h v hv => by
              have h1 := HTP.out.inv
              rw [HD0.out] at h1
              exact h1.le H1.out HLT.out (d := gd D m) (HD0.out ▸ HDM.out) (by rw [HPP.out]; exact hme) h (by rw [HPP.out]; exact hv))
            have HDI := Lib.hid hme
            clear hx hme
            obtain ⟨s, hs⟩ : ∃ s, (gd D m).slot = s := ⟨_, rfl⟩
            obtain ⟨dr, hdr⟩ : ∃ dr, (gd D m).dropped = dr := ⟨_, rfl⟩
            rw [hs, hdr] at HSV HORD
            rw [hs] at HF hsl
            have HDS := Lib.hid hs
            have HDR := Lib.hid hdr
            clear hs hdr
            have hs0 : 0 ≤ s := by omega
            have hs1 : s ≤ 70000 := by omega
            clear hsl
            cases dr
            case true =>
              as_aux_lemma =>
                by_cases he : p.id = id
                · subst he
                  by_cases h0 : e = 0
                  · have u1 : ((e : Int) == 0) = true := by simp; omega
                    have u2 : (e == 0) = true := by simp; omega
                    clear h0
                    set_option maxRecDepth 100000 in
                    go_wp2_with (at_lookup; refine IMap.lookS (K := 3) (T := 53) rfl _ _ rfl keyed3 Try.underlying53 rfl HTP.out.map _ _ rfl (keyOf1 HWK.out) s HF.out ?_)
                    refine (indexD_any P p.id A6 c6 D _ HRDp.out k0).mono ?_
                    rintro z w6 ⟨rfl, hb6⟩
                    rw [HI.out]
                    have HT6 := Lib.hid (HTP.out.below hb6)
                    have HP6 := Lib.hid (blk_below HPB.out hb6 (blk_lt HPB.out))
                    have HRD6 := Lib.hid (HRD.out.below HT6.out.bel)
                    clear hb6 k0 k1 k2 k3 k4
                    have k0 : w6.cell? ⟨P, 0, none⟩ = some (.int .i64 p.id) := blk_cell HP6.out 0
                    have k1 : w6.cell? ⟨P, 1, none⟩ = some (.int .i64 p.dst) := blk_cell HP6.out 1
                    have k2 : w6.cell? ⟨P, 2, none⟩ = some (.int .i64 p.pr) := blk_cell HP6.out 2
                    have k3 : w6.cell? ⟨P, 3, none⟩ = some (.int .i64 p.born) := blk_cell HP6.out 3
                    have k4 : w6.cell? ⟨P, 4, none⟩ = some (.int .i64 p.life) := blk_cell HP6.out 4
                    obtain ⟨⟨q0, q1⟩, lq⟩ := box24 (HBX.out.trans (HT6.out.bel.mono (by have := HBX.out.size; simp at this; omega)))
                    obtain ⟨ad6, rfl, d0, d1, d2⟩ := HRD6.out.dp m (by omega) (by omega)
                    rw [Int.toNat_natCast] at d0 d1 d2
                    rw [HDR.out] at d2
                    have HT9 := Lib.hid HT6.out.skip
                    set_option maxRecDepth 100000 in go_wp2_with fail
                    go_roundw
                    case rel => exact ⟨i + 1, n, f, by simp, by omega, HT9.out⟩
                    case measure => simp [intOf]; omega
                  · have u1 : ((e : Int) == 0) = false := by simp; omega
                    have u2 : (e == 0) = false := by simp; omega
                    have HE1 := Lib.hid (show 1 ≤ e by omega)
                    obtain ⟨a, ha, hbE, hbV, hbM⟩ := bound_is H1.out HLT.out HE1.out hev
                    rw [HPP.out] at ha hbE hbV
                    obtain ⟨bd, hbd⟩ : ∃ bd, e * (a + 1) = bd := ⟨_, rfl⟩
                    have HBO := Lib.hid (show bd ≤ sv.length → steadyB (sv.take bd) p.dst e = true → ∃ d ∈ D, d.id = p.id ∧ d.slot < fr + (bd : Int) from fun h1 h2 => by
                      have h := bound_ok H1.out (fr := fr) (sv := sv) HLT.out (e := e) (a := a) (by rw [HPP.out]; exact ha) (by rw [hbd]; exact h1) (by rw [hbd, HPP.out]; exact h2)
                      rw [hbd, HPP.out, ← HD0.out] at h
                      exact h)
                    rw [hbd] at hbV hbM
                    have HBE1 := Lib.hid hbE
                    have HBV1 := Lib.hid hbV
                    have hbd1 : 1 ≤ bd := by have h := Nat.mul_le_mul HE1.out (show 1 ≤ a + 1 by omega); rw [hbd] at h; exact h
                    clear h0 ha hbE hbV hbd
                    have HYES := Lib.hid (show bd ≤ sv.length → steadyB (sv.take bd) p.dst e = true → s < fr + (bd : Int) from fun h1 h2 => by
                      obtain ⟨d, hd, hdi, hds⟩ := HBO.out h1 h2
                      have h := leftF_some HND.out hd
                      rw [hdi, HF.out] at h
                      injection h with h
                      omega)
                    set_option maxRecDepth 100000 in
                    go_wp2_with (at_lookup; refine IMap.lookS (K := 3) (T := 53) rfl _ _ rfl keyed3 Try.underlying53 rfl HTP.out.map _ _ rfl (keyOf1 HWK.out) s HF.out ?_)
                    refine (indexD_any P p.id A6 c6 D _ HRDp.out k0).mono ?_
                    rintro z w6 ⟨rfl, hb6⟩
                    rw [HI.out]
                    have HT6 := Lib.hid (HTP.out.below hb6)
                    have HP6 := Lib.hid (blk_below HPB.out hb6 (blk_lt HPB.out))
                    have HRD6 := Lib.hid (HRD.out.below HT6.out.bel)
                    clear hb6 k0 k1 k2 k3 k4
                    have k0 : w6.cell? ⟨P, 0, none⟩ = some (.int .i64 p.id) := blk_cell HP6.out 0
                    have k1 : w6.cell? ⟨P, 1, none⟩ = some (.int .i64 p.dst) := blk_cell HP6.out 1
                    have k2 : w6.cell? ⟨P, 2, none⟩ = some (.int .i64 p.pr) := blk_cell HP6.out 2
                    have k3 : w6.cell? ⟨P, 3, none⟩ = some (.int .i64 p.born) := blk_cell HP6.out 3
                    have k4 : w6.cell? ⟨P, 4, none⟩ = some (.int .i64 p.life) := blk_cell HP6.out 4
                    obtain ⟨⟨q0, q1⟩, lq⟩ := box24 (HBX.out.trans (HT6.out.bel.mono (by have := HBX.out.size; simp at this; omega)))
                    obtain ⟨ad6, rfl, d0, d1, d2⟩ := HRD6.out.dp m (by omega) (by omega)
                    rw [Int.toNat_natCast] at d0 d1 d2
                    rw [HDR.out] at d2
                    have HT9 := Lib.hid HT6.out.skip
                    set_option maxRecDepth 100000 in go_wp2_with fail
                    refine (bound_any L (some ad) c l p.id e _ (HRP.out.below HT9.out.bel) hids).mono ?_
                    rintro z w8 ⟨rfl, hb8⟩
                    rw [HBV1.out, HBE1.out]
                    have HT8 := Lib.hid (HT9.out.below hb8)
                    have HP8 := Lib.hid (blk_below HP6.out hb8 (blk_lt HP6.out))
                    clear hb8 k0 k1 k2 k3 k4
                    have k0 : w8.cell? ⟨P, 0, none⟩ = some (.int .i64 p.id) := blk_cell HP8.out 0
                    have k1 : w8.cell? ⟨P, 1, none⟩ = some (.int .i64 p.dst) := blk_cell HP8.out 1
                    have k2 : w8.cell? ⟨P, 2, none⟩ = some (.int .i64 p.pr) := blk_cell HP8.out 2
                    have k3 : w8.cell? ⟨P, 3, none⟩ = some (.int .i64 p.born) := blk_cell HP8.out 3
                    have k4 : w8.cell? ⟨P, 4, none⟩ = some (.int .i64 p.life) := blk_cell HP8.out 4
                    by_cases hbl : sv.length < bd
                    · have b3 : decide ((sv.length : Int) < (bd : Int)) = true := by simp; omega
                      have b3' : decide (sv.length < bd) = true := by simp; omega
                      clear hbl
                      set_option maxRecDepth 100000 in go_wp2_with fail
                      go_quiet (fail)
                      set_option maxRecDepth 100000 in go_wp2
                      go_roundw
                      case rel => exact ⟨i + 1, n, f, by simp, by omega, HT8.out.drewN _⟩
                      case measure => simp [intOf]; omega
                    have b3 : decide ((sv.length : Int) < (bd : Int)) = false := by simp; omega
                    have b3' : decide (sv.length < bd) = false := by simp; omega
                    obtain ⟨av, rfl⟩ : ∃ av, As = some av := by
                      obtain ⟨av, h, _⟩ := HV.out.row.2 (by omega)
                      exact ⟨av, h⟩
                    have HRW := Lib.hid (HRV.out.below HT8.out.bel)
                    have hbc : bd ≤ cs := by have := HV.out.le; omega
                    have hbc' : (bd : Int) ≤ (cs : Int) := by omega
                    have hbt : ((bd : Nat) : Int).toNat = bd := by omega
                    have HLE := Lib.hid HV.out.le
                    have HCA := Lib.hid HV.out.cap
                    have hb0' : (0 : Int) ≤ (bd : Int) := by omega
                    obtain ⟨r, hr⟩ : ∃ r, steadyB (sv.take bd) p.dst e = r := ⟨_, rfl⟩
                    have HSY := Lib.hid hr
                    have HBL := Lib.hid (show bd ≤ sv.length by omega)
                    clear hr hbl
                    cases r
                    · set_option maxRecDepth 100000 in go_wp2_with fail
                      set_option maxRecDepth 100000 in go_quiet ((go_at_call 37; exact Calls.quiet_of_same (steady_q av cs sv p.dst e bd _ HRW.out HBL.out HLE.out HCA.out HE1.out hev hsv _ HSY.out _)))
                      set_option maxRecDepth 100000 in go_wp2
                      go_roundw
                      case rel => exact ⟨i + 1, n, f, by simp, by omega, HT8.out.drewN _⟩
                      case measure => simp [intOf]; omega
                    · set_option maxRecDepth 100000 in go_wp2_with fail
                      set_option maxRecDepth 100000 in go_quiet ((go_at_call 37; exact Calls.quiet_of_same (steady_q av cs sv p.dst e bd _ HRW.out HBL.out HLE.out HCA.out HE1.out hev hsv _ HSY.out _)))
                      have hsb := HYES.out HBL.out HSY.out
                      have b4 : decide (fr + (bd : Int) ≤ s) = false := by simp; omega
                      clear hsb
                      set_option maxRecDepth 100000 in go_wp2
                      go_roundw
                      case rel => exact ⟨i + 1, n, f, by simp, by omega, HT8.out.drewN _⟩
                      case measure => simp [intOf]; omega
                · have u1 : (p.id != id) = true := by simp [he]
                  clear he
                  set_option maxRecDepth 100000 in
                  go_wp2_with (at_lookup; refine IMap.lookS (K := 3) (T := 53) rfl _ _ rfl keyed3 Try.underlying53 rfl HTP.out.map _ _ rfl (keyOf1 HWK.out) s HF.out ?_)
                  refine (indexD_any P p.id A6 c6 D _ HRDp.out k0).mono ?_
                  rintro z w6 ⟨rfl, hb6⟩
                  rw [HI.out]
                  have HT6 := Lib.hid (HTP.out.below hb6)
                  have HP6 := Lib.hid (blk_below HPB.out hb6 (blk_lt HPB.out))
                  have HRD6 := Lib.hid (HRD.out.below HT6.out.bel)
                  clear hb6 k0 k1 k2 k3 k4
                  have k0 : w6.cell? ⟨P, 0, none⟩ = some (.int .i64 p.id) := blk_cell HP6.out 0
                  have k1 : w6.cell? ⟨P, 1, none⟩ = some (.int .i64 p.dst) := blk_cell HP6.out 1
                  have k2 : w6.cell? ⟨P, 2, none⟩ = some (.int .i64 p.pr) := blk_cell HP6.out 2
                  have k3 : w6.cell? ⟨P, 3, none⟩ = some (.int .i64 p.born) := blk_cell HP6.out 3
                  have k4 : w6.cell? ⟨P, 4, none⟩ = some (.int .i64 p.life) := blk_cell HP6.out 4
                  obtain ⟨⟨q0, q1⟩, lq⟩ := box24 (HBX.out.trans (HT6.out.bel.mono (by have := HBX.out.size; simp at this; omega)))
                  obtain ⟨ad6, rfl, d0, d1, d2⟩ := HRD6.out.dp m (by omega) (by omega)
                  rw [Int.toNat_natCast] at d0 d1 d2
                  rw [HDR.out] at d2
                  have HT9 := Lib.hid HT6.out.skip
                  set_option maxRecDepth 100000 in go_wp2_with fail
                  go_roundw
                  case rel => exact ⟨i + 1, n, f, by simp, by omega, HT9.out⟩
                  case measure => simp [intOf]; omega
            have HWD := Lib.hid (show (Lit.int .i64 p.dst).wf = true from wfi (by have := HRG.out; omega) (by have := HRG.out; omega))
            have HWP := Lib.hid (show (Lit.int .i64 p.pr).wf = true from wfi (by have := HRG.out; omega) (by have := HRG.out; omega))
            have HWS := Lib.hid (show (Lit.int .i64 s).wf = true from wfi (by omega) (by omega))
            have HNM := Lib.hid (show n < maxLen by have := HTP.out.le; unfold maxLen; omega)
            have bs : decide (p.life ≤ s - p.born) = false := by have := HSV.out rfl; simp; omega
            obtain ⟨g, hg⟩ : ∃ g, f (pk2 p.dst p.pr) = g := ⟨_, rfl⟩
            have HG := Lib.hid hg
            rw [hg] at HORD
            clear hg
            cases g
            case none =>
              as_aux_lemma =>
                by_cases he : p.id = id
                · subst he
                  by_cases h0 : e = 0
                  · have u1 : ((e : Int) == 0) = true := by simp; omega
                    have u2 : (e == 0) = true := by simp; omega
                    clear h0
                    set_option maxRecDepth 100000 in
                    go_wp2_with (at_lookup; refine IMap.lookS (K := 3) (T := 53) rfl _ _ rfl keyed3 Try.underlying53 rfl HTP.out.map _ _ rfl (keyOf1 HWK.out) s HF.out ?_)
                    refine (indexD_any P p.id A6 c6 D _ HRDp.out k0).mono ?_
                    rintro z w6 ⟨rfl, hb6⟩
                    rw [HI.out]
                    have HT6 := Lib.hid (HTP.out.below hb6)
                    have HP6 := Lib.hid (blk_below HPB.out hb6 (blk_lt HPB.out))
                    have HRD6 := Lib.hid (HRD.out.below HT6.out.bel)
                    clear hb6 k0 k1 k2 k3 k4
                    have k0 : w6.cell? ⟨P, 0, none⟩ = some (.int .i64 p.id) := blk_cell HP6.out 0
                    have k1 : w6.cell? ⟨P, 1, none⟩ = some (.int .i64 p.dst) := blk_cell HP6.out 1
                    have k2 : w6.cell? ⟨P, 2, none⟩ = some (.int .i64 p.pr) := blk_cell HP6.out 2
                    have k3 : w6.cell? ⟨P, 3, none⟩ = some (.int .i64 p.born) := blk_cell HP6.out 3
                    have k4 : w6.cell? ⟨P, 4, none⟩ = some (.int .i64 p.life) := blk_cell HP6.out 4
                    obtain ⟨⟨q0, q1⟩, lq⟩ := box24 (HBX.out.trans (HT6.out.bel.mono (by have := HBX.out.size; simp at this; omega)))
                    obtain ⟨ad6, rfl, d0, d1, d2⟩ := HRD6.out.dp m (by omega) (by omega)
                    rw [Int.toNat_natCast] at d0 d1 d2
                    rw [HDR.out] at d2
                    have HT7 := Lib.hid (HT6.out.below ((Below.refl _ w6).alloc (Nat.le_refl _) (.cells #[.int .i64 p.dst, .int .i64 p.pr] 58)))
                    have HP7 := Lib.hid (blk_old HP6.out (.cells #[.int .i64 p.dst, .int .i64 p.pr] 58))
                    have lP : P < w6.heap.size := blk_lt HP6.out
                    have nP : ¬ P = w6.heap.size := by omega
                    set_option maxRecDepth 100000 in
                    go_wp2_with (first | (at_lookup; refine IMap.lookN (K := 58) (T := 54) rfl _ _ rfl keyed58 Try.underlying54 rfl HT7.out.ord _ _ rfl (keyOf2 HWD.out HWP.out) HG.out ?_) | (at_mapUpdate; refine IMap.store (K := 58) (T := 54) rfl _ _ _ rfl keyed58 Try.underlying54 rfl HT7.out.ord HNM.out _ _ rfl (keyOf2 HWD.out HWP.out) (pk2_key _ _) s rfl HWS.out ?_; intro w7 hm7 hg7; (have HT9 := Lib.hid (HT7.out.put hm7 hg7 (by have h := HT7.out.inv.put HLT.out (by rw [HPP.out]; exact HPF.out) HDM.out (by rw [HPP.out]; exact HDI.out) HDR.out; rw [HPP.out, HDS.out] at h; exact h))); (have HP9 := Lib.hid ((hg7.block P (blk_lt HP7.out) (by simp; omega)).trans HP7.out)); clear hm7 hg7; (have j0 : w7.cell? ⟨P, 0, none⟩ = some (.int .i64 p.id) := blk_cell HP9.out 0); (have j1 : w7.cell? ⟨P, 1, none⟩ = some (.int .i64 p.dst) := blk_cell HP9.out 1); (have j2 : w7.cell? ⟨P, 2, none⟩ = some (.int .i64 p.pr) := blk_cell HP9.out 2); (have j3 : w7.cell? ⟨P, 3, none⟩ = some (.int .i64 p.born) := blk_cell HP9.out 3); (have j4 : w7.cell? ⟨P, 4, none⟩ = some (.int .i64 p.life) := blk_cell HP9.out 4); (obtain ⟨⟨y0, y1⟩, ly⟩ := box24 (HBX.out.trans (HT9.out.bel.mono (by have := HBX.out.size; simp at this; omega))))))
                    go_roundw
                    case rel => exact ⟨i + 1, (n + 1), _, by simp, by omega, HT9.out⟩
                    case measure => simp [intOf]; omega
                  · have u1 : ((e : Int) == 0) = false := by simp; omega
                    have u2 : (e == 0) = false := by simp; omega
                    have HE1 := Lib.hid (show 1 ≤ e by omega)
                    obtain ⟨a, ha, hbE, hbV, hbM⟩ := bound_is H1.out HLT.out HE1.out hev
                    rw [HPP.out] at ha hbE hbV
                    obtain ⟨bd, hbd⟩ : ∃ bd, e * (a + 1) = bd := ⟨_, rfl⟩
                    have HBO := Lib.hid (show bd ≤ sv.length → steadyB (sv.take bd) p.dst e = true → ∃ d ∈ D, d.id = p.id ∧ d.slot < fr + (bd : Int) from fun h1 h2 => by
                      have h := bound_ok H1.out (fr := fr) (sv := sv) HLT.out (e := e) (a := a) (by rw [HPP.out]; exact ha) (by rw [hbd]; exact h1) (by rw [hbd, HPP.out]; exact h2)
                      rw [hbd, HPP.out, ← HD0.out] at h
                      exact h)
                    rw [hbd] at hbV hbM
                    have HBE1 := Lib.hid hbE
                    have HBV1 := Lib.hid hbV
                    have hbd1 : 1 ≤ bd := by have h := Nat.mul_le_mul HE1.out (show 1 ≤ a + 1 by omega); rw [hbd] at h; exact h
                    clear h0 ha hbE hbV hbd
                    have HYES := Lib.hid (show bd ≤ sv.length → steadyB (sv.take bd) p.dst e = true → s < fr + (bd : Int) from fun h1 h2 => by
                      obtain ⟨d, hd, hdi, hds⟩ := HBO.out h1 h2
                      have h := leftF_some HND.out hd
                      rw [hdi, HF.out] at h
                      injection h with h
                      omega)
                    set_option maxRecDepth 100000 in
                    go_wp2_with (at_lookup; refine IMap.lookS (K := 3) (T := 53) rfl _ _ rfl keyed3 Try.underlying53 rfl HTP.out.map _ _ rfl (keyOf1 HWK.out) s HF.out ?_)
                    refine (indexD_any P p.id A6 c6 D _ HRDp.out k0).mono ?_
                    rintro z w6 ⟨rfl, hb6⟩
                    rw [HI.out]
                    have HT6 := Lib.hid (HTP.out.below hb6)
                    have HP6 := Lib.hid (blk_below HPB.out hb6 (blk_lt HPB.out))
                    have HRD6 := Lib.hid (HRD.out.below HT6.out.bel)
                    clear hb6 k0 k1 k2 k3 k4
                    have k0 : w6.cell? ⟨P, 0, none⟩ = some (.int .i64 p.id) := blk_cell HP6.out 0
                    have k1 : w6.cell? ⟨P, 1, none⟩ = some (.int .i64 p.dst) := blk_cell HP6.out 1
                    have k2 : w6.cell? ⟨P, 2, none⟩ = some (.int .i64 p.pr) := blk_cell HP6.out 2
                    have k3 : w6.cell? ⟨P, 3, none⟩ = some (.int .i64 p.born) := blk_cell HP6.out 3
                    have k4 : w6.cell? ⟨P, 4, none⟩ = some (.int .i64 p.life) := blk_cell HP6.out 4
                    obtain ⟨⟨q0, q1⟩, lq⟩ := box24 (HBX.out.trans (HT6.out.bel.mono (by have := HBX.out.size; simp at this; omega)))
                    obtain ⟨ad6, rfl, d0, d1, d2⟩ := HRD6.out.dp m (by omega) (by omega)
                    rw [Int.toNat_natCast] at d0 d1 d2
                    rw [HDR.out] at d2
                    have HT7 := Lib.hid (HT6.out.below ((Below.refl _ w6).alloc (Nat.le_refl _) (.cells #[.int .i64 p.dst, .int .i64 p.pr] 58)))
                    have HP7 := Lib.hid (blk_old HP6.out (.cells #[.int .i64 p.dst, .int .i64 p.pr] 58))
                    have lP : P < w6.heap.size := blk_lt HP6.out
                    have nP : ¬ P = w6.heap.size := by omega
                    set_option maxRecDepth 100000 in
                    go_wp2_with (first | (at_lookup; refine IMap.lookN (K := 58) (T := 54) rfl _ _ rfl keyed58 Try.underlying54 rfl HT7.out.ord _ _ rfl (keyOf2 HWD.out HWP.out) HG.out ?_) | (at_mapUpdate; refine IMap.store (K := 58) (T := 54) rfl _ _ _ rfl keyed58 Try.underlying54 rfl HT7.out.ord HNM.out _ _ rfl (keyOf2 HWD.out HWP.out) (pk2_key _ _) s rfl HWS.out ?_; intro w7 hm7 hg7; (have HT9 := Lib.hid (HT7.out.put hm7 hg7 (by have h := HT7.out.inv.put HLT.out (by rw [HPP.out]; exact HPF.out) HDM.out (by rw [HPP.out]; exact HDI.out) HDR.out; rw [HPP.out, HDS.out] at h; exact h))); (have HP9 := Lib.hid ((hg7.block P (blk_lt HP7.out) (by simp; omega)).trans HP7.out)); clear hm7 hg7; (have j0 : w7.cell? ⟨P, 0, none⟩ = some (.int .i64 p.id) := blk_cell HP9.out 0); (have j1 : w7.cell? ⟨P, 1, none⟩ = some (.int .i64 p.dst) := blk_cell HP9.out 1); (have j2 : w7.cell? ⟨P, 2, none⟩ = some (.int .i64 p.pr) := blk_cell HP9.out 2); (have j3 : w7.cell? ⟨P, 3, none⟩ = some (.int .i64 p.born) := blk_cell HP9.out 3); (have j4 : w7.cell? ⟨P, 4, none⟩ = some (.int .i64 p.life) := blk_cell HP9.out 4); (obtain ⟨⟨y0, y1⟩, ly⟩ := box24 (HBX.out.trans (HT9.out.bel.mono (by have := HBX.out.size; simp at this; omega))))))
                    refine (bound_any L (some ad) c l p.id e _ (HRP.out.below HT9.out.bel) hids).mono ?_
                    rintro z w8 ⟨rfl, hb8⟩
                    rw [HBV1.out, HBE1.out]
                    have HT8 := Lib.hid (HT9.out.below hb8)
                    have HP8 := Lib.hid (blk_below HP9.out hb8 (blk_lt HP9.out))
                    clear hb8 k0 k1 k2 k3 k4
                    have k0 : w8.cell? ⟨P, 0, none⟩ = some (.int .i64 p.id) := blk_cell HP8.out 0
                    have k1 : w8.cell? ⟨P, 1, none⟩ = some (.int .i64 p.dst) := blk_cell HP8.out 1
                    have k2 : w8.cell? ⟨P, 2, none⟩ = some (.int .i64 p.pr) := blk_cell HP8.out 2
                    have k3 : w8.cell? ⟨P, 3, none⟩ = some (.int .i64 p.born) := blk_cell HP8.out 3
                    have k4 : w8.cell? ⟨P, 4, none⟩ = some (.int .i64 p.life) := blk_cell HP8.out 4
                    by_cases hbl : sv.length < bd
                    · have b3 : decide ((sv.length : Int) < (bd : Int)) = true := by simp; omega
                      have b3' : decide (sv.length < bd) = true := by simp; omega
                      clear hbl
                      set_option maxRecDepth 100000 in go_wp2_with fail
                      go_quiet (fail)
                      set_option maxRecDepth 100000 in go_wp2
                      go_roundw
                      case rel => exact ⟨i + 1, (n + 1), _, by simp, by omega, HT8.out.drewN _⟩
                      case measure => simp [intOf]; omega
                    have b3 : decide ((sv.length : Int) < (bd : Int)) = false := by simp; omega
                    have b3' : decide (sv.length < bd) = false := by simp; omega
                    obtain ⟨av, rfl⟩ : ∃ av, As = some av := by
                      obtain ⟨av, h, _⟩ := HV.out.row.2 (by omega)
                      exact ⟨av, h⟩
                    have HRW := Lib.hid (HRV.out.below HT8.out.bel)
                    have hbc : bd ≤ cs := by have := HV.out.le; omega
                    have hbc' : (bd : Int) ≤ (cs : Int) := by omega
                    have hbt : ((bd : Nat) : Int).toNat = bd := by omega
                    have HLE := Lib.hid HV.out.le
                    have HCA := Lib.hid HV.out.cap
                    have hb0' : (0 : Int) ≤ (bd : Int) := by omega
                    obtain ⟨r, hr⟩ : ∃ r, steadyB (sv.take bd) p.dst e = r := ⟨_, rfl⟩
                    have HSY := Lib.hid hr
                    have HBL := Lib.hid (show bd ≤ sv.length by omega)
                    clear hr hbl
                    cases r
                    · set_option maxRecDepth 100000 in go_wp2_with fail
                      set_option maxRecDepth 100000 in go_quiet ((go_at_call 37; exact Calls.quiet_of_same (steady_q av cs sv p.dst e bd _ HRW.out HBL.out HLE.out HCA.out HE1.out hev hsv _ HSY.out _)))
                      set_option maxRecDepth 100000 in go_wp2
                      go_roundw
                      case rel => exact ⟨i + 1, (n + 1), _, by simp, by omega, HT8.out.drewN _⟩
                      case measure => simp [intOf]; omega
                    · set_option maxRecDepth 100000 in go_wp2_with fail
                      set_option maxRecDepth 100000 in go_quiet ((go_at_call 37; exact Calls.quiet_of_same (steady_q av cs sv p.dst e bd _ HRW.out HBL.out HLE.out HCA.out HE1.out hev hsv _ HSY.out _)))
                      have hsb := HYES.out HBL.out HSY.out
                      have b4 : decide (fr + (bd : Int) ≤ s) = false := by simp; omega
                      clear hsb
                      set_option maxRecDepth 100000 in go_wp2
                      go_roundw
                      case rel => exact ⟨i + 1, (n + 1), _, by simp, by omega, HT8.out.drewN _⟩
                      case measure => simp [intOf]; omega
                · have u1 : (p.id != id) = true := by simp [he]
                  clear he
                  set_option maxRecDepth 100000 in
                  go_wp2_with (at_lookup; refine IMap.lookS (K := 3) (T := 53) rfl _ _ rfl keyed3 Try.underlying53 rfl HTP.out.map _ _ rfl (keyOf1 HWK.out) s HF.out ?_)
                  refine (indexD_any P p.id A6 c6 D _ HRDp.out k0).mono ?_
                  rintro z w6 ⟨rfl, hb6⟩
                  rw [HI.out]
                  have HT6 := Lib.hid (HTP.out.below hb6)
                  have HP6 := Lib.hid (blk_below HPB.out hb6 (blk_lt HPB.out))
                  have HRD6 := Lib.hid (HRD.out.below HT6.out.bel)
                  clear hb6 k0 k1 k2 k3 k4
                  have k0 : w6.cell? ⟨P, 0, none⟩ = some (.int .i64 p.id) := blk_cell HP6.out 0
                  have k1 : w6.cell? ⟨P, 1, none⟩ = some (.int .i64 p.dst) := blk_cell HP6.out 1
                  have k2 : w6.cell? ⟨P, 2, none⟩ = some (.int .i64 p.pr) := blk_cell HP6.out 2
                  have k3 : w6.cell? ⟨P, 3, none⟩ = some (.int .i64 p.born) := blk_cell HP6.out 3
                  have k4 : w6.cell? ⟨P, 4, none⟩ = some (.int .i64 p.life) := blk_cell HP6.out 4
                  obtain ⟨⟨q0, q1⟩, lq⟩ := box24 (HBX.out.trans (HT6.out.bel.mono (by have := HBX.out.size; simp at this; omega)))
                  obtain ⟨ad6, rfl, d0, d1, d2⟩ := HRD6.out.dp m (by omega) (by omega)
                  rw [Int.toNat_natCast] at d0 d1 d2
                  rw [HDR.out] at d2
                  have HT7 := Lib.hid (HT6.out.below ((Below.refl _ w6).alloc (Nat.le_refl _) (.cells #[.int .i64 p.dst, .int .i64 p.pr] 58)))
                  have HP7 := Lib.hid (blk_old HP6.out (.cells #[.int .i64 p.dst, .int .i64 p.pr] 58))
                  have lP : P < w6.heap.size := blk_lt HP6.out
                  have nP : ¬ P = w6.heap.size := by omega
                  set_option maxRecDepth 100000 in
                  go_wp2_with (first | (at_lookup; refine IMap.lookN (K := 58) (T := 54) rfl _ _ rfl keyed58 Try.underlying54 rfl HT7.out.ord _ _ rfl (keyOf2 HWD.out HWP.out) HG.out ?_) | (at_mapUpdate; refine IMap.store (K := 58) (T := 54) rfl _ _ _ rfl keyed58 Try.underlying54 rfl HT7.out.ord HNM.out _ _ rfl (keyOf2 HWD.out HWP.out) (pk2_key _ _) s rfl HWS.out ?_; intro w7 hm7 hg7; (have HT9 := Lib.hid (HT7.out.put hm7 hg7 (by have h := HT7.out.inv.put HLT.out (by rw [HPP.out]; exact HPF.out) HDM.out (by rw [HPP.out]; exact HDI.out) HDR.out; rw [HPP.out, HDS.out] at h; exact h))); (have HP9 := Lib.hid ((hg7.block P (blk_lt HP7.out) (by simp; omega)).trans HP7.out)); clear hm7 hg7; (have j0 : w7.cell? ⟨P, 0, none⟩ = some (.int .i64 p.id) := blk_cell HP9.out 0); (have j1 : w7.cell? ⟨P, 1, none⟩ = some (.int .i64 p.dst) := blk_cell HP9.out 1); (have j2 : w7.cell? ⟨P, 2, none⟩ = some (.int .i64 p.pr) := blk_cell HP9.out 2); (have j3 : w7.cell? ⟨P, 3, none⟩ = some (.int .i64 p.born) := blk_cell HP9.out 3); (have j4 : w7.cell? ⟨P, 4, none⟩ = some (.int .i64 p.life) := blk_cell HP9.out 4); (obtain ⟨⟨y0, y1⟩, ly⟩ := box24 (HBX.out.trans (HT9.out.bel.mono (by have := HBX.out.size; simp at this; omega))))))
                  go_roundw
                  case rel => exact ⟨i + 1, (n + 1), _, by simp, by omega, HT9.out⟩
                  case measure => simp [intOf]; omega
            case some v =>
              as_aux_lemma =>
                have bv : decide (s < v) = false := by have := HORD.out rfl v rfl; simp; omega
                by_cases he : p.id = id
                · subst he
                  by_cases h0 : e = 0
                  · have u1 : ((e : Int) == 0) = true := by simp; omega
                    have u2 : (e == 0) = true := by simp; omega
                    clear h0
                    set_option maxRecDepth 100000 in
                    go_wp2_with (at_lookup; refine IMap.lookS (K := 3) (T := 53) rfl _ _ rfl keyed3 Try.underlying53 rfl HTP.out.map _ _ rfl (keyOf1 HWK.out) s HF.out ?_)
                    refine (indexD_any P p.id A6 c6 D _ HRDp.out k0).mono ?_
                    rintro z w6 ⟨rfl, hb6⟩
                    rw [HI.out]
                    have HT6 := Lib.hid (HTP.out.below hb6)
                    have HP6 := Lib.hid (blk_below HPB.out hb6 (blk_lt HPB.out))
                    have HRD6 := Lib.hid (HRD.out.below HT6.out.bel)
                    clear hb6 k0 k1 k2 k3 k4
                    have k0 : w6.cell? ⟨P, 0, none⟩ = some (.int .i64 p.id) := blk_cell HP6.out 0
                    have k1 : w6.cell? ⟨P, 1, none⟩ = some (.int .i64 p.dst) := blk_cell HP6.out 1
                    have k2 : w6.cell? ⟨P, 2, none⟩ = some (.int .i64 p.pr) := blk_cell HP6.out 2
                    have k3 : w6.cell? ⟨P, 3, none⟩ = some (.int .i64 p.born) := blk_cell HP6.out 3
                    have k4 : w6.cell? ⟨P, 4, none⟩ = some (.int .i64 p.life) := blk_cell HP6.out 4
                    obtain ⟨⟨q0, q1⟩, lq⟩ := box24 (HBX.out.trans (HT6.out.bel.mono (by have := HBX.out.size; simp at this; omega)))
                    obtain ⟨ad6, rfl, d0, d1, d2⟩ := HRD6.out.dp m (by omega) (by omega)
                    rw [Int.toNat_natCast] at d0 d1 d2
                    rw [HDR.out] at d2
                    have HT7 := Lib.hid (HT6.out.below ((Below.refl _ w6).alloc (Nat.le_refl _) (.cells #[.int .i64 p.dst, .int .i64 p.pr] 58)))
                    have HP7 := Lib.hid (blk_old HP6.out (.cells #[.int .i64 p.dst, .int .i64 p.pr] 58))
                    have lP : P < w6.heap.size := blk_lt HP6.out
                    have nP : ¬ P = w6.heap.size := by omega
                    set_option maxRecDepth 100000 in
                    go_wp2_with (first | (at_lookup; refine IMap.lookS (K := 58) (T := 54) rfl _ _ rfl keyed58 Try.underlying54 rfl HT7.out.ord _ _ rfl (keyOf2 HWD.out HWP.out) v HG.out ?_) | (at_mapUpdate; refine IMap.store (K := 58) (T := 54) rfl _ _ _ rfl keyed58 Try.underlying54 rfl HT7.out.ord HNM.out _ _ rfl (keyOf2 HWD.out HWP.out) (pk2_key _ _) s rfl HWS.out ?_; intro w7 hm7 hg7; (have HT9 := Lib.hid (HT7.out.put hm7 hg7 (by have h := HT7.out.inv.put HLT.out (by rw [HPP.out]; exact HPF.out) HDM.out (by rw [HPP.out]; exact HDI.out) HDR.out; rw [HPP.out, HDS.out] at h; exact h))); (have HP9 := Lib.hid ((hg7.block P (blk_lt HP7.out) (by simp; omega)).trans HP7.out)); clear hm7 hg7; (have j0 : w7.cell? ⟨P, 0, none⟩ = some (.int .i64 p.id) := blk_cell HP9.out 0); (have j1 : w7.cell? ⟨P, 1, none⟩ = some (.int .i64 p.dst) := blk_cell HP9.out 1); (have j2 : w7.cell? ⟨P, 2, none⟩ = some (.int .i64 p.pr) := blk_cell HP9.out 2); (have j3 : w7.cell? ⟨P, 3, none⟩ = some (.int .i64 p.born) := blk_cell HP9.out 3); (have j4 : w7.cell? ⟨P, 4, none⟩ = some (.int .i64 p.life) := blk_cell HP9.out 4); (obtain ⟨⟨y0, y1⟩, ly⟩ := box24 (HBX.out.trans (HT9.out.bel.mono (by have := HBX.out.size; simp at this; omega))))))
                    go_roundw
                    case rel => exact ⟨i + 1, (n + 1), _, by simp, by omega, HT9.out⟩
                    case measure => simp [intOf]; omega
                  · have u1 : ((e : Int) == 0) = false := by simp; omega
                    have u2 : (e == 0) = false := by simp; omega
                    have HE1 := Lib.hid (show 1 ≤ e by omega)
                    obtain ⟨a, ha, hbE, hbV, hbM⟩ := bound_is H1.out HLT.out HE1.out hev
                    rw [HPP.out] at ha hbE hbV
                    obtain ⟨bd, hbd⟩ : ∃ bd, e * (a + 1) = bd := ⟨_, rfl⟩
                    have HBO := Lib.hid (show bd ≤ sv.length → steadyB (sv.take bd) p.dst e = true → ∃ d ∈ D, d.id = p.id ∧ d.slot < fr + (bd : Int) from fun h1 h2 => by
                      have h := bound_ok H1.out (fr := fr) (sv := sv) HLT.out (e := e) (a := a) (by rw [HPP.out]; exact ha) (by rw [hbd]; exact h1) (by rw [hbd, HPP.out]; exact h2)
                      rw [hbd, HPP.out, ← HD0.out] at h
                      exact h)
                    rw [hbd] at hbV hbM
                    have HBE1 := Lib.hid hbE
                    have HBV1 := Lib.hid hbV
                    have hbd1 : 1 ≤ bd := by have h := Nat.mul_le_mul HE1.out (show 1 ≤ a + 1 by omega); rw [hbd] at h; exact h
                    clear h0 ha hbE hbV hbd
                    have HYES := Lib.hid (show bd ≤ sv.length → steadyB (sv.take bd) p.dst e = true → s < fr + (bd : Int) from fun h1 h2 => by
                      obtain ⟨d, hd, hdi, hds⟩ := HBO.out h1 h2
                      have h := leftF_some HND.out hd
                      rw [hdi, HF.out] at h
                      injection h with h
                      omega)
                    set_option maxRecDepth 100000 in
                    go_wp2_with (at_lookup; refine IMap.lookS (K := 3) (T := 53) rfl _ _ rfl keyed3 Try.underlying53 rfl HTP.out.map _ _ rfl (keyOf1 HWK.out) s HF.out ?_)
                    refine (indexD_any P p.id A6 c6 D _ HRDp.out k0).mono ?_
                    rintro z w6 ⟨rfl, hb6⟩
                    rw [HI.out]
                    have HT6 := Lib.hid (HTP.out.below hb6)
                    have HP6 := Lib.hid (blk_below HPB.out hb6 (blk_lt HPB.out))
                    have HRD6 := Lib.hid (HRD.out.below HT6.out.bel)
                    clear hb6 k0 k1 k2 k3 k4
                    have k0 : w6.cell? ⟨P, 0, none⟩ = some (.int .i64 p.id) := blk_cell HP6.out 0
                    have k1 : w6.cell? ⟨P, 1, none⟩ = some (.int .i64 p.dst) := blk_cell HP6.out 1
                    have k2 : w6.cell? ⟨P, 2, none⟩ = some (.int .i64 p.pr) := blk_cell HP6.out 2
                    have k3 : w6.cell? ⟨P, 3, none⟩ = some (.int .i64 p.born) := blk_cell HP6.out 3
                    have k4 : w6.cell? ⟨P, 4, none⟩ = some (.int .i64 p.life) := blk_cell HP6.out 4
                    obtain ⟨⟨q0, q1⟩, lq⟩ := box24 (HBX.out.trans (HT6.out.bel.mono (by have := HBX.out.size; simp at this; omega)))
                    obtain ⟨ad6, rfl, d0, d1, d2⟩ := HRD6.out.dp m (by omega) (by omega)
                    rw [Int.toNat_natCast] at d0 d1 d2
                    rw [HDR.out] at d2
                    have HT7 := Lib.hid (HT6.out.below ((Below.refl _ w6).alloc (Nat.le_refl _) (.cells #[.int .i64 p.dst, .int .i64 p.pr] 58)))
                    have HP7 := Lib.hid (blk_old HP6.out (.cells #[.int .i64 p.dst, .int .i64 p.pr] 58))
                    have lP : P < w6.heap.size := blk_lt HP6.out
                    have nP : ¬ P = w6.heap.size := by omega
                    set_option maxRecDepth 100000 in
                    go_wp2_with (first | (at_lookup; refine IMap.lookS (K := 58) (T := 54) rfl _ _ rfl keyed58 Try.underlying54 rfl HT7.out.ord _ _ rfl (keyOf2 HWD.out HWP.out) v HG.out ?_) | (at_mapUpdate; refine IMap.store (K := 58) (T := 54) rfl _ _ _ rfl keyed58 Try.underlying54 rfl HT7.out.ord HNM.out _ _ rfl (keyOf2 HWD.out HWP.out) (pk2_key _ _) s rfl HWS.out ?_; intro w7 hm7 hg7; (have HT9 := Lib.hid (HT7.out.put hm7 hg7 (by have h := HT7.out.inv.put HLT.out (by rw [HPP.out]; exact HPF.out) HDM.out (by rw [HPP.out]; exact HDI.out) HDR.out; rw [HPP.out, HDS.out] at h; exact h))); (have HP9 := Lib.hid ((hg7.block P (blk_lt HP7.out) (by simp; omega)).trans HP7.out)); clear hm7 hg7; (have j0 : w7.cell? ⟨P, 0, none⟩ = some (.int .i64 p.id) := blk_cell HP9.out 0); (have j1 : w7.cell? ⟨P, 1, none⟩ = some (.int .i64 p.dst) := blk_cell HP9.out 1); (have j2 : w7.cell? ⟨P, 2, none⟩ = some (.int .i64 p.pr) := blk_cell HP9.out 2); (have j3 : w7.cell? ⟨P, 3, none⟩ = some (.int .i64 p.born) := blk_cell HP9.out 3); (have j4 : w7.cell? ⟨P, 4, none⟩ = some (.int .i64 p.life) := blk_cell HP9.out 4); (obtain ⟨⟨y0, y1⟩, ly⟩ := box24 (HBX.out.trans (HT9.out.bel.mono (by have := HBX.out.size; simp at this; omega))))))
                    refine (bound_any L (some ad) c l p.id e _ (HRP.out.below HT9.out.bel) hids).mono ?_
                    rintro z w8 ⟨rfl, hb8⟩
                    rw [HBV1.out, HBE1.out]
                    have HT8 := Lib.hid (HT9.out.below hb8)
                    have HP8 := Lib.hid (blk_below HP9.out hb8 (blk_lt HP9.out))
                    clear hb8 k0 k1 k2 k3 k4
                    have k0 : w8.cell? ⟨P, 0, none⟩ = some (.int .i64 p.id) := blk_cell HP8.out 0
                    have k1 : w8.cell? ⟨P, 1, none⟩ = some (.int .i64 p.dst) := blk_cell HP8.out 1
                    have k2 : w8.cell? ⟨P, 2, none⟩ = some (.int .i64 p.pr) := blk_cell HP8.out 2
                    have k3 : w8.cell? ⟨P, 3, none⟩ = some (.int .i64 p.born) := blk_cell HP8.out 3
                    have k4 : w8.cell? ⟨P, 4, none⟩ = some (.int .i64 p.life) := blk_cell HP8.out 4
                    by_cases hbl : sv.length < bd
                    · have b3 : decide ((sv.length : Int) < (bd : Int)) = true := by simp; omega
                      have b3' : decide (sv.length < bd) = true := by simp; omega
                      clear hbl
                      set_option maxRecDepth 100000 in go_wp2_with fail
                      go_quiet (fail)
                      set_option maxRecDepth 100000 in go_wp2
                      go_roundw
                      case rel => exact ⟨i + 1, (n + 1), _, by simp, by omega, HT8.out.drewN _⟩
                      case measure => simp [intOf]; omega
                    have b3 : decide ((sv.length : Int) < (bd : Int)) = false := by simp; omega
                    have b3' : decide (sv.length < bd) = false := by simp; omega
                    obtain ⟨av, rfl⟩ : ∃ av, As = some av := by
                      obtain ⟨av, h, _⟩ := HV.out.row.2 (by omega)
                      exact ⟨av, h⟩
                    have HRW := Lib.hid (HRV.out.below HT8.out.bel)
                    have hbc : bd ≤ cs := by have := HV.out.le; omega
                    have hbc' : (bd : Int) ≤ (cs : Int) := by omega
                    have hbt : ((bd : Nat) : Int).toNat = bd := by omega
                    have HLE := Lib.hid HV.out.le
                    have HCA := Lib.hid HV.out.cap
                    have hb0' : (0 : Int) ≤ (bd : Int) := by omega
                    obtain ⟨r, hr⟩ : ∃ r, steadyB (sv.take bd) p.dst e = r := ⟨_, rfl⟩
                    have HSY := Lib.hid hr
                    have HBL := Lib.hid (show bd ≤ sv.length by omega)
                    clear hr hbl
                    cases r
                    · set_option maxRecDepth 100000 in go_wp2_with fail
                      set_option maxRecDepth 100000 in go_quiet ((go_at_call 37; exact Calls.quiet_of_same (steady_q av cs sv p.dst e bd _ HRW.out HBL.out HLE.out HCA.out HE1.out hev hsv _ HSY.out _)))
                      set_option maxRecDepth 100000 in go_wp2
                      go_roundw
                      case rel => exact ⟨i + 1, (n + 1), _, by simp, by omega, HT8.out.drewN _⟩
                      case measure => simp [intOf]; omega
                    · set_option maxRecDepth 100000 in go_wp2_with fail
                      set_option maxRecDepth 100000 in go_quiet ((go_at_call 37; exact Calls.quiet_of_same (steady_q av cs sv p.dst e bd _ HRW.out HBL.out HLE.out HCA.out HE1.out hev hsv _ HSY.out _)))
                      have hsb := HYES.out HBL.out HSY.out
                      have b4 : decide (fr + (bd : Int) ≤ s) = false := by simp; omega
                      clear hsb
                      set_option maxRecDepth 100000 in go_wp2
                      go_roundw
                      case rel => exact ⟨i + 1, (n + 1), _, by simp, by omega, HT8.out.drewN _⟩
                      case measure => simp [intOf]; omega
                · have u1 : (p.id != id) = true := by simp [he]
                  clear he
                  set_option maxRecDepth 100000 in
                  go_wp2_with (at_lookup; refine IMap.lookS (K := 3) (T := 53) rfl _ _ rfl keyed3 Try.underlying53 rfl HTP.out.map _ _ rfl (keyOf1 HWK.out) s HF.out ?_)
                  refine (indexD_any P p.id A6 c6 D _ HRDp.out k0).mono ?_
                  rintro z w6 ⟨rfl, hb6⟩
                  rw [HI.out]
                  have HT6 := Lib.hid (HTP.out.below hb6)
                  have HP6 := Lib.hid (blk_below HPB.out hb6 (blk_lt HPB.out))
                  have HRD6 := Lib.hid (HRD.out.below HT6.out.bel)
                  clear hb6 k0 k1 k2 k3 k4
                  have k0 : w6.cell? ⟨P, 0, none⟩ = some (.int .i64 p.id) := blk_cell HP6.out 0
                  have k1 : w6.cell? ⟨P, 1, none⟩ = some (.int .i64 p.dst) := blk_cell HP6.out 1
                  have k2 : w6.cell? ⟨P, 2, none⟩ = some (.int .i64 p.pr) := blk_cell HP6.out 2
                  have k3 : w6.cell? ⟨P, 3, none⟩ = some (.int .i64 p.born) := blk_cell HP6.out 3
                  have k4 : w6.cell? ⟨P, 4, none⟩ = some (.int .i64 p.life) := blk_cell HP6.out 4
                  obtain ⟨⟨q0, q1⟩, lq⟩ := box24 (HBX.out.trans (HT6.out.bel.mono (by have := HBX.out.size; simp at this; omega)))
                  obtain ⟨ad6, rfl, d0, d1, d2⟩ := HRD6.out.dp m (by omega) (by omega)
                  rw [Int.toNat_natCast] at d0 d1 d2
                  rw [HDR.out] at d2
                  have HT7 := Lib.hid (HT6.out.below ((Below.refl _ w6).alloc (Nat.le_refl _) (.cells #[.int .i64 p.dst, .int .i64 p.pr] 58)))
                  have HP7 := Lib.hid (blk_old HP6.out (.cells #[.int .i64 p.dst, .int .i64 p.pr] 58))
                  have lP : P < w6.heap.size := blk_lt HP6.out
                  have nP : ¬ P = w6.heap.size := by omega
                  set_option maxRecDepth 100000 in
                  go_wp2_with (first | (at_lookup; refine IMap.lookS (K := 58) (T := 54) rfl _ _ rfl keyed58 Try.underlying54 rfl HT7.out.ord _ _ rfl (keyOf2 HWD.out HWP.out) v HG.out ?_) | (at_mapUpdate; refine IMap.store (K := 58) (T := 54) rfl _ _ _ rfl keyed58 Try.underlying54 rfl HT7.out.ord HNM.out _ _ rfl (keyOf2 HWD.out HWP.out) (pk2_key _ _) s rfl HWS.out ?_; intro w7 hm7 hg7; (have HT9 := Lib.hid (HT7.out.put hm7 hg7 (by have h := HT7.out.inv.put HLT.out (by rw [HPP.out]; exact HPF.out) HDM.out (by rw [HPP.out]; exact HDI.out) HDR.out; rw [HPP.out, HDS.out] at h; exact h))); (have HP9 := Lib.hid ((hg7.block P (blk_lt HP7.out) (by simp; omega)).trans HP7.out)); clear hm7 hg7; (have j0 : w7.cell? ⟨P, 0, none⟩ = some (.int .i64 p.id) := blk_cell HP9.out 0); (have j1 : w7.cell? ⟨P, 1, none⟩ = some (.int .i64 p.dst) := blk_cell HP9.out 1); (have j2 : w7.cell? ⟨P, 2, none⟩ = some (.int .i64 p.pr) := blk_cell HP9.out 2); (have j3 : w7.cell? ⟨P, 3, none⟩ = some (.int .i64 p.born) := blk_cell HP9.out 3); (have j4 : w7.cell? ⟨P, 4, none⟩ = some (.int .i64 p.life) := blk_cell HP9.out 4); (obtain ⟨⟨y0, y1⟩, ly⟩ := box24 (HBX.out.trans (HT9.out.bel.mono (by have := HBX.out.size; simp at this; omega))))))
                  go_roundw
                  case rel => exact ⟨i + 1, (n + 1), _, by simp, by omega, HT9.out⟩
                  case measure => simp [intOf]; omega
        · have hli : decide ((i : Int) < l.length) = false := by simp; omega
          set_option maxRecDepth 100000 in go_wp2
          go_ret
          exact ⟨rfl, box24_bel HBW.out⟩
end Go.Proofs.Ytckanomabhbkaaa
