/- Proved: part 31 of the proof of PackRound (Rd18, Cr1). Conditions: each theorem states its own. -/
import Derived.Below
import Derived.Carry
import Derived.ChangeMaps5
import Derived.ChangeOld
import Derived.OpenShut
import Derived.SevenTiedAt
import Derived.ShutString
import Derived.SizedLaws
import Derived.Test.YtpnkifincadakaaGreatDoorCards
import Derived.Test.YtpnkifincadakaaGreatDoorTie
import Derived.Test.YtpnkifincadakaaGreatDoorR28
import Derived.Test.YtpnkifincadakaaGreatDoorR30
set_option linter.unusedVariables false
set_option linter.unusedSimpArgs false
section
namespace Go.Proofs.YtpnkifincadakaaGreatDoor.Wr
open Go.RowKit Go.Pk Go.Proofs.YtpnkifincadakaaGreatDoorW.PrintWords Go.Proofs.YtpnkifincadakaaGreatDoor.PPackSpecs
open Go.Am (TabVar tabV head_calls)
theorem lexErr_chk : ∀ (l : List S42), lexErr l = 0 → ∀ x, x ∈ l → x.f0.size ≤ 64 ∧ chk x.f2 = 0
  | y :: r, h, x, hx => by
    unfold lexErr at h
    by_cases h1 : 64 < y.f0.size
    · rw [if_pos h1] at h; omega
    rw [if_neg h1] at h
    by_cases h2 : chk y.f2 = 0
    · rw [if_pos h2] at h
      rcases List.mem_cons.1 hx with rfl | hx
      · exact ⟨by omega, h2⟩
      · exact lexErr_chk r h x hx
    · rw [if_neg h2] at h; exact absurd h h2
theorem spec_good {lex : List S42} {names : List ByteArray} {start : Int} {prods : List S67} (h : specErr lex names start prods = 0) : Good lex names start prods := by
  have hf := spec_fits h
  unfold specErr at h
  rw [if_neg (by have := hf.l0; have := hf.l1; have := hf.l3; omega)] at h
  by_cases h2 : rightLong prods = true
  · rw [if_pos h2] at h; omega
  rw [if_neg h2] at h
  by_cases h3 : lexErr lex = 0
  · rw [if_pos h3] at h
    by_cases h4 : nameLong names = true
    · rw [if_pos h4] at h; omega
    rw [if_neg h4] at h
    by_cases h5 : start < 0 ∨ (names.length : Int) ≤ start
    · rw [if_pos h5] at h; omega
    rw [if_neg h5] at h
    by_cases h6 : (prods.any (prodBad lex.length names.length)) = true
    · rw [if_pos h6] at h; omega
    refine ⟨hf.l0, hf.l1, hf.l3, lexErr_chk lex h3, hf.ns, by omega, fun x hx => ?_⟩
    have hb := any_false h6 x hx
    unfold prodBad at hb
    rw [Bool.or_eq_false_iff, decide_eq_false_iff_not] at hb
    refine ⟨by omega, hf.rl x hx, fun y hy => ?_⟩
    have hy2 := any_false (f := fun y => !symOk y lex.length names.length) (by rw [hb.2]; simp) y hy
    simpa using hy2
  · rw [if_neg h3] at h; exact absurd h h3
theorem bytes_summed' {bs : List Int} (h : Bytes bs) : Bytes (summed bs) := h.append fun y hy => by
  simp only [b4, List.mem_cons, List.mem_nil_iff, or_false] at hy
  omega
theorem Ob.cell {w : World} {B : Nat} {a : Option Addr} {n c : Nat} {bs : List Int} (h : Ob w B (.slice a n c) bs) (hp : 0 < bs.length) : n = bs.length ∧ ∀ j x, bs[j]? = some x → ∃ ad, a = some ad ∧ w.cell? (ad.add j) = some (.int .u8 x) := by
  obtain ⟨g, cap, e, _, _, hc⟩ := h.form hp
  injection e with e1 e2 e3
  subst e1
  exact ⟨e2, fun j x hx => ⟨_, rfl, hc j _ (by unfold nums; rw [List.getElem?_map, hx]; rfl)⟩⟩
set_option maxHeartbeats 16000000 in
set_option maxRecDepth 100000 in
theorem packRound5 (lex : List S42) (names : List ByteArray) (start : Int) (prods : List S67) (A0 A1 A3 : Option Addr) (c0 c1 c3 : Nat) (w : World) (h5 : 5 ≤ w.heap.size) (hb : w.heap[0]? = some (.cells tabV.toArray 263 (0, 0)))
    (h0 : k42.C w A0 lex.length lex) (h1 : Kd.string.C w A1 names.length names) (h3 : k67.C w A3 prods.length prods) (g0 : lex.length ≤ c0) (g1 : names.length ≤ c1) (g3 : prods.length ≤ c3) (hL : Lim ⟨lex, names, start, prods⟩) :
    Calls Tryz.prog 5 #[.agg #[.slice A0 lex.length c0, .slice A1 names.length c1, .int .i64 start, .slice A3 prods.length c3]] w fun e w' => e = .returned (.bool true) ∧ Below w.heap.size w w' := by
  have hA := below_alloc (Below.refl _ w) (.cells #[.slice A0 lex.length c0, .slice A1 names.length c1, .int .i64 start, .slice A3 prods.length c3] 28)
  have HBX := Aside0.mk (blk_new w (.cells #[.slice A0 lex.length c0, .slice A1 names.length c1, .int .i64 start, .slice A3 prods.length c3] 28))
  have HC := Aside0.mk (head_calls (w.alloc (.cells #[.slice A0 lex.length c0, .slice A1 names.length c1, .int .i64 start, .slice A3 prods.length c3] 28)) (by have := hA.size; omega) ((hA.block _ (by omega)).trans hb))
  have HT := Aside0.mk (tab_of_block hb)
  have H0 := Aside0.mk h0
  have H1 := Aside0.mk h1
  have H3 := Aside0.mk h3
  have HAA := Aside0.mk hA
  have HL := Aside0.mk hL
  have hw0 : 0 < w.heap.size := by omega
  clear h0 h1 h3 hb hA hL
  go_enter Tryz.func5, Tryz.ntmps5
  go_wp2_with (go_at_call 6; refine HC.out.mono ?_)
  first | rintro e w1 rfl k1 | rintro e w1 ⟨rfl, k1⟩
  have HB1 := Aside0.mk (below_then HAA.out HAA.out.size k1)
  have X1 := Aside0.mk ((k1.block _ (blk_lt HBX.out)).trans HBX.out)
  have q0 := (blk_cell X1.out 0).trans (show _ = some (.slice A0 lex.length c0) from rfl)
  have q1 := (blk_cell X1.out 1).trans (show _ = some (.slice A1 names.length c1) from rfl)
  have q2 := (blk_cell X1.out 2).trans (show _ = some (.int .i64 start) from rfl)
  have q3 := (blk_cell X1.out 3).trans (show _ = some (.slice A3 prods.length c3) from rfl)
  have HTW := Aside0.mk (twin7 lex names start prods A0 A1 A3 c0 c1 c3 w1 (Kd.C_below H0.out HB1.out) (Kd.C_below H1.out HB1.out) (Kd.C_below H3.out HB1.out) g0 g1 g3 HL.out.b0 HL.out.b1 HL.out.b3 HL.out.b4)
  clear k1 HC HBX
  go_wp2_with (go_at_call 7; refine HTW.out.mono ?_)
  rintro e w2 ⟨B0, B1, B3, d0, d1, d3, ok, rfl, hTw, k2⟩
  have HB2 := Aside0.mk (below_then HB1.out HB1.out.size k2)
  have X2 := Aside0.mk ((k2.block _ (blk_lt X1.out)).trans X1.out)
  have H8 := Aside0.mk (spec8 lex names start prods B0 B1 B3 d0 d1 d3 w2 (Kd.C_F k42_heap hTw.C0) (Kd.C_F Kd.heap_string hTw.C1) (Kd.C_F k67_heap hTw.C3) (tab_below HT.out hw0 HB2.out) (Nat.lt_of_lt_of_le hw0 HB2.out.size))
  clear k2 hTw HTW q0 q1 q2 q3
  by_cases he : specErr lex names start prods = 0
  rotate_left
  · have ht : told lex names start prods = [] := by unfold told; rw [if_neg he]
    rw [ht] at H8
    generalize specErr lex names start prods = r at *
    obtain ⟨e1, e2⟩ := bf he
    go_wp2_with (go_at_call 8; refine H8.out.mono ?_)
    rintro e w3 ⟨va, rfl, hoa, k3⟩
    obtain ⟨a1, f1, rfl⟩ := own_slice hoa
    have HB3 := Aside0.mk (below_then HB2.out HB2.out.size k3)
    clear hoa k3
    go_wp2
    go_ret
    exact ⟨rfl, HB3.out⟩
  have hG := Aside0.mk (spec_good he)
  have ht : told lex names start prods = summed (encSpec lex names start prods) := by unfold told; rw [if_pos he]
  have hs := told_small lex names start prods
  obtain ⟨bs, hbs⟩ : ∃ bs, bs = told lex names start prods := ⟨_, rfl⟩
  have hbl : 0 < bs.length := by rw [hbs, ht, summed, List.length_append]; show 0 < _ + 4; omega
  have HBS := Aside0.mk (hbs.trans ht)
  have HT2 := Aside0.mk hbs
  rw [he, ← hbs] at H8
  rw [← hbs] at hs
  have HE := Aside0.mk he
  clear he ht hbs
  go_wp2_with (go_at_call 8; refine H8.out.mono ?_)
  rintro e w3 ⟨va, rfl, hoa, k3⟩
  obtain ⟨a1, f1, rfl⟩ := own_slice hoa
  have HB3 := Aside0.mk (below_then HB2.out HB2.out.size k3)
  have X3 := Aside0.mk ((k3.block _ (blk_lt X2.out)).trans X2.out)
  have HOA := Aside0.mk hoa
  have H13 := Aside0.mk (bytes13 a1 f1 bs w3 hbl (by omega) (hoa.cell hbl).2)
  clear hoa k3 H8
  go_wp2_with (go_at_call 13; refine H13.out.mono ?_)
  rintro e w4 ⟨q, cb, rfl, hrow, hcap, k4⟩
  have HB4 := Aside0.mk (below_then HB3.out HB3.out.size k4)
  have X4 := Aside0.mk ((k4.block _ (blk_lt X3.out)).trans X3.out)
  have HOA4 := Aside0.mk (HOA.out.below k4)
  have H14 := Aside0.mk (readSpec14 q cb bs lex names start prods w4 hrow hcap (by rw [HBS.out]; exact bytes_summed' (bytes_spec _ _ _ _)) (tab_below HT.out hw0 HB4.out) hs hG.out HBS.out)
  clear k4 H13 hrow hcap
  go_wp2_with (go_at_call 14; refine H14.out.mono ?_)
  rintro e w5 ⟨v, rfl, ⟨T0, t0, T1, t1, T3, t3, rfl, ⟨m0, m1, m3⟩, F0, F1, F3⟩, k5⟩
  have HB5 := Aside0.mk (below_then HB4.out HB4.out.size k5)
  have X5 := (k5.block _ (blk_lt X4.out)).trans X4.out
  have HOA5 := HOA4.out.below k5
  have hA5 := below_alloc (Below.refl _ w5) (.cells #[.slice T0 lex.length t0, .slice T1 names.length t1, .int .i64 start, .slice T3 prods.length t3] 28)
  have HB6 := Aside0.mk (below_then HB5.out HB5.out.size hA5)
  have X6 := Aside0.mk ((hA5.block _ (blk_lt X5)).trans X5)
  have Y6 := Aside0.mk (blk_new w5 (.cells #[.slice T0 lex.length t0, .slice T1 names.length t1, .int .i64 start, .slice T3 prods.length t3] 28))
  have HOA6 := Aside0.mk (HOA5.below hA5)
  have E0 := Aside0.mk (Kd.C_below (Kd.F_now F0) hA5)
  have E1 := Aside0.mk (Kd.C_below (Kd.F_now F1) hA5)
  have E3 := Aside0.mk (Kd.C_below (Kd.F_now F3) hA5)
  have H8b := spec8 lex names start prods T0 T1 T3 t0 t1 t3 _ (Kd.C_F k42_heap E0.out) (Kd.C_F Kd.heap_string E1.out) (Kd.C_F k67_heap E3.out) (tab_below HT.out hw0 HB6.out) (Nat.lt_of_lt_of_le hw0 HB6.out.size)
  rw [HE.out, ← HT2.out] at H8b
  have H8b := Aside0.mk H8b
  clear k5 X5 HOA5 hA5 F0 F1 F3 H14
  go_wp2_with (go_at_call 8; refine H8b.out.mono ?_)
  rintro e w7 ⟨vb, rfl, hob, k7⟩
  obtain ⟨a2, f2, rfl⟩ := own_slice hob
  have HB7 := Aside0.mk (below_then HB6.out HB6.out.size k7)
  have X7 := Aside0.mk ((k7.block _ (blk_lt X6.out)).trans X6.out)
  have Y7 := Aside0.mk ((k7.block _ (blk_lt Y6.out)).trans Y6.out)
  have HOA7 := Aside0.mk (HOA6.out.below k7)
  have HOB7 := Aside0.mk hob
  have HSS := Aside0.mk (sameSpec11 lex names start prods A0 A1 A3 T0 T1 T3 c0 c1 c3 t0 t1 t3 w7 (Kd.C_below H0.out HB7.out) (Kd.C_below H1.out HB7.out) (Kd.C_below H3.out HB7.out) (Kd.C_below E0.out k7) (Kd.C_below E1.out k7) (Kd.C_below E3.out k7))
  have q0 := (blk_cell X7.out 0).trans (show _ = some (.slice A0 lex.length c0) from rfl)
  have q1 := (blk_cell X7.out 1).trans (show _ = some (.slice A1 names.length c1) from rfl)
  have q2 := (blk_cell X7.out 2).trans (show _ = some (.int .i64 start) from rfl)
  have q3 := (blk_cell X7.out 3).trans (show _ = some (.slice A3 prods.length c3) from rfl)
  have y0 := (blk_cell Y7.out 0).trans (show _ = some (.slice T0 lex.length t0) from rfl)
  have y1 := (blk_cell Y7.out 1).trans (show _ = some (.slice T1 names.length t1) from rfl)
  have y2 := (blk_cell Y7.out 2).trans (show _ = some (.int .i64 start) from rfl)
  have y3 := (blk_cell Y7.out 3).trans (show _ = some (.slice T3 prods.length t3) from rfl)
  clear hob k7 H8b
  go_wp2_with (go_at_call 11; refine HSS.out.mono ?_)
  first | rintro e w8 rfl k8 | rintro e w8 ⟨rfl, k8⟩
  have HSM := Aside0.mk (same10 bs hs a1 a2 bs.length bs.length f1 f2 w8 (HOA7.out.below k8) (HOB7.out.below k8))
  have HB8 := Aside0.mk (below_then HB7.out HB7.out.size k8)
  clear k8 HSS
  go_wp2_with (go_at_call 10; refine HSM.out.mono ?_)
  first | rintro e w9 rfl k9 | rintro e w9 ⟨rfl, k9⟩
  have HB9 := Aside0.mk (below_then HB8.out HB8.out.size k9)
  clear k9
  go_wp2
  go_ret
  exact ⟨rfl, HB9.out⟩
end Go.Proofs.YtpnkifincadakaaGreatDoor.Wr
end
section
namespace Go.Proofs.YtpnkifincadakaaGreatDoor.Wr
open Go.ChangeShapes Go.WideShapes Go.ChangeAt Go.RowKit
open Go.Pk Go.Proofs.YtpnkifincadakaaGreatDoorW.PrintWords Go.Proofs.YtpnkifincadakaaGreatDoor.PPackSpecs
set_option maxRecDepth 100000 in
theorem liftedR (os : Os) (started : os.Started) (H : Type) (enc : TypeId × Value → H) :
    ReturnsInHanded {} Tryz.checked os 5 .any (fun w args => (Rows.packRoundSpec.pre enc Tryz.prog Tryz.f5 [] false w args ∧ laidMet Tryz.prog laid4 w) ∧ sizedMet enc Tryz.prog Tryz.f5 (OpenSpec.ofChange Rows.packRoundSpec) false w args)
      (Rows.packRoundSpec.post enc Tryz.prog Tryz.f5 false true false false) := by
  refine handed_shaped (C := Tryz.checked) (X := fun w _ => laidMet Tryz.prog laid4 w) (fun _ _ _ hh h => h.of_heap hh) own started (by kernel_rfl) Tryz.func5
    (ChangeSpec.witness_at (enc := enc) (C := Tryz.checked) (os := os) (X := fun w _ => laidMet Tryz.prog laid4 w) false (laidWorld os) #[.agg #[.slice none 0 0, .slice none 0 0, .int .i64 0, .slice none 0 0]] 8 rfl (by kernel_rfl) (by kernel_rfl) (by kernel_rfl) (by kernel_rfl) (by kernel_rfl) (laidWorld_met os _)) ?_
  intro W base args ds gs before hval0 hW hsz0 hL hS
  have hsz : (DataW.weightsEach Tryz.prog (Tryz.f5.params.toList ++ Rows.packRoundSpec.plain.varTypes Tryz.prog) (ds ++ gs)).all (· ≤ reachBytes) = true := hsz0
  have hval : ∀ (j : Nat) t v, Tryz.f5.params[j]? = some t → args[j]? = some v → Value.okWide Tryz.prog W .any base t v := hval0
  have hW' := hW
  obtain ⟨p, q, hA0, hV, rfl, hfz, hnd⟩ := hW
  have hA : DataW.TrodAll enc Tryz.prog W 0 (fun _ => true) true Tryz.f5.params.toList args.toList ds p := hA0
  rw [Tryz.params5] at hA hval hsz
  obtain ⟨v0, vs0, d0, ds0, p0, q0, hargs, rfl, rfl, h0, r0⟩ := trodAll_cons hA
  obtain ⟨rfl, rfl, rfl⟩ := trodAll_nil r0
  obtain rfl : args = #[v0] := by cases args; simp_all
  obtain ⟨rfl, rfl⟩ := trodVars_none hV
  obtain ⟨cs, rfl, hcs⟩ := okWide_struct Tryz.underlying28 (hval 0 28 v0 rfl rfl)
  have k0 := h0
  have lt0 : ∀ x ∈ p0, x.block < W.heap.size := by obtain ⟨m, hm⟩ := k0; exact DataW.trod_lt m _ _ _ hm
  obtain ⟨htab, h5⟩ := tab_laid hL hS
  obtain ⟨s, ⟨A0, A1, A3, c0, c1, c3, hc, g0, g1, g3, l0, l1, l3⟩, hlim⟩ : ∃ s : S28, Spk W s cs.toList ∧ Lim s := by
    obtain ⟨fuel, hf⟩ := h0
    have hwt : Wt 28 d0 := fun n hn => by
      have := List.all_eq_true.1 hsz n (DataW.weights_mem_each (j := 0) (t := 28) (d := d0) (by rfl) (by rfl) n hn)
      simpa using this
    exact open28 fuel cs.toList (d0, p0) hf hwt
  obtain rfl : cs = #[.slice A0 s.lex.length c0, .slice A1 s.names.length c1, .int .i64 s.start, .slice A3 s.prods.length c3] := by cases cs; simp_all
  clear hA0 hval0 hsz0 hsz
  obtain ⟨lex, names, start, prods⟩ := s
  refine (packRound5 lex names start prods A0 A1 A3 c0 c1 c3 W h5 htab g0 g1 g3 l0 l1 l3 hlim).mono fun e W' ⟨he, bel⟩ => ?_
  subst he
  exact ⟨_, rfl, _, _, _, [], _, [], hW', trodAll_mk1 (shut_bool Tryz.underlying4 _), (trodAll_cons_mk (Below.trod laidOut (by kernel_rfl) (of_decide_eq_true (by kernel_rfl)) k0 bel lt0) trodAll_mk0), rfl, bel.frame _, fun h => by cases h⟩
end Go.Proofs.YtpnkifincadakaaGreatDoor.Wr
end
