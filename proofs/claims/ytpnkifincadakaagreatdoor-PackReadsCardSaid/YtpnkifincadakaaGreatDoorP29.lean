/- Proved: part 29 of the proof of PackReads (Ey9). Conditions: each theorem states its own. -/
import Derived.Test.YtpnkifincadakaaGreatDoorP28
set_option linter.unusedVariables false
set_option linter.unusedSimpArgs false
section
namespace Go.Proofs.YtpnkifincadakaaGreatDoor.Wr
open Go.RowKit Go.Pk Go.Proofs.YtpnkifincadakaaGreatDoorW.PrintWords Go.Proofs.YtpnkifincadakaaGreatDoor.PPackSpecs
set_option maxHeartbeats 64000000 in
set_option maxRecDepth 100000 in
theorem readSpec15 (A : Option Addr) (cap : Nat) (bs : List Int) (d : Rdd (List S42 × List ByteArray × Int × List S67)) (hd : readD bs = d) (w : World)
    (hr : ∀ (j : Nat) (x : Int), bs[j]? = some x → ∃ p, A = some p ∧ w.cell? (p.add j) = some (.int .u8 x)) (hnl : A = none → cap = 0) (hcap : bs.length ≤ cap ∧ cap ≤ 9223372036854775807) (hby : ∀ b, b ∈ bs → 0 ≤ b ∧ b < 256) :
    Calls Tryz.prog 15 #[.slice A bs.length cap] w fun e w' => ∃ v, e = .returned (.tuple #[v, .int .i64 (placeOf d), .int .i64 (codeOf d)]) ∧ ReadIt w.heap.size (gotS d).1 (gotS d).2.1 (gotS d).2.2.1 (gotS d).2.2.2 v w' ∧ Below w.heap.size w w' := by
  have hA1 := below_alloc (Below.refl _ w) (.cells #[.slice none 0 0, .slice none 0 0, .int .i64 0, .slice none 0 0] 28)
  have R1 := blk_new w (.cells #[.slice none 0 0, .slice none 0 0, .int .i64 0, .slice none 0 0] 28)
  by_cases hlong : 67108864 < bs.length
  · obtain rfl : d = .bad 2 0 := by rw [← hd, readD, if_pos hlong]
    have hl' : decide ((67108864 : Int) < (bs.length : Int)) = true := decide_eq_true (by omega)
    have e0 := (blk_cell R1 0).trans (show _ = some (.slice none 0 0) from rfl)
    have e1 := (blk_cell R1 1).trans (show _ = some (.slice none 0 0) from rfl)
    have e2 := (blk_cell R1 2).trans (show _ = some (.int .i64 0) from rfl)
    have e3 := (blk_cell R1 3).trans (show _ = some (.slice none 0 0) from rfl)
    clear hd hr hby
    go_enter Tryz.func15, Tryz.ntmps15
    go_wp2
    refine bodyPost_ret (v := .tuple #[.agg #[.slice none 0 0, .slice none 0 0, .int .i64 0, .slice none 0 0], .int .i64 0, .int .i64 2]) (by simp [results, Tryz.results15, go_sem, e0, e1, e2, e3]) rfl ?_
    exact ⟨_, rfl, readIt_nil _ _, hA1⟩
  rw [readD, if_neg hlong] at hd
  have hl' : decide ((67108864 : Int) < (bs.length : Int)) = false := decide_eq_false (by omega)
  have hlA : ∀ p, A = some p → 0 < bs.length → p.block < w.heap.size := fun p hp hl => by
    obtain ⟨q, hq, hcc⟩ := hr 0 _ (List.getElem?_eq_getElem hl)
    rw [hp] at hq
    cases hq
    have := cell_lt hcc
    rw [add_block] at this
    exact this
  have hA2 := below_alloc hA1 (.cells #[.slice A bs.length cap, .int .i64 0, .int .i64 0, .int .i64 0] 96)
  have Y2 := blk_new (w.alloc (.cells #[.slice none 0 0, .slice none 0 0, .int .i64 0, .slice none 0 0] 28)) (.cells #[.slice A bs.length cap, .int .i64 0, .int .i64 0, .int .i64 0] 96)
  rw [World.size_alloc] at Y2
  have V2 : ES (w.heap.size + 1) A cap bs (.ok () 0) ((w.alloc (.cells #[.slice none 0 0, .slice none 0 0, .int .i64 0, .slice none 0 0] 28)).alloc (.cells #[.slice A bs.length cap, .int .i64 0, .int .i64 0, .int .i64 0] 96)) :=
    ⟨⟨0, Y2, Nat.zero_le _, fun a h => by cases h; rfl⟩, fun j x hj => by
      obtain ⟨p, hp, hc⟩ := hr j x hj
      have := hlA p hp (by have := (List.getElem?_eq_some_iff.1 hj).1; omega)
      exact ⟨p, hp, by omega, pw_cell_below hA2 hc⟩, hnl, hcap, by omega, hby, fun e p h => by cases h⟩
  have R2 := blk_alloc R1 (.cells #[.slice A bs.length cap, .int .i64 0, .int .i64 0, .int .i64 0] 96)
  obtain ⟨Y, hY⟩ : ∃ Y, Y = w.heap.size + 1 := ⟨_, rfl⟩
  rw [← hY] at V2
  obtain ⟨dm, hdm⟩ : ∃ dm, magicD bs magic 0 = dm := ⟨_, rfl⟩
  have HH := Aside0.mk (head43 Y A cap bs ⟨#[103, 114, 97, 102, 116, 115, 112, 101]⟩ dm hdm _ V2 (by decide))
  have HD := Aside0.mk hd
  have HDM := Aside0.mk hdm
  have HY := Aside0.mk hY
  have hYw : w.heap.size < Y := by omega
  have HYS := Aside0.mk hY.symm
  have R2 := Aside0.mk R2
  have B2 := Aside0.mk hA2
  clear hd hr hnl hby hA1 hA2 R1 Y2 V2 hdm hY
  go_enter Tryz.func15, Tryz.ntmps15
  go_wp2_with (go_at_call 43; rw [HYS.out]; refine HH.out.mono ?_)
  first | rintro e w3 st3 rfl g1 k1 k2 | rintro e w3 ⟨st3, rfl, g1, k1, k2⟩
  have R3 := Aside0.mk (k2.blk R2.out (by omega))
  have B3 : Below w.heap.size w w3 := B2.out.trans (k2.below.mono (by omega))
  have A3 := Aside0.mk (at_bind (d := d) (F := fun _ a => (numD bs a 1 0 64).bind fun nl a => (manyD (one (ruleD bs)) nl.toNat () a).bind fun lex a => S1 bs lex.1 a) g1 (by rw [← HDM.out, ← HD.out, spec_eq]))
  have hA3 := below_alloc (Below.refl _ w3) (.cells #[.slice none 0 0, .slice none 0 0, .int .i64 0, .slice none 0 0] 28)
  have hYS : Y < w3.heap.size := k1.ylt
  obtain ⟨S, hS⟩ : ∃ S, S = w3.heap.size := ⟨_, rfl⟩
  have L3 := Lp.start (k1.below hA3) (blk_new w3 (.cells #[.slice none 0 0, .slice none 0 0, .int .i64 0, .slice none 0 0] 28)) hYS (fun p hp hl => by have := hlA p hp hl; omega)
  rw [← hS] at L3
  have HL3 := Aside0.mk L3
  have R4 := Aside0.mk ((hA3.block _ (blk_lt R3.out)).trans R3.out)
  have B4 := Aside0.mk (below_then B3 B3.size hA3)
  have HN := Aside0.mk (num44 Y A cap bs st3 1 0 64 _ HL3.out.es (by omega))
  have HSS := Aside0.mk hS.symm
  have hYS' : Y < S := by omega
  have hws : w.heap.size < S := by omega
  clear hA3 L3 hS k1 k2 g1 hYS B3 R3 HH HDM HD R2 B2
  go_upto_region 6 with fail
  rw [HSS.out]
  obtain ⟨w4, hw4⟩ : ∃ w4, w4 = w3.alloc (.cells #[.slice none 0 0, .slice none 0 0, .int .i64 0, .slice none 0 0] 28) := ⟨_, rfl⟩
  rw [← hw4] at HN HL3 R4 B4 ⊢
  clear hw4
  go_wp2_with (go_at_call 44; refine HN.out.mono ?_)
  first | rintro e w5 nl rfl st5 g1 hnlb k1 k2 | rintro e w5 nl st5 rfl g1 hnlb k1 k2 | rintro e w5 ⟨nl, st5, rfl, g1, hnlb, k1, k2⟩
  have A5 := Aside0.mk (at_step A3.out g1)
  have L5 := Aside0.mk (HL3.out.num k1 k2)
  have R5 := Aside0.mk (k2.blk R4.out (by omega))
  have B5 := Aside0.mk (B4.out.trans (k2.below.mono (by omega)))
  have hnl0 : 0 ≤ nl ∧ nl ≤ 64 := by omega
  clear k1 k2 g1 hnlb HN A3 HL3 R4 B4
  go_upto_block 0 with fail
  go_cut [8, 9] from 30 to 62 (fun _ _ wx => ∃ (st : Rdd Unit) (lex : List S42) (v0 : Value), Aside0 (Lp Y S A cap bs st #[v0, .slice none 0 0, .int .i64 0, .slice none 0 0] w5 wx) ∧ Aside0 (Kd.N k42 42 wx w5.heap.size (fun k => w5.heap.size ≤ k) v0 lex) ∧ Aside0 (At st d (S1 bs lex)) ∧ lex.length ≤ 64)
  case first =>
    go_wp2_with fail
    go_loopw [8] (fun i wr => ∃ (j : Nat) (st : Rdd Unit) (lex : List S42) (v0 : Value), i = .int .i64 j ∧ j ≤ 64 ∧ j ≤ nl.toNat ∧ lex.length = j ∧ Aside0 (Lp Y S A cap bs st #[v0, .slice none 0 0, .int .i64 0, .slice none 0 0] w5 wr) ∧ Aside0 (Kd.N k42 42 wr w5.heap.size (fun k => w5.heap.size ≤ k) v0 lex) ∧ Aside0 (At st d (fun a => (manyD (one (ruleD bs)) (nl.toNat - j) () a).bind fun l a => S1 bs (lex ++ l.1) a))) (fun i _ => nl.toNat - (intOf i).toNat)
    case atStart => exact ⟨0, st5, [], .slice none 0 0, rfl, Nat.zero_le _, Nat.zero_le _, rfl, ⟨Lp.start L5.out.es L5.out.sb L5.out.ys L5.out.la⟩, ⟨Kd.N_nil _ _ _ _ _⟩, A5⟩
    case round =>
      obtain ⟨j, st, lex, v0, rfl, hj1, hj2, hxk, hL, hNv, hA⟩ := hrel
      have HXK := Aside0.mk hxk
      clear hxk
      obtain ⟨t4, _, _, _, _, d2, _, _⟩ := hL.out.es.at
      have hne0 := hL.out.es.ne0
      have hSl := hL.out.sl
      have hwr := hL.out.mv.size
      by_cases hlt : (j : Int) < nl
      · rcases st with ⟨⟨⟩, a⟩ | ⟨er, p⟩
        · dsimp only [eOf] at d2
          obtain ⟨m, hm⟩ : ∃ m, nl.toNat - j = m + 1 := ⟨nl.toNat - j - 1, by omega⟩
          have HM1 : Aside0 (nl.toNat - (j + 1) = m) := ⟨by omega⟩
          have HA1 : Aside0 (At (.ok () a) d (fun a => (numD bs a 1 0 1).bind fun t a1 => (nameD bs a1).bind fun s a2 => (patternD bs a2).bind fun e a3 => (manyD (one (ruleD bs)) m () a3).bind fun l a4 => S1 bs ((lex ++ [⟨s, decide (t = 1), e⟩]) ++ l.1) a4)) := ⟨at_mono hA.out fun a _ => by
            rw [hm, many_one, rule_bind]
            simp only [List.append_assoc, List.cons_append, List.nil_append]⟩
          have HN1 := Aside0.mk (num44 Y A cap bs (.ok () a) 1 0 1 wr hL.out.es (by omega))
          clear hm hA
          go_wp2_with (go_at_call 44; refine HN1.out.mono ?_)
          first | rintro e wa t rfl st1 g1 _ k1 k2 | rintro e wa t st1 rfl g1 _ k1 k2 | rintro e wa ⟨t, st1, rfl, g1, _, k1, k2⟩
          have HA2 := Aside0.mk (at_step HA1.out g1)
          obtain ⟨b, hb⟩ : ∃ b, (t == 1) = b := ⟨_, rfl⟩
          have HBD : Aside0 (decide (t = 1) = b) := ⟨by rw [← hb]; rfl⟩
          have hAb := below_alloc (Below.refl _ wa) (.cells #[.string ⟨#[]⟩, .bool b, .int .i64 0, .int .i64 0, .int .i64 0, .int .i64 0, .int .i64 0, .slice none 0 0] 42)
          have Eb := Aside0.mk (k1.below hAb)
          have Mb := Aside0.mk (k2.trans (Mv.of_below hAb (Nat.le_of_lt k1.ylt)))
          have Xb := Aside0.mk (blk_new wa (.cells #[.string ⟨#[]⟩, .bool b, .int .i64 0, .int .i64 0, .int .i64 0, .int .i64 0, .int .i64 0, .slice none 0 0] 42))
          obtain ⟨X, hX⟩ : ∃ X, X = wa.heap.size := ⟨_, rfl⟩
          have hXr : wr.heap.size ≤ X := by have := k2.size; omega
          have HN2 := Aside0.mk (name45 Y A cap bs st1 _ Eb.out)
          have HXX := Aside0.mk hX.symm
          clear k1 k2 g1 hAb HN1 HA1 hX
          go_upto_region 11 with fail
          rw [HXX.out]
          rw [HXX.out] at Xb
          obtain ⟨wb, hwb⟩ : ∃ wb, wb = wa.alloc (.cells #[.string ⟨#[]⟩, .bool b, .int .i64 0, .int .i64 0, .int .i64 0, .int .i64 0, .int .i64 0, .slice none 0 0] 42) := ⟨_, rfl⟩
          rw [← hwb] at HN2 Eb Mb Xb ⊢
          clear hwb hb HXX
          go_wp2_with (go_at_call 45; refine HN2.out.mono ?_)
          first | rintro e wd s rfl st2 g2 k1 k2 | rintro e wd s st2 rfl g2 k1 k2 | rintro e wd ⟨s, st2, rfl, g2, k1, k2⟩
          have HA3 := Aside0.mk (at_step HA2.out g2)
          have Xd := k2.blk Xb.out (by have := hL.out.ys; have := Eb.out.ylt; omega)
          have xf : ∀ i, wd.frozen? ⟨X, i, none⟩ = false := fun i => blk_frozen Xd i
          have x0 : wd.cell? ⟨X, 0, none⟩ = some (.string ⟨#[]⟩) := (blk_cell Xd 0).trans rfl
          have Xe : (wd.setCell ⟨X, 0, none⟩ (.string s)).heap[X]? = some (.cells #[.string s, .bool b, .int .i64 0, .int .i64 0, .int .i64 0, .int .i64 0, .int .i64 0, .slice none 0 0] 42 (0, 0)) := blk_put Xd 0 (.string s) rfl
          have Xe := Aside0.mk Xe
          have hYX : X ≠ Y := by have := hL.out.ys; omega
          have Ee := Aside0.mk (k1.put (q := ⟨X, 0, none⟩) hYX (fun p hp hl => by have := hL.out.la p hp hl; have := hL.out.ys; show p.block ≠ X; omega) (.string s))
          have Me := Aside0.mk ((Mb.out.trans k2).far (by have := hL.out.ys; omega) (p := ⟨X, 0, none⟩) hXr (.string s))
          obtain ⟨t5, _, _, _, _, e2, _, _⟩ := Ee.out.at
          have hne5 := Ee.out.ne0
          clear k1 k2 g2 Xd HN2 HA2 Xb Eb Mb
          obtain ⟨we, hwe⟩ : ∃ we, we = wd.setCell ⟨X, 0, none⟩ (.string s) := ⟨_, rfl⟩
          go_upto_region 12 with fail
          rw [← hwe] at Xe Ee Me e2 ⊢
          clear hwe xf x0
          rcases st2 with ⟨⟨⟩, a2⟩ | ⟨er, p⟩
          · dsimp only [eOf] at e2
            have HP := Aside0.mk (pattern46 Y A cap bs a2 we Ee.out)
            go_wp2_with (go_at_call 46; refine HP.out.mono ?_)
            rintro e wf ⟨x, st4, B, cp, rfl, lc, hF, k1, k2, hag⟩
            have HA4 := Aside0.mk (at_step HA3.out hag)
            have Xf := k2.blk Xe.out hYX
            have xf : ∀ i, wf.frozen? ⟨X, i, none⟩ = false := fun i => blk_frozen Xf i
            have x2 : wf.cell? ⟨X, 2, none⟩ = some (.int .i64 0) := (blk_cell Xf 2).trans rfl
            have x3 : wf.cell? ⟨X, 3, none⟩ = some (.int .i64 0) := (blk_cell Xf 3).trans rfl
            have x4 : wf.cell? ⟨X, 4, none⟩ = some (.int .i64 0) := (blk_cell Xf 4).trans rfl
            have x5 : wf.cell? ⟨X, 5, none⟩ = some (.int .i64 0) := (blk_cell Xf 5).trans rfl
            have x6 : wf.cell? ⟨X, 6, none⟩ = some (.int .i64 0) := (blk_cell Xf 6).trans rfl
            have x7 : wf.cell? ⟨X, 7, none⟩ = some (.slice none 0 0) := (blk_cell Xf 7).trans rfl
            have hla := fun (p : Addr) (hp : A = some p) (hl : 0 < bs.length) => (show p.block ≠ X by have := hL.out.la p hp hl; have := hL.out.ys; omega)
            have hyw : Y < wr.heap.size := by have := hL.out.ys; omega
            obtain ⟨wg, hwg⟩ : ∃ wg, wg = (((((wf.setCell ⟨X, 2, none⟩ (.int .i64 x.f0)).setCell ⟨X, 3, none⟩ (.int .i64 x.f1)).setCell ⟨X, 4, none⟩ (.int .i64 x.f2)).setCell ⟨X, 5, none⟩ (.int .i64 x.f3)).setCell ⟨X, 6, none⟩ (.int .i64 x.f4)).setCell ⟨X, 7, none⟩ (.slice B x.f5.length cp) := ⟨_, rfl⟩
            have Eg : ES Y A cap bs st4 wg := by rw [hwg]; exact (((((k1.put (q := ⟨X, 2, none⟩) hYX hla _).put (q := ⟨X, 3, none⟩) hYX hla _).put (q := ⟨X, 4, none⟩) hYX hla _).put (q := ⟨X, 5, none⟩) hYX hla _).put (q := ⟨X, 6, none⟩) hYX hla _).put (q := ⟨X, 7, none⟩) hYX hla _
            have Mg : Mv Y wr wg := by rw [hwg]; exact ((((((Me.out.trans k2).far hyw (p := ⟨X, 2, none⟩) hXr _).far hyw (p := ⟨X, 3, none⟩) hXr _).far hyw (p := ⟨X, 4, none⟩) hXr _).far hyw (p := ⟨X, 5, none⟩) hXr _).far hyw (p := ⟨X, 6, none⟩) hXr _).far hyw (p := ⟨X, 7, none⟩) hXr _
            have Xg : wg.heap[X]? = some (.cells #[.string s, .bool b, .int .i64 x.f0, .int .i64 x.f1, .int .i64 x.f2, .int .i64 x.f3, .int .i64 x.f4, .slice B x.f5.length cp] 42 (0, 0)) := by
              rw [hwg]
              exact blk_put (cs := #[.string s, .bool b, .int .i64 x.f0, .int .i64 x.f1, .int .i64 x.f2, .int .i64 x.f3, .int .i64 x.f4, .slice none 0 0]) (blk_put (cs := #[.string s, .bool b, .int .i64 x.f0, .int .i64 x.f1, .int .i64 x.f2, .int .i64 x.f3, .int .i64 0, .slice none 0 0]) (blk_put (cs := #[.string s, .bool b, .int .i64 x.f0, .int .i64 x.f1, .int .i64 x.f2, .int .i64 0, .int .i64 0, .slice none 0 0]) (blk_put (cs := #[.string s, .bool b, .int .i64 x.f0, .int .i64 x.f1, .int .i64 0, .int .i64 0, .int .i64 0, .slice none 0 0]) (blk_put (cs := #[.string s, .bool b, .int .i64 x.f0, .int .i64 0, .int .i64 0, .int .i64 0, .int .i64 0, .slice none 0 0]) (blk_put Xf 2 _ rfl) 3 _ rfl) 4 _ rfl) 5 _ rfl) 6 _ rfl) 7 _ rfl
            have hwe := Me.out.size
            have Fg : Kd.F k40 wg (fun k => X < k) B x.f5.length x.f5 := by
              have h1 : Kd.F k40 wf (fun k => X < k) B x.f5.length x.f5 := Kd.F_mono hF fun k hk => by have := blk_lt Xe.out; omega
              rw [hwg]
              exact Kd.F_step h1 fun k hk _ => by rw [Below.heap_setCell _ _ _ _ (show k ≠ X by omega), Below.heap_setCell _ _ _ _ (show k ≠ X by omega), Below.heap_setCell _ _ _ _ (show k ≠ X by omega), Below.heap_setCell _ _ _ _ (show k ≠ X by omega), Below.heap_setCell _ _ _ _ (show k ≠ X by omega), Below.heap_setCell _ _ _ _ (show k ≠ X by omega)]
            clear k1 k2 hag hF Xf Ee Me Xe HA3
            go_upto_region 14 with fail
            rw [← hwg]
            clear hwg x2 x3 x4 x5 x6 x7 xf
            have Lg := hL.out.num Eg Mg
            have Ng := Aside0.mk (N_mv1 hNv.out Mg hyw (by have := hL.out.ys; omega))
            have hsg : wr.heap.size ≤ wg.heap.size := Mg.size
            have s0 := Lg.cell 0 _ rfl
            have y0 : wg.cell? ⟨X, 0, none⟩ = some (.string s) := (blk_cell Xg 0).trans rfl
            have y1 : wg.cell? ⟨X, 1, none⟩ = some (.bool b) := (blk_cell Xg 1).trans rfl
            have y2 : wg.cell? ⟨X, 2, none⟩ = some (.int .i64 x.f0) := (blk_cell Xg 2).trans rfl
            have y3 : wg.cell? ⟨X, 3, none⟩ = some (.int .i64 x.f1) := (blk_cell Xg 3).trans rfl
            have y4 : wg.cell? ⟨X, 4, none⟩ = some (.int .i64 x.f2) := (blk_cell Xg 4).trans rfl
            have y5 : wg.cell? ⟨X, 5, none⟩ = some (.int .i64 x.f3) := (blk_cell Xg 5).trans rfl
            have y6 : wg.cell? ⟨X, 6, none⟩ = some (.int .i64 x.f4) := (blk_cell Xg 6).trans rfl
            have y7 : wg.cell? ⟨X, 7, none⟩ = some (.slice B x.f5.length cp) := (blk_cell Xg 7).trans rfl
            have FG := Aside0.mk Fg
            have HLg := Aside0.mk Lg
            have HA5 := Aside0.mk (HBD.out ▸ HA4.out)
            clear Lg Eg Mg Xg Fg HA4
            go_wp2_with (at_builtin; refine Kd.N_append k42 (w0 := wg) w5.heap.size rfl (.tmp 58) (.tmp 60) 24 42 (.agg #[.string ⟨#[]⟩, .bool false, .int .i64 0, .int .i64 0, .int .i64 0, .int .i64 0, .int .i64 0, .slice none 0 0]) 88 rfl Tryz.underlying24 info42 rfl (by decide) (by omega) v0 lex (⟨s, b, x⟩ : S42) [.string s, .bool b, .int .i64 x.f0, .int .i64 x.f1, .int .i64 x.f2, .int .i64 x.f3, .int .i64 x.f4, .slice B x.f5.length cp] (fun k => w5.heap.size ≤ k) (fun k => wr.heap.size ≤ k) rfl rfl (k42_mkF _ _ (⟨s, b, x⟩ : S42) lc (Kd.F_mono FG.out fun k hk => by omega)) ?o1 ?o2 Ng.out (Below.refl _ _) ?o3 ?o4 ?_)
            case o1 => exact fun k hk => ⟨by omega, fun e => absurd (Kd.N_lt hNv.out k e.symm) (by omega)⟩
            case o2 => exact fun k hk => by omega
            case o3 => omega
            case o4 => rw [HXK.out]; omega
            intro v1 w9 hN9 hB9 _ _
            obtain ⟨Av1, cv1, hv1, _, _⟩ := Kd.N_reads hN9
            obtain ⟨nl1, hnl1⟩ : ∃ nl1, nl1 = (lex ++ [(⟨s, b, x⟩ : S42)]).length := ⟨_, rfl⟩
            rw [← hnl1] at hv1
            subst hv1
            clear hnl1
            have L9 := HLg.out.base hB9 (Nat.le_refl _)
            have f9 := L9.frz
            have t9 := L9.cell 0 _ rfl
            have L10 := Aside0.mk (L9.put 0 (.slice Av1 nl1 cv1) _ rfl)
            have N10 := Aside0.mk (Kd.N_step (w1 := w9.setCell ⟨S, 0, none⟩ (.slice Av1 nl1 cv1)) hN9 fun k hk hlt => Below.heap_setCell _ _ _ _ (show k ≠ S by omega))
            clear hN9 hB9 L9
            go_wp2
            go_roundw
            case rel => exact ⟨j + 1, st4, lex ++ [(⟨s, b, x⟩ : S42)], .slice Av1 nl1 cv1, by go_num, by omega, by omega, by rw [List.length_append]; simp [HXK.out], L10, N10, ⟨by rw [HM1.out]; exact HA5.out⟩⟩
            case measure => simp [intOf]; omega
          · dsimp only [eOf] at e2
            obtain ⟨z1, z2⟩ := bf (hne5 er p rfl)
            obtain ⟨st4, hst⟩ : ∃ st4 : Rdd Unit, st4 = .bad er p := ⟨_, rfl⟩
            have HA5 : Aside0 (∀ K, At st4 d K) := ⟨fun K => by rw [hst]; exact HA3.out⟩
            rw [← hst] at Ee
            clear HA3 hst
            go_upto_region 14 with fail
            have hyw : Y < wr.heap.size := by have := hL.out.ys; omega
            have Lg := hL.out.num Ee.out Me.out
            have Ng := Aside0.mk (N_mv1 hNv.out Me.out hyw (by have := hL.out.ys; omega))
            have hsg : wr.heap.size ≤ we.heap.size := Me.out.size
            have s0 := Lg.cell 0 _ rfl
            have y0 : we.cell? ⟨X, 0, none⟩ = some (.string s) := (blk_cell Xe.out 0).trans rfl
            have y1 : we.cell? ⟨X, 1, none⟩ = some (.bool b) := (blk_cell Xe.out 1).trans rfl
            have y2 : we.cell? ⟨X, 2, none⟩ = some (.int .i64 0) := (blk_cell Xe.out 2).trans rfl
            have y3 : we.cell? ⟨X, 3, none⟩ = some (.int .i64 0) := (blk_cell Xe.out 3).trans rfl
            have y4 : we.cell? ⟨X, 4, none⟩ = some (.int .i64 0) := (blk_cell Xe.out 4).trans rfl
            have y5 : we.cell? ⟨X, 5, none⟩ = some (.int .i64 0) := (blk_cell Xe.out 5).trans rfl
            have y6 : we.cell? ⟨X, 6, none⟩ = some (.int .i64 0) := (blk_cell Xe.out 6).trans rfl
            have y7 : we.cell? ⟨X, 7, none⟩ = some (.slice none 0 0) := (blk_cell Xe.out 7).trans rfl
            have HLg := Aside0.mk Lg
            clear Lg Ee Me Xe
            go_wp2_with (at_builtin; refine Kd.N_append k42 (w0 := we) w5.heap.size rfl (.tmp 58) (.tmp 60) 24 42 (.agg #[.string ⟨#[]⟩, .bool false, .int .i64 0, .int .i64 0, .int .i64 0, .int .i64 0, .int .i64 0, .slice none 0 0]) 88 rfl Tryz.underlying24 info42 rfl (by decide) (by omega) v0 lex (⟨s, b, ⟨0, 0, 0, 0, 0, []⟩⟩ : S42) [.string s, .bool b, .int .i64 0, .int .i64 0, .int .i64 0, .int .i64 0, .int .i64 0, .slice none 0 0] (fun k => w5.heap.size ≤ k) (fun k => wr.heap.size ≤ k) rfl rfl (k42_mkF (A7 := none) (c7 := 0) _ _ (⟨s, b, ⟨0, 0, 0, 0, 0, []⟩⟩ : S42) (Nat.le_refl _) (Kd.F_nil _ _ _)) ?o1 ?o2 Ng.out (Below.refl _ _) ?o3 ?o4 ?_)
            case o1 => exact fun k hk => ⟨by omega, fun e => absurd (Kd.N_lt hNv.out k e.symm) (by omega)⟩
            case o2 => exact fun k hk => by omega
            case o3 => omega
            case o4 => rw [HXK.out]; omega
            intro v1 w9 hN9 hB9 _ _
            obtain ⟨Av1, cv1, hv1, _, _⟩ := Kd.N_reads hN9
            obtain ⟨nl1, hnl1⟩ : ∃ nl1, nl1 = (lex ++ [(⟨s, b, ⟨0, 0, 0, 0, 0, []⟩⟩ : S42)]).length := ⟨_, rfl⟩
            rw [← hnl1] at hv1
            subst hv1
            clear hnl1
            have L9 := HLg.out.base hB9 (Nat.le_refl _)
            have f9 := L9.frz
            have t9 := L9.cell 0 _ rfl
            have L10 := Aside0.mk (L9.put 0 (.slice Av1 nl1 cv1) _ rfl)
            have N10 := Aside0.mk (Kd.N_step (w1 := w9.setCell ⟨S, 0, none⟩ (.slice Av1 nl1 cv1)) hN9 fun k hk hlt => Below.heap_setCell _ _ _ _ (show k ≠ S by omega))
            clear hN9 hB9 L9
            go_wp2
            go_roundw
            case rel => exact ⟨j + 1, st4, lex ++ [(⟨s, b, ⟨0, 0, 0, 0, 0, []⟩⟩ : S42)], .slice Av1 nl1 cv1, by go_num, by omega, by omega, by rw [List.length_append]; simp [HXK.out], L10, N10, ⟨by rw [HM1.out]; exact HA5.out _⟩⟩
            case measure => simp [intOf]; omega
        · dsimp only [eOf] at d2
          obtain ⟨z1, z2⟩ := bf (hne0 er p rfl)
          have hAe : Aside0 (At (.bad er p) d (S1 bs lex)) := ⟨hA.out⟩
          have hle : lex.length ≤ 64 := by rw [HXK.out]; omega
          clear hA
          go_wp2
          go_meet
          exact ⟨_, lex, v0, hL, hNv, hAe, hle⟩
      · have zlt : decide ((j : Int) < nl) = false := decide_eq_false hlt
        have hAe : Aside0 (At st d (S1 bs lex)) := ⟨at_mono hA.out fun a _ => by rw [show nl.toNat - j = 0 by omega, manyD, Rdd.bind_ok, List.append_nil]⟩
        have hle : lex.length ≤ 64 := by rw [HXK.out]; omega
        clear hA
        go_wp2
        go_meet
        exact ⟨_, lex, v0, hL, hNv, hAe, hle⟩
  obtain ⟨st6, lex, v0, hL6, hN6, hA6, hle6⟩ := hcut
  obtain ⟨w6, rfl⟩ : ∃ x, x = wc := ⟨_, rfl⟩
  obtain ⟨A0, c0, rfl, c0le, _⟩ := Kd.N_reads hN6.out
  have F0 := Aside0.mk (Kd.F_mono (Kd.F_bound (Kd.N_F hN6.out)) (ok' := fun k => S < k ∧ k < w6.heap.size) (fun k hk => ⟨by have := hL6.out.sl; omega, hk.2⟩))
  have R6 := Aside0.mk (hL6.out.mv.blk R5.out (by omega) (by omega))
  have B6 := Aside0.mk (B5.out.trans (hL6.out.mv.below.mono (by omega)))
  have HN7 := Aside0.mk (num44 Y A cap bs st6 1 0 128 w6 hL6.out.es (by omega))
  clear L5 hN6
  go_wp2_with (go_at_call 44; refine HN7.out.mono ?_)
  first | rintro e w7 nn rfl st7 g1 hnnb k1 k2 | rintro e w7 nn st7 rfl g1 hnnb k1 k2 | rintro e w7 ⟨nn, st7, rfl, g1, hnnb, k1, k2⟩
  have A7 := Aside0.mk (at_step (dec := fun a => numD bs a 1 0 128) (F := fun nn a => (manyD (one (nameD bs)) nn.toNat () a).bind fun names a => S2 bs lex names.1 a) hA6.out g1)
  have L7' := hL6.out.num k1 k2
  have L7 := Aside0.mk (Lp.start L7'.es L7'.sb L7'.ys L7'.la)
  have F0' := F_keep1 F0.out k2 hYS'
  have R7 := Aside0.mk (k2.blk R6.out (by omega))
  have B7 := Aside0.mk (B6.out.trans (k2.below.mono (by omega)))
  have hnn0 : 0 ≤ nn ∧ nn ≤ 128 := by omega
  have hB1 : w6.heap.size ≤ w7.heap.size := k2.size
  clear k1 k2 g1 hnnb HN7 hA6 hL6 R6 B6 F0 L7' R5 B5
  have F0 := Aside0.mk F0'
  clear F0'
  go_upto_block 2 with fail
  go_cut [10, 11] from 65 to 84 (fun _ _ wx => ∃ (st : Rdd Unit) (names : List ByteArray) (v1 : Value), Aside0 (Lp Y S A cap bs st #[.slice A0 lex.length c0, v1, .int .i64 0, .slice none 0 0] w7 wx) ∧ Aside0 (Kd.N Kd.string 9 wx w7.heap.size (fun k => w7.heap.size ≤ k) v1 names) ∧ Aside0 (At st d (S2 bs lex names)) ∧ names.length ≤ 128)
  case first =>
    go_wp2_with fail
    go_loopw [10] (fun i wr => ∃ (j : Nat) (st : Rdd Unit) (names : List ByteArray) (v1 : Value), i = .int .i64 j ∧ j ≤ 128 ∧ j ≤ nn.toNat ∧ names.length = j ∧ Aside0 (Lp Y S A cap bs st #[.slice A0 lex.length c0, v1, .int .i64 0, .slice none 0 0] w7 wr) ∧ Aside0 (Kd.N Kd.string 9 wr w7.heap.size (fun k => w7.heap.size ≤ k) v1 names) ∧ Aside0 (At st d (fun a => (manyD (one (nameD bs)) (nn.toNat - j) () a).bind fun l a => S2 bs lex (names ++ l.1) a))) (fun i _ => nn.toNat - (intOf i).toNat)
    case atStart => exact ⟨0, st7, [], .slice none 0 0, rfl, Nat.zero_le _, Nat.zero_le _, rfl, L7, ⟨Kd.N_nil _ _ _ _ _⟩, A7⟩
    case round =>
      obtain ⟨j, st, names, v1, rfl, hj1, hj2, hxk, hL, hNv, hA⟩ := hrel
      have HXK := Aside0.mk hxk
      clear hxk
      obtain ⟨t4, _, _, _, _, d2, _, _⟩ := hL.out.es.at
      have hne0 := hL.out.es.ne0
      have hSl := hL.out.sl
      have hwr := hL.out.mv.size
      by_cases hlt : (j : Int) < nn
      · rcases st with ⟨⟨⟩, a⟩ | ⟨er, p⟩
        · dsimp only [eOf] at d2
          obtain ⟨m, hm⟩ : ∃ m, nn.toNat - j = m + 1 := ⟨nn.toNat - j - 1, by omega⟩
          have HM1 : Aside0 (nn.toNat - (j + 1) = m) := ⟨by omega⟩
          have HA1 : Aside0 (At (.ok () a) d (fun a => (nameD bs a).bind fun x a3 => (manyD (one (nameD bs)) m () a3).bind fun l a4 => S2 bs lex ((names ++ [x]) ++ l.1) a4)) := ⟨at_mono hA.out fun a _ => by
            rw [hm, many_one]
            simp only [List.append_assoc, List.cons_append, List.nil_append]⟩
          have HN1 := Aside0.mk (name45 Y A cap bs (.ok () a) wr hL.out.es)
          clear hm hA
          go_wp2_with (go_at_call 45; refine HN1.out.mono ?_)
          first | rintro e wd s rfl st2 g2 k1 k2 | rintro e wd s st2 rfl g2 k1 k2 | rintro e wd ⟨s, st2, rfl, g2, k1, k2⟩
          have HA2 := Aside0.mk (at_step HA1.out g2)
          have Lg := hL.out.num k1 k2
          have hyw : Y < wr.heap.size := by have := hL.out.ys; omega
          have Ng := Aside0.mk (N_mv1 hNv.out k2 hyw (by have := hL.out.ys; omega))
          have hsg : wr.heap.size ≤ wd.heap.size := k2.size
          have s0 := Lg.cell 1 _ rfl
          have HLg := Aside0.mk Lg
          clear k1 k2 g2 HN1 HA1 Lg
          go_wp2_with (at_builtin; refine Kd.N_append Kd.string (w0 := wd) w7.heap.size rfl (.tmp 80) (.tmp 82) 25 9 (.string ⟨#[]⟩) 16 rfl Tryz.underlying25 info9 rfl (by decide) (by omega) v1 names s [.string s] (fun k => w7.heap.size ≤ k) (fun k => wr.heap.size ≤ k) rfl rfl (str_mkF _ _ s) ?o1 ?o2 Ng.out (Below.refl _ _) ?o3 ?o4 ?_)
          case o1 => exact fun k hk => ⟨by omega, fun e => absurd (Kd.N_lt hNv.out k e.symm) (by omega)⟩
          case o2 => exact fun k hk => by omega
          case o3 => omega
          case o4 => rw [HXK.out]; omega
          intro v1 w9 hN9 hB9 _ _
          obtain ⟨Av1, cv1, hv1, _, _⟩ := Kd.N_reads hN9
          obtain ⟨nl1, hnl1⟩ : ∃ nl1, nl1 = (names ++ [s]).length := ⟨_, rfl⟩
          rw [← hnl1] at hv1
          subst hv1
          clear hnl1
          have L9 := HLg.out.base hB9 (Nat.le_refl _)
          have f9 := L9.frz
          have t9 := L9.cell 1 _ rfl
          have L10 := Aside0.mk (L9.put 1 (.slice Av1 nl1 cv1) _ rfl)
          have N10 := Aside0.mk (Kd.N_step (w1 := w9.setCell ⟨S, 1, none⟩ (.slice Av1 nl1 cv1)) hN9 fun k hk hlt => Below.heap_setCell _ _ _ _ (show k ≠ S by omega))
          clear hN9 hB9 L9
          go_wp2
          go_roundw
          case rel => exact ⟨j + 1, st2, names ++ [s], .slice Av1 nl1 cv1, by go_num, by omega, by omega, by rw [List.length_append]; simp [HXK.out], L10, N10, ⟨by rw [HM1.out]; exact HA2.out⟩⟩
          case measure => simp [intOf]; omega
        · dsimp only [eOf] at d2
          obtain ⟨z1, z2⟩ := bf (hne0 er p rfl)
          have hAe : Aside0 (At (.bad er p) d (S2 bs lex names)) := ⟨hA.out⟩
          have hle : names.length ≤ 128 := by rw [HXK.out]; omega
          clear hA
          go_wp2
          go_meet
          exact ⟨_, names, v1, hL, hNv, hAe, hle⟩
      · have zlt : decide ((j : Int) < nn) = false := decide_eq_false hlt
        have hAe : Aside0 (At st d (S2 bs lex names)) := ⟨at_mono hA.out fun a _ => by rw [show nn.toNat - j = 0 by omega, manyD, Rdd.bind_ok, List.append_nil]⟩
        have hle : names.length ≤ 128 := by rw [HXK.out]; omega
        clear hA
        go_wp2
        go_meet
        exact ⟨_, names, v1, hL, hNv, hAe, hle⟩
  obtain ⟨st8, names, v1, hL8, hN8, hA8, hle8⟩ := hcut
  obtain ⟨w8, rfl⟩ : ∃ x, x = wc := ⟨_, rfl⟩
  obtain ⟨A1, c1, rfl, c1le, _⟩ := Kd.N_reads hN8.out
  have F1 := Aside0.mk (Kd.F_mono (Kd.F_bound (Kd.N_F hN8.out)) (ok' := fun k => S < k ∧ k < w8.heap.size) (fun k hk => ⟨by have := hL8.out.sl; omega, hk.2⟩))
  have R8 := Aside0.mk (hL8.out.mv.blk R7.out (by omega) (by omega))
  have B8 := Aside0.mk (B7.out.trans (hL8.out.mv.below.mono (by omega)))
  have F0' := F_keep F0.out hL8.out.mv hYS'
  have HN9 := Aside0.mk (num44 Y A cap bs st8 1 0 ((names.length : Int) - 1) w8 hL8.out.es (by omega))
  have s1 := hL8.out.cell 1 _ rfl
  clear L7 hN8 F0
  go_wp2_with (go_at_call 44; refine HN9.out.mono ?_)
  first | rintro e w9 sti rfl st9 g1 _ k1 k2 | rintro e w9 sti st9 rfl g1 _ k1 k2 | rintro e w9 ⟨sti, st9, rfl, g1, _, k1, k2⟩
  have A9 := Aside0.mk (at_step (dec := fun a => numD bs a 1 0 ((names.length : Int) - 1)) (F := fun st a => (numD bs a 2 0 512).bind fun np a => (manyD (one (prodD bs lex.length names.length)) np.toNat () a).bind fun prods a => S3 bs lex names st prods.1 a) hA8.out g1)
  have L9 := hL8.out.num k1 k2
  have f9 := L9.frz
  have s2 := L9.cell 2 _ rfl
  have L10' := L9.put 2 (.int .i64 sti) _ rfl
  have F0'' := F_keepS (i := 2) (F_keep1 F0' k2 hYS') (.int .i64 sti)
  have F1'' := F_keepS (i := 2) (F_keep1 F1.out k2 hYS') (.int .i64 sti)
  have R9 := Aside0.mk (show (w9.setCell ⟨S, 2, none⟩ (.int .i64 sti)).heap[w.heap.size]? = _ from (Below.heap_setCell _ _ _ _ (show w.heap.size ≠ S by omega)).trans (k2.blk R8.out (by omega)))
  have B9 := Aside0.mk ((B8.out.trans (k2.below.mono (by omega))).setCell (p := ⟨S, 2, none⟩) (by show w.heap.size ≤ S; omega) (.int .i64 sti))
  have HL10 := Aside0.mk L10'
  have HN11 := Aside0.mk (num44 Y A cap bs st9 2 0 512 _ L10'.es (by omega))
  have hB2 : w8.heap.size ≤ w9.heap.size := k2.size
  clear k1 k2 g1 HN9 hA8 hL8 R8 B8 F1 F0' L9 L10' R7 B7
  have F0 := Aside0.mk F0''
  have F1 := Aside0.mk F1''
  clear F0'' F1''
  go_wp2_with (go_at_call 44; refine HN11.out.mono ?_)
  first | rintro e w12 np rfl st12 g1 hnpb k1 k2 | rintro e w12 np st12 rfl g1 hnpb k1 k2 | rintro e w12 ⟨np, st12, rfl, g1, hnpb, k1, k2⟩
  have A12 := Aside0.mk (at_step (F := fun np a => (manyD (one (prodD bs lex.length names.length)) np.toNat () a).bind fun prods a => S3 bs lex names sti prods.1 a) A9.out g1)
  have L12' := HL10.out.num k1 k2
  have L12 := Aside0.mk (Lp.start L12'.es L12'.sb L12'.ys L12'.la)
  have F0' := F_keep1 F0.out k2 hYS'
  have F1' := F_keep1 F1.out k2 hYS'
  have R12 := Aside0.mk (k2.blk R9.out (by omega))
  have B12 := Aside0.mk (B9.out.trans (k2.below.mono (by omega)))
  have hnp0 : 0 ≤ np ∧ np ≤ 512 := by omega
  have hB3 : w8.heap.size ≤ w12.heap.size := by have := k2.size; simp at this; omega
  clear k1 k2 g1 hnpb HN11 A9 HL10 R9 B9 L12' F0 F1 f9 s2 hB2 s1
  have F0 := Aside0.mk F0'
  have F1 := Aside0.mk F1'
  clear F0' F1'
  go_upto_block 4 with fail
  go_cut [12, 13, 14, 15, 16, 17] from 94 to 180 (fun _ _ _ _ _ _ wx => ∃ (st : Rdd Unit) (prods : List S67) (v3 : Value), Aside0 (Lp Y S A cap bs st #[.slice A0 lex.length c0, .slice A1 names.length c1, .int .i64 sti, v3] w12 wx) ∧ Aside0 (Kd.N k67 67 wx w12.heap.size (fun k => w12.heap.size ≤ k) v3 prods) ∧ Aside0 (At st d (S3 bs lex names sti prods)) ∧ prods.length ≤ 512)
  case first =>
    go_wp2_with fail
    go_loopw [12] (fun i wR => ∃ (j : Nat) (st : Rdd Unit) (prods : List S67) (v3 : Value), i = .int .i64 j ∧ j ≤ 512 ∧ j ≤ np.toNat ∧ prods.length = j ∧ Aside0 (Lp Y S A cap bs st #[.slice A0 lex.length c0, .slice A1 names.length c1, .int .i64 sti, v3] w12 wR) ∧ Aside0 (Kd.N k67 67 wR w12.heap.size (fun k => w12.heap.size ≤ k) v3 prods) ∧ Aside0 (At st d (fun a => (manyD (one (prodD bs lex.length names.length)) (np.toNat - j) () a).bind fun l a => S3 bs lex names sti (prods ++ l.1) a))) (fun i _ => np.toNat - (intOf i).toNat)
    case atStart => exact ⟨0, st12, [], .slice none 0 0, rfl, Nat.zero_le _, Nat.zero_le _, rfl, L12, ⟨Kd.N_nil _ _ _ _ _⟩, A12⟩
    case round =>
      obtain ⟨wR, rfl⟩ : ∃ x, x = wr := ⟨_, rfl⟩
      obtain ⟨j, st, prods, v3, rfl, hj1, hj2, hxk, hL, hNv, hA⟩ := hrel
      have HXK := Aside0.mk hxk
      clear hxk
      obtain ⟨t4, _, _, _, _, d2, _, _⟩ := hL.out.es.at
      have hne0 := hL.out.es.ne0
      have hSl := hL.out.sl
      have hwr := hL.out.mv.size
      by_cases hlt : (j : Int) < np
      · rcases st with ⟨⟨⟩, a⟩ | ⟨er, p⟩
        · dsimp only [eOf] at d2
          obtain ⟨mm, hm⟩ : ∃ m, np.toNat - j = m + 1 := ⟨np.toNat - j - 1, by omega⟩
          have HM1 : Aside0 (np.toNat - (j + 1) = mm) := ⟨by omega⟩
          obtain ⟨PG, hPG⟩ : ∃ PG : S67 → Nat → Rdd (List S42 × List ByteArray × Int × List S67), PG = fun x a3 => (manyD (one (prodD bs lex.length names.length)) mm () a3).bind fun l a4 => S3 bs lex names sti ((prods ++ [x]) ++ l.1) a4 := ⟨_, rfl⟩
          have HPG := Aside0.mk hPG
          have HA1 : Aside0 (At (.ok () a) d (fun a => (numD bs a 1 0 ((names.length : Int) - 1)).bind fun lf a1 => (numD bs a1 1 0 16).bind fun q a2 => (manyD (one (symD bs lex.length names.length)) q.toNat () a2).bind fun r a3 => PG ⟨lf, r.1⟩ a3)) := ⟨at_mono hA.out fun a _ => by
            rw [hm, many_one, prod_bind, hPG]
            simp only [List.append_assoc, List.cons_append, List.nil_append]⟩
          have HN1 := Aside0.mk (num44 Y A cap bs (.ok () a) 1 0 ((names.length : Int) - 1) wR hL.out.es (by omega))
          have s1 := hL.out.cell 1 _ rfl
          clear hm hA hPG
          go_wp2_with (go_at_call 44; refine HN1.out.mono ?_)
          first | rintro e wa lf rfl st1 g1 hz k1 k2 | rintro e wa lf st1 rfl g1 hz k1 k2 | rintro e wa ⟨lf, st1, rfl, g1, hz, k1, k2⟩
          have HA2 := Aside0.mk (at_step HA1.out g1)
          have hAb := below_alloc (Below.refl _ wa) (.cells #[.int .i64 lf, .slice none 0 0] 67)
          have Eb := Aside0.mk (k1.below hAb)
          have Mb := Aside0.mk (k2.trans (Mv.of_below hAb (Nat.le_of_lt k1.ylt)))
          have Xb := Aside0.mk (blk_new wa (.cells #[.int .i64 lf, .slice none 0 0] 67))
          obtain ⟨X, hX0⟩ : ∃ X, X = wa.heap.size := ⟨_, rfl⟩
          have hXr : wR.heap.size ≤ X := by have := k2.size; omega
          have HN2 := Aside0.mk (num44 Y A cap bs st1 1 0 16 _ Eb.out (by omega))
          have HXX := Aside0.mk hX0.symm
          have hYr : Y < wR.heap.size := by have := hL.out.ys; omega
          have hXY : X ≠ Y := by omega
          clear k1 k2 g1 hAb HN1 HA1 hX0 hz
          go_upto_region 27 with fail
          rw [HXX.out]
          rw [HXX.out] at Xb
          obtain ⟨wb, hwb⟩ : ∃ wb, wb = wa.alloc (.cells #[.int .i64 lf, .slice none 0 0] 67) := ⟨_, rfl⟩
          rw [← hwb] at HN2 Eb Mb Xb ⊢
          clear hwb HXX
          go_wp2_with (go_at_call 44; refine HN2.out.mono ?_)
          first | rintro e wi q rfl st2 g2 hz k1 k2 | rintro e wi q st2 rfl g2 hz k1 k2 | rintro e wi ⟨q, st2, rfl, g2, hz, k1, k2⟩
          have HA3 := Aside0.mk (at_step HA2.out g2)
          have hq0 : 0 ≤ q ∧ q ≤ 16 := by omega
          have Ei := Aside0.mk k1
          have Mi := Aside0.mk (Mb.out.trans k2)
          have Xi' := k2.blk Xb.out hXY
          have hXi : X < wi.heap.size := blk_lt Xi'
          have hri : wR.heap.size ≤ wi.heap.size := Mi.out.size
          have Xi := Aside0.mk Xi'
          have hla3 : ∀ p, A = some p → 0 < bs.length → p.block < Y := hL.out.la
          clear k1 k2 g2 hz Xi' HN2 HA2 Eb Mb Xb
          go_upto_block 6 with fail
          go_cut [15, 16, 17] from 94 to 180 (fun _ _ _ wx => ∃ (st : Rdd Unit) (right : List S85) (vr : Value), Aside0 (ES Y A cap bs st wx) ∧ Aside0 (Mv Y wR wx) ∧ Aside0 (wx.heap[X]? = some (.cells #[.int .i64 lf, vr] 67 (0, 0))) ∧ Aside0 (Kd.N k85 85 wx wi.heap.size (fun k => wi.heap.size ≤ k) vr right) ∧ Aside0 (At st d (fun a3 => PG ⟨lf, right⟩ a3)) ∧ right.length ≤ 16)
          case first =>
            go_wp2_with fail
            go_loopw [15] (fun i wz => ∃ (jj : Nat) (st : Rdd Unit) (right : List S85) (vr : Value), i = .int .i64 jj ∧ jj ≤ 16 ∧ jj ≤ q.toNat ∧ right.length = jj ∧ wi.heap.size ≤ wz.heap.size ∧ Aside0 (ES Y A cap bs st wz) ∧ Aside0 (Mv Y wR wz) ∧ Aside0 (wz.heap[X]? = some (.cells #[.int .i64 lf, vr] 67 (0, 0))) ∧ Aside0 (Kd.N k85 85 wz wi.heap.size (fun k => wi.heap.size ≤ k) vr right) ∧ Aside0 (At st d (fun a => (manyD (one (symD bs lex.length names.length)) (q.toNat - jj) () a).bind fun r a3 => PG ⟨lf, right ++ r.1⟩ a3))) (fun i _ => q.toNat - (intOf i).toNat)
            case atStart => exact ⟨0, st2, [], .slice none 0 0, rfl, Nat.zero_le _, Nat.zero_le _, rfl, Nat.le_refl _, Ei, Mi, Xi, ⟨Kd.N_nil _ _ _ _ _⟩, HA3⟩
            case round =>
              obtain ⟨wz, rfl⟩ : ∃ x, x = wr := ⟨_, rfl⟩
              obtain ⟨jj, st, right, vr, rfl, hjj1, hjj2, hxr, hwiz, hE, hMz, hX, hNr, hA⟩ := hrel
              have HXR := Aside0.mk hxr
              clear hxr
              obtain ⟨t4, _, ht4, _, e1, e2, _, _⟩ := hE.out.at
              have hne1 := hE.out.ne0
              have hrz : wR.heap.size ≤ wz.heap.size := hMz.out.size
              by_cases hlq : (jj : Int) < q
              · rcases st with ⟨⟨⟩, a⟩ | ⟨er, p⟩
                · dsimp only [eOf] at e2
                  obtain rfl := ht4 a rfl
                  obtain ⟨mi, hmi⟩ : ∃ m, q.toNat - jj = m + 1 := ⟨q.toNat - jj - 1, by omega⟩
                  have HM2 : Aside0 (q.toNat - (jj + 1) = mi) := ⟨by omega⟩
                  have HB1 : Aside0 (At (.ok () t4) d (fun a => (numD bs a 1 0 255).bind fun kd a1 => if kd < 1 ∨ 3 < kd then .bad 180 a else (numD bs a1 1 0 255).bind fun n a2 => if symOk ⟨kd, n⟩ lex.length names.length = true then ((manyD (one (symD bs lex.length names.length)) mi () a2).bind fun l a3 => PG ⟨lf, (right ++ [⟨kd, n⟩]) ++ l.1⟩ a3) else .bad 180 a)) := ⟨at_mono hA.out fun a _ => by
                    rw [hmi, many_one, sym_bind]
                    simp only [List.append_assoc, List.cons_append, List.nil_append]⟩
                  have HN3 := Aside0.mk (num44 Y A cap bs (.ok () t4) 1 0 255 wz hE.out (by omega))
                  clear hmi hA ht4
                  go_wp2_with (go_at_call 44; refine HN3.out.mono ?_)
                  first | rintro e wc1 kd rfl st3 g3 hz k1 k2 | rintro e wc1 kd st3 rfl g3 hz k1 k2 | rintro e wc1 ⟨kd, st3, rfl, g3, hz, k1, k2⟩
                  have AQ : Aside0 (At st3 d (fun a1 => if kd < 1 ∨ 3 < kd then .bad 180 t4 else (numD bs a1 1 0 255).bind fun n a2 => if symOk ⟨kd, n⟩ lex.length names.length = true then ((manyD (one (symD bs lex.length names.length)) mi () a2).bind fun l a3 => PG ⟨lf, (right ++ [⟨kd, n⟩]) ++ l.1⟩ a3) else .bad 180 t4)) := ⟨at_step (dec := fun a => numD bs a 1 0 255) (at_start (a := t4) (K := fun a => (numD bs a 1 0 255).bind fun kd a1 => if kd < 1 ∨ 3 < kd then .bad 180 t4 else (numD bs a1 1 0 255).bind fun n a2 => if symOk ⟨kd, n⟩ lex.length names.length = true then ((manyD (one (symD bs lex.length names.length)) mi () a2).bind fun l a3 => PG ⟨lf, (right ++ [⟨kd, n⟩]) ++ l.1⟩ a3) else .bad 180 t4) (HB1.out).symm) g3⟩
                  have hAq := below_alloc (Below.refl _ wc1) (.cells #[.int .i64 kd, .int .i64 0] 85)
                  have Eq := Aside0.mk (k1.below hAq)
                  have Mq := Aside0.mk (k2.trans (Mv.of_below hAq (Nat.le_of_lt k1.ylt)))
                  have Sq := Aside0.mk (blk_new wc1 (.cells #[.int .i64 kd, .int .i64 0] 85))
                  obtain ⟨Z, hZ⟩ : ∃ Z, Z = wc1.heap.size := ⟨_, rfl⟩
                  have hZr : wz.heap.size ≤ Z := by have := k2.size; omega
                  have hZY : Z ≠ Y := by omega
                  have HZZ := Aside0.mk hZ.symm
                  clear k1 k2 g3 hAq HN3 HB1 hZ hz
                  go_upto_region 33 with fail
                  rw [HZZ.out]
                  rw [HZZ.out] at Sq
                  obtain ⟨wq, hwq⟩ : ∃ wq, wq = wc1.alloc (.cells #[.int .i64 kd, .int .i64 0] 85) := ⟨_, rfl⟩
                  rw [← hwq] at Eq Mq Sq ⊢
                  clear hwq HZZ
                  obtain ⟨t5, _, _, _, _, f2, _, _⟩ := Eq.out.at
                  have hne2 := Eq.out.ne0
                  have o0 : wq.cell? ⟨Z, 0, none⟩ = some (.int .i64 kd) := (blk_cell Sq.out 0).trans rfl
                  rcases st3 with ⟨⟨⟩, a3⟩ | ⟨er, p⟩
                  rotate_left
                  · dsimp only [eOf] at f2
                    obtain ⟨y1, y2⟩ := bf (hne2 er p rfl)
                    have HDD : Aside0 (d = .bad er p) := ⟨AQ.out⟩
                    clear AQ
                    have HN4 := Aside0.mk (num44 Y A cap bs (.bad er p) 1 0 255 wq Eq.out (by omega))
                    go_wp2_with (go_at_call 44; refine HN4.out.mono ?_)
                    first | rintro e wu n rfl st5 g5 hz k1 k2 | rintro e wu n st5 rfl g5 hz k1 k2 | rintro e wu ⟨n, st5, rfl, g5, hz, k1, k2⟩
                    obtain rfl : st5 = .bad er p := g5
                    clear hz HN4
                    have Su := k2.blk Sq.out hZY
                    have zf : ∀ i, wu.frozen? ⟨Z, i, none⟩ = false := fun i => blk_frozen Su i
                    have z1c : wu.cell? ⟨Z, 1, none⟩ = some (.int .i64 0) := (blk_cell Su 1).trans rfl
                    have Ev := Aside0.mk (k1.put (q := ⟨Z, 1, none⟩) hZY (fun p hp hl => by have := hla3 p hp hl; show p.block ≠ Z; omega) (.int .i64 n))
                    have Mv3 := Aside0.mk ((Mq.out.trans k2).far (show Y < wz.heap.size by omega) (p := ⟨Z, 1, none⟩) hZr (.int .i64 n))
                    have Sv : (wu.setCell ⟨Z, 1, none⟩ (.int .i64 n)).heap[Z]? = some (.cells #[.int .i64 kd, .int .i64 n] 85 (0, 0)) := blk_put Su 1 _ rfl
                    have Sv := Aside0.mk Sv
                    clear k1 k2 Su
                    go_upto_region 36 with fail
                    obtain ⟨wv, hwv⟩ : ∃ wv, wv = wu.setCell ⟨Z, 1, none⟩ (.int .i64 n) := ⟨_, rfl⟩
                    rw [← hwv] at Ev Mv3 Sv ⊢
                    clear hwv zf z1c
                    obtain ⟨t7, _, _, _, _, e7, _, _⟩ := Ev.out.at
                    have hne7 := Ev.out.ne0
                    dsimp only [eOf] at e7
                    obtain ⟨ub1, ub2⟩ := bf (hne7 er p rfl)
                    go_upto_region 38 with fail
                    have XW := Mv3.out.blk hX.out hXY
                    have x1 : wv.cell? ⟨X, 1, none⟩ = some vr := (blk_cell XW 1).trans rfl
                    have xf : ∀ i, wv.frozen? ⟨X, i, none⟩ = false := fun i => blk_frozen XW i
                    have q0 : wv.cell? ⟨Z, 0, none⟩ = some (.int .i64 kd) := (blk_cell Sv.out 0).trans rfl
                    have q1 : wv.cell? ⟨Z, 1, none⟩ = some (.int .i64 n) := (blk_cell Sv.out 1).trans rfl
                    have NW := Aside0.mk (N_mv1 hNr.out Mv3.out (show Y < wz.heap.size by omega) (show Y < wi.heap.size by omega))
                    have hWs : wz.heap.size ≤ wv.heap.size := Mv3.out.size
                    have XW := Aside0.mk XW
                    go_wp2_with (at_builtin; refine Kd.N_append k85 (w0 := wv) wi.heap.size rfl (.tmp 170) (.tmp 172) 65 85 (.agg #[.int .i64 0, .int .i64 0]) 16 rfl Tryz.underlying65 info85 rfl (by decide) (by omega) vr right (⟨kd, n⟩ : S85) [.int .i64 kd, .int .i64 n] (fun k => wi.heap.size ≤ k) (fun k => wz.heap.size ≤ k) rfl rfl (k85_mkF _ _ (⟨kd, n⟩ : S85)) ?o1 ?o2 NW.out (Below.refl _ _) ?o3 ?o4 ?_)
                    case o1 => exact fun k hk => ⟨by omega, fun e => absurd (Kd.N_lt hNr.out k e.symm) (by omega)⟩
                    case o2 => exact fun k hk => by omega
                    case o3 => omega
                    case o4 => rw [HXR.out]; omega
                    intro v1 w9 hN9 hB9 _ _
                    obtain ⟨Av1, cv1, hv1, _, _⟩ := Kd.N_reads hN9
                    obtain ⟨nl1, hnl1⟩ : ∃ nl1, nl1 = (right ++ [(⟨kd, n⟩ : S85)]).length := ⟨_, rfl⟩
                    rw [← hnl1] at hv1
                    subst hv1
                    clear hnl1
                    have hB9s := hB9.size
                    have X9 := (hB9.block X (by omega)).trans XW.out
                    have f9 : ∀ i, w9.frozen? ⟨X, i, none⟩ = false := fun i => blk_frozen X9 i
                    have t9 : w9.cell? ⟨X, 1, none⟩ = some vr := (blk_cell X9 1).trans rfl
                    have E10 := Aside0.mk ((Ev.out.base hB9 (by omega) (fun p hp hl => by have := hla3 p hp hl; omega)).put (q := ⟨X, 1, none⟩) hXY (fun p hp hl => by have := hla3 p hp hl; show p.block ≠ X; omega) (.slice Av1 nl1 cv1))
                    have M10 := Aside0.mk (((hMz.out.trans Mv3.out).base (hB9.mono (by omega)) (show Y < wR.heap.size by omega)).far (show Y < wR.heap.size by omega) (p := ⟨X, 1, none⟩) hXr (.slice Av1 nl1 cv1))
                    have X10 : Aside0 ((w9.setCell ⟨X, 1, none⟩ (.slice Av1 nl1 cv1)).heap[X]? = some (.cells #[.int .i64 lf, .slice Av1 nl1 cv1] 67 (0, 0))) := ⟨blk_put X9 1 _ rfl⟩
                    have N10 := Aside0.mk (Kd.N_step (w1 := w9.setCell ⟨X, 1, none⟩ (.slice Av1 nl1 cv1)) hN9 fun k hk hlt => Below.heap_setCell _ _ _ _ (show k ≠ X by omega))
                    clear hN9 hB9 X9
                    go_wp2
                    go_roundw
                    case rel => exact ⟨jj + 1, .bad er p, right ++ [⟨kd, n⟩], .slice Av1 nl1 cv1, by go_num, by omega, by omega, by rw [List.length_append]; simp [HXR.out], by simp; omega, E10, M10, X10, N10, ⟨by rw [HM2.out]; exact HDD.out⟩⟩
                    case measure => simp [intOf]; omega
                  dsimp only [eOf] at f2
                  by_cases hbad : kd < 1 ∨ 3 < kd
                  · have HDD' : Aside0 (d = .bad 180 t4) := ⟨(at_ok AQ.out rfl).trans (if_pos hbad)⟩
                    have HF := Aside0.mk (fail47 Y A cap bs (.ok () a3) 180 t4 wq Eq.out (by decide))
                    have T : (decide (kd < 1) = true) ∨ (decide (kd < 1) = false ∧ decide (3 < kd) = true) := by
                      by_cases g1 : kd < 1
                      · exact .inl (decide_eq_true g1)
                      · exact .inr ⟨decide_eq_false g1, decide_eq_true (by omega)⟩
                    clear AQ hbad
                    obtain ⟨er, her⟩ : ∃ er : Int, er = 180 := ⟨_, rfl⟩
                    obtain ⟨p, hp⟩ : ∃ p, p = t4 := ⟨_, rfl⟩
                    have HDD : Aside0 (d = .bad er p) := ⟨by rw [her, hp]; exact HDD'.out⟩
                    have HEP : Aside0 (failS (.ok () a3) 180 t4 = .bad er p) := ⟨by rw [her, hp]; rfl⟩
                    clear HDD' her hp
                    rcases T with y1 | ⟨y1, y2⟩
                    all_goals
                      go_wp2_with (go_at_call 47; refine HF.out.mono ?_)
                      first | rintro e wg rfl k1 k2 | rintro e wg ⟨rfl, k1, k2⟩
                      rw [HEP.out] at k1
                      have Eg := Aside0.mk k1
                      have Mg := Aside0.mk (Mq.out.trans k2)
                      have Sg := Aside0.mk (k2.blk Sq.out hZY)
                      clear k1 k2
                      have HN4 := Aside0.mk (num44 Y A cap bs (.bad er p) 1 0 255 wg Eg.out (by omega))
                      go_wp2_with (go_at_call 44; refine HN4.out.mono ?_)
                      first | rintro e wu n rfl st5 g5 hz k1 k2 | rintro e wu n st5 rfl g5 hz k1 k2 | rintro e wu ⟨n, st5, rfl, g5, hz, k1, k2⟩
                      obtain rfl : st5 = .bad er p := g5
                      clear hz HN4
                      have Su := k2.blk Sg.out hZY
                      have zf : ∀ i, wu.frozen? ⟨Z, i, none⟩ = false := fun i => blk_frozen Su i
                      have z1c : wu.cell? ⟨Z, 1, none⟩ = some (.int .i64 0) := (blk_cell Su 1).trans rfl
                      have Ev := Aside0.mk (k1.put (q := ⟨Z, 1, none⟩) hZY (fun p hp hl => by have := hla3 p hp hl; show p.block ≠ Z; omega) (.int .i64 n))
                      have Mv3 := Aside0.mk ((Mg.out.trans k2).far (show Y < wz.heap.size by omega) (p := ⟨Z, 1, none⟩) hZr (.int .i64 n))
                      have Sv : (wu.setCell ⟨Z, 1, none⟩ (.int .i64 n)).heap[Z]? = some (.cells #[.int .i64 kd, .int .i64 n] 85 (0, 0)) := blk_put Su 1 _ rfl
                      have Sv := Aside0.mk Sv
                      clear k1 k2 Su
                      go_upto_region 36 with fail
                      obtain ⟨wv, hwv⟩ : ∃ wv, wv = wu.setCell ⟨Z, 1, none⟩ (.int .i64 n) := ⟨_, rfl⟩
                      rw [← hwv] at Ev Mv3 Sv ⊢
                      clear hwv zf z1c
                      obtain ⟨t7, _, _, _, _, e7, _, _⟩ := Ev.out.at
                      have hne7 := Ev.out.ne0
                      dsimp only [eOf] at e7
                      obtain ⟨ub1, ub2⟩ := bf (hne7 er p rfl)
                      go_upto_region 38 with fail
                      have XW := Mv3.out.blk hX.out hXY
                      have x1 : wv.cell? ⟨X, 1, none⟩ = some vr := (blk_cell XW 1).trans rfl
                      have xf : ∀ i, wv.frozen? ⟨X, i, none⟩ = false := fun i => blk_frozen XW i
                      have q0 : wv.cell? ⟨Z, 0, none⟩ = some (.int .i64 kd) := (blk_cell Sv.out 0).trans rfl
                      have q1 : wv.cell? ⟨Z, 1, none⟩ = some (.int .i64 n) := (blk_cell Sv.out 1).trans rfl
                      have NW := Aside0.mk (N_mv1 hNr.out Mv3.out (show Y < wz.heap.size by omega) (show Y < wi.heap.size by omega))
                      have hWs : wz.heap.size ≤ wv.heap.size := Mv3.out.size
                      have XW := Aside0.mk XW
                      go_wp2_with (at_builtin; refine Kd.N_append k85 (w0 := wv) wi.heap.size rfl (.tmp 170) (.tmp 172) 65 85 (.agg #[.int .i64 0, .int .i64 0]) 16 rfl Tryz.underlying65 info85 rfl (by decide) (by omega) vr right (⟨kd, n⟩ : S85) [.int .i64 kd, .int .i64 n] (fun k => wi.heap.size ≤ k) (fun k => wz.heap.size ≤ k) rfl rfl (k85_mkF _ _ (⟨kd, n⟩ : S85)) ?o1 ?o2 NW.out (Below.refl _ _) ?o3 ?o4 ?_)
                      case o1 => exact fun k hk => ⟨by omega, fun e => absurd (Kd.N_lt hNr.out k e.symm) (by omega)⟩
                      case o2 => exact fun k hk => by omega
                      case o3 => omega
                      case o4 => rw [HXR.out]; omega
                      intro v1 w9 hN9 hB9 _ _
                      obtain ⟨Av1, cv1, hv1, _, _⟩ := Kd.N_reads hN9
                      obtain ⟨nl1, hnl1⟩ : ∃ nl1, nl1 = (right ++ [(⟨kd, n⟩ : S85)]).length := ⟨_, rfl⟩
                      rw [← hnl1] at hv1
                      subst hv1
                      clear hnl1
                      have hB9s := hB9.size
                      have X9 := (hB9.block X (by omega)).trans XW.out
                      have f9 : ∀ i, w9.frozen? ⟨X, i, none⟩ = false := fun i => blk_frozen X9 i
                      have t9 : w9.cell? ⟨X, 1, none⟩ = some vr := (blk_cell X9 1).trans rfl
                      have E10 := Aside0.mk ((Ev.out.base hB9 (by omega) (fun p hp hl => by have := hla3 p hp hl; omega)).put (q := ⟨X, 1, none⟩) hXY (fun p hp hl => by have := hla3 p hp hl; show p.block ≠ X; omega) (.slice Av1 nl1 cv1))
                      have M10 := Aside0.mk (((hMz.out.trans Mv3.out).base (hB9.mono (by omega)) (show Y < wR.heap.size by omega)).far (show Y < wR.heap.size by omega) (p := ⟨X, 1, none⟩) hXr (.slice Av1 nl1 cv1))
                      have X10 : Aside0 ((w9.setCell ⟨X, 1, none⟩ (.slice Av1 nl1 cv1)).heap[X]? = some (.cells #[.int .i64 lf, .slice Av1 nl1 cv1] 67 (0, 0))) := ⟨blk_put X9 1 _ rfl⟩
                      have N10 := Aside0.mk (Kd.N_step (w1 := w9.setCell ⟨X, 1, none⟩ (.slice Av1 nl1 cv1)) hN9 fun k hk hlt => Below.heap_setCell _ _ _ _ (show k ≠ X by omega))
                      clear hN9 hB9 X9
                      go_wp2
                      go_roundw
                      case rel => exact ⟨jj + 1, .bad er p, right ++ [⟨kd, n⟩], .slice Av1 nl1 cv1, by go_num, by omega, by omega, by rw [List.length_append]; simp [HXR.out], by simp; omega, E10, M10, X10, N10, ⟨by rw [HM2.out]; exact HDD.out⟩⟩
                      case measure => simp [intOf]; omega
                  have AQ2 : Aside0 (At (.ok () a3) d (fun a1 => (numD bs a1 1 0 255).bind fun n a2 => if symOk ⟨kd, n⟩ lex.length names.length = true then ((manyD (one (symD bs lex.length names.length)) mi () a2).bind fun l a3 => PG ⟨lf, (right ++ [⟨kd, n⟩]) ++ l.1⟩ a3) else .bad 180 t4)) := ⟨at_mono AQ.out fun a1 _ => by rw [if_neg hbad]⟩
                  have y1 : decide (kd < 1) = false := decide_eq_false (by omega)
                  have y2 : decide (3 < kd) = false := decide_eq_false (by omega)
                  have HN4 := Aside0.mk (num44 Y A cap bs (.ok () a3) 1 0 255 wq Eq.out (by omega))
                  clear AQ hbad
                  go_wp2_with (go_at_call 44; refine HN4.out.mono ?_)
                  first | rintro e wu n rfl st5 g5 hz k1 k2 | rintro e wu n st5 rfl g5 hz k1 k2 | rintro e wu ⟨n, st5, rfl, g5, hz, k1, k2⟩
                  have AQ3 := Aside0.mk (at_step AQ2.out g5)
                  clear hz HN4 g5 AQ2
                  have Su := k2.blk Sq.out hZY
                  have zf : ∀ i, wu.frozen? ⟨Z, i, none⟩ = false := fun i => blk_frozen Su i
                  have z1c : wu.cell? ⟨Z, 1, none⟩ = some (.int .i64 0) := (blk_cell Su 1).trans rfl
                  have Ev := Aside0.mk (k1.put (q := ⟨Z, 1, none⟩) hZY (fun p hp hl => by have := hla3 p hp hl; show p.block ≠ Z; omega) (.int .i64 n))
                  have Mv3 := Aside0.mk ((Mq.out.trans k2).far (show Y < wz.heap.size by omega) (p := ⟨Z, 1, none⟩) hZr (.int .i64 n))
                  have Sv : (wu.setCell ⟨Z, 1, none⟩ (.int .i64 n)).heap[Z]? = some (.cells #[.int .i64 kd, .int .i64 n] 85 (0, 0)) := blk_put Su 1 _ rfl
                  have Sv := Aside0.mk Sv
                  clear k1 k2 Su
                  go_upto_region 36 with fail
                  obtain ⟨wv, hwv⟩ : ∃ wv, wv = wu.setCell ⟨Z, 1, none⟩ (.int .i64 n) := ⟨_, rfl⟩
                  rw [← hwv] at Ev Mv3 Sv ⊢
                  clear hwv zf z1c
                  obtain ⟨t7, _, _, _, _, e7, _, _⟩ := Ev.out.at
                  have hne7 := Ev.out.ne0
                  rcases st5 with ⟨⟨⟩, a5⟩ | ⟨er, p⟩
                  rotate_left
                  · dsimp only [eOf] at e7
                    obtain ⟨ub1, ub2⟩ := bf (hne7 er p rfl)
                    have HDD : Aside0 (d = .bad er p) := ⟨AQ3.out⟩
                    clear AQ3
                    go_upto_region 38 with fail
                    have XW := Mv3.out.blk hX.out hXY
                    have x1 : wv.cell? ⟨X, 1, none⟩ = some vr := (blk_cell XW 1).trans rfl
                    have xf : ∀ i, wv.frozen? ⟨X, i, none⟩ = false := fun i => blk_frozen XW i
                    have q0 : wv.cell? ⟨Z, 0, none⟩ = some (.int .i64 kd) := (blk_cell Sv.out 0).trans rfl
                    have q1 : wv.cell? ⟨Z, 1, none⟩ = some (.int .i64 n) := (blk_cell Sv.out 1).trans rfl
                    have NW := Aside0.mk (N_mv1 hNr.out Mv3.out (show Y < wz.heap.size by omega) (show Y < wi.heap.size by omega))
                    have hWs : wz.heap.size ≤ wv.heap.size := Mv3.out.size
                    have XW := Aside0.mk XW
                    go_wp2_with (at_builtin; refine Kd.N_append k85 (w0 := wv) wi.heap.size rfl (.tmp 170) (.tmp 172) 65 85 (.agg #[.int .i64 0, .int .i64 0]) 16 rfl Tryz.underlying65 info85 rfl (by decide) (by omega) vr right (⟨kd, n⟩ : S85) [.int .i64 kd, .int .i64 n] (fun k => wi.heap.size ≤ k) (fun k => wz.heap.size ≤ k) rfl rfl (k85_mkF _ _ (⟨kd, n⟩ : S85)) ?o1 ?o2 NW.out (Below.refl _ _) ?o3 ?o4 ?_)
                    case o1 => exact fun k hk => ⟨by omega, fun e => absurd (Kd.N_lt hNr.out k e.symm) (by omega)⟩
                    case o2 => exact fun k hk => by omega
                    case o3 => omega
                    case o4 => rw [HXR.out]; omega
                    intro v1 w9 hN9 hB9 _ _
                    obtain ⟨Av1, cv1, hv1, _, _⟩ := Kd.N_reads hN9
                    obtain ⟨nl1, hnl1⟩ : ∃ nl1, nl1 = (right ++ [(⟨kd, n⟩ : S85)]).length := ⟨_, rfl⟩
                    rw [← hnl1] at hv1
                    subst hv1
                    clear hnl1
                    have hB9s := hB9.size
                    have X9 := (hB9.block X (by omega)).trans XW.out
                    have f9 : ∀ i, w9.frozen? ⟨X, i, none⟩ = false := fun i => blk_frozen X9 i
                    have t9 : w9.cell? ⟨X, 1, none⟩ = some vr := (blk_cell X9 1).trans rfl
                    have E10 := Aside0.mk ((Ev.out.base hB9 (by omega) (fun p hp hl => by have := hla3 p hp hl; omega)).put (q := ⟨X, 1, none⟩) hXY (fun p hp hl => by have := hla3 p hp hl; show p.block ≠ X; omega) (.slice Av1 nl1 cv1))
                    have M10 := Aside0.mk (((hMz.out.trans Mv3.out).base (hB9.mono (by omega)) (show Y < wR.heap.size by omega)).far (show Y < wR.heap.size by omega) (p := ⟨X, 1, none⟩) hXr (.slice Av1 nl1 cv1))
                    have X10 : Aside0 ((w9.setCell ⟨X, 1, none⟩ (.slice Av1 nl1 cv1)).heap[X]? = some (.cells #[.int .i64 lf, .slice Av1 nl1 cv1] 67 (0, 0))) := ⟨blk_put X9 1 _ rfl⟩
                    have N10 := Aside0.mk (Kd.N_step (w1 := w9.setCell ⟨X, 1, none⟩ (.slice Av1 nl1 cv1)) hN9 fun k hk hlt => Below.heap_setCell _ _ _ _ (show k ≠ X by omega))
                    clear hN9 hB9 X9
                    go_wp2
                    go_roundw
                    case rel => exact ⟨jj + 1, .bad er p, right ++ [⟨kd, n⟩], .slice Av1 nl1 cv1, by go_num, by omega, by omega, by rw [List.length_append]; simp [HXR.out], by simp; omega, E10, M10, X10, N10, ⟨by rw [HM2.out]; exact HDD.out⟩⟩
                    case measure => simp [intOf]; omega
                  dsimp only [eOf] at e7
                  have M7 := hMz.out.trans Mv3.out
                  have S7 := M7.blk hL.out.sb (by omega)
                  obtain ⟨A3, c3, hv3, hc3, _⟩ := Kd.N_reads hNv.out
                  have C3 := (Kd.N_reads' (hv3 ▸ (N_mv1 hNv.out M7 hYr (by omega)))).2.2
                  have C0 := Kd.F_now (F_keep1 (F_keep F0.out hL.out.mv hYS') M7 hYS')
                  have C1 := Kd.F_now (F_keep1 (F_keep F1.out hL.out.mv hYS') M7 hYS')
                  have HSY := Aside0.mk (symbol48 lex names sti prods ⟨kd, n⟩ A0 A1 A3 c0 c1 c3 wv C0 C1 C3 c0le c1le hc3)
                  have s70 : wv.cell? ⟨S, 0, none⟩ = some (.slice A0 lex.length c0) := (blk_cell S7 0).trans rfl
                  have s71 : wv.cell? ⟨S, 1, none⟩ = some (.slice A1 names.length c1) := (blk_cell S7 1).trans rfl
                  have s72 : wv.cell? ⟨S, 2, none⟩ = some (.int .i64 sti) := (blk_cell S7 2).trans rfl
                  have s73 : wv.cell? ⟨S, 3, none⟩ = some (.slice A3 prods.length c3) := by rw [← hv3]; exact (blk_cell S7 3).trans rfl
                  have q0 : wv.cell? ⟨Z, 0, none⟩ = some (.int .i64 kd) := (blk_cell Sv.out 0).trans rfl
                  have q1 : wv.cell? ⟨Z, 1, none⟩ = some (.int .i64 n) := (blk_cell Sv.out 1).trans rfl
                  have HV3 := Aside0.mk hv3
                  clear M7 S7 C0 C1 C3 hv3
                  obtain ⟨sb, hsb⟩ : ∃ sb, symOk ⟨kd, n⟩ lex.length names.length = sb := ⟨_, rfl⟩
                  rw [hsb] at HSY AQ3
                  clear hsb
                  cases sb
                  · have HDD' : Aside0 (d = .bad 180 t4) := ⟨(at_ok AQ3.out rfl).trans (if_neg Bool.false_ne_true)⟩
                    obtain ⟨er, her⟩ : ∃ er : Int, er = 180 := ⟨_, rfl⟩
                    obtain ⟨p, hp⟩ : ∃ p, p = t4 := ⟨_, rfl⟩
                    have HDD : Aside0 (d = .bad er p) := ⟨by rw [her, hp]; exact HDD'.out⟩
                    have HEP : Aside0 (failS (.ok () a5) 180 t4 = .bad er p) := ⟨by rw [her, hp]; rfl⟩
                    clear HDD' her hp AQ3
                    go_wp2_with (go_at_call 48; refine HSY.out.mono ?_)
                    first | rintro e wy rfl k7 | rintro e wy ⟨rfl, k7⟩
                    have Ey := Aside0.mk (Ev.out.below k7)
                    have My := Aside0.mk (Mv3.out.trans (Mv.of_below k7 (Nat.le_of_lt Ev.out.ylt)))
                    have Sy := Aside0.mk ((k7.block _ (blk_lt Sv.out)).trans Sv.out)
                    have HF := Aside0.mk (fail47 Y A cap bs (.ok () a5) 180 t4 wy Ey.out (by decide))
                    clear k7 q0 q1
                    go_wp2_with (go_at_call 47; refine HF.out.mono ?_)
                    first | rintro e wh rfl k1 k2 | rintro e wh ⟨rfl, k1, k2⟩
                    rw [HEP.out] at k1
                    have Eh := Aside0.mk k1
                    have Mh := Aside0.mk (My.out.trans k2)
                    have Sh := Aside0.mk (k2.blk Sy.out hZY)
                    clear k1 k2
                    have XW := Mh.out.blk hX.out hXY
                    have x1 : wh.cell? ⟨X, 1, none⟩ = some vr := (blk_cell XW 1).trans rfl
                    have xf : ∀ i, wh.frozen? ⟨X, i, none⟩ = false := fun i => blk_frozen XW i
                    have q0 : wh.cell? ⟨Z, 0, none⟩ = some (.int .i64 kd) := (blk_cell Sh.out 0).trans rfl
                    have q1 : wh.cell? ⟨Z, 1, none⟩ = some (.int .i64 n) := (blk_cell Sh.out 1).trans rfl
                    have NW := Aside0.mk (N_mv1 hNr.out Mh.out (show Y < wz.heap.size by omega) (show Y < wi.heap.size by omega))
                    have hWs : wz.heap.size ≤ wh.heap.size := Mh.out.size
                    have XW := Aside0.mk XW
                    go_wp2_with (at_builtin; refine Kd.N_append k85 (w0 := wh) wi.heap.size rfl (.tmp 170) (.tmp 172) 65 85 (.agg #[.int .i64 0, .int .i64 0]) 16 rfl Tryz.underlying65 info85 rfl (by decide) (by omega) vr right (⟨kd, n⟩ : S85) [.int .i64 kd, .int .i64 n] (fun k => wi.heap.size ≤ k) (fun k => wz.heap.size ≤ k) rfl rfl (k85_mkF _ _ (⟨kd, n⟩ : S85)) ?o1 ?o2 NW.out (Below.refl _ _) ?o3 ?o4 ?_)
                    case o1 => exact fun k hk => ⟨by omega, fun e => absurd (Kd.N_lt hNr.out k e.symm) (by omega)⟩
                    case o2 => exact fun k hk => by omega
                    case o3 => omega
                    case o4 => rw [HXR.out]; omega
                    intro v1 w9 hN9 hB9 _ _
                    obtain ⟨Av1, cv1, hv1, _, _⟩ := Kd.N_reads hN9
                    obtain ⟨nl1, hnl1⟩ : ∃ nl1, nl1 = (right ++ [(⟨kd, n⟩ : S85)]).length := ⟨_, rfl⟩
                    rw [← hnl1] at hv1
                    subst hv1
                    clear hnl1
                    have hB9s := hB9.size
                    have X9 := (hB9.block X (by omega)).trans XW.out
                    have f9 : ∀ i, w9.frozen? ⟨X, i, none⟩ = false := fun i => blk_frozen X9 i
                    have t9 : w9.cell? ⟨X, 1, none⟩ = some vr := (blk_cell X9 1).trans rfl
                    have E10 := Aside0.mk ((Eh.out.base hB9 (by omega) (fun p hp hl => by have := hla3 p hp hl; omega)).put (q := ⟨X, 1, none⟩) hXY (fun p hp hl => by have := hla3 p hp hl; show p.block ≠ X; omega) (.slice Av1 nl1 cv1))
                    have M10 := Aside0.mk (((hMz.out.trans Mh.out).base (hB9.mono (by omega)) (show Y < wR.heap.size by omega)).far (show Y < wR.heap.size by omega) (p := ⟨X, 1, none⟩) hXr (.slice Av1 nl1 cv1))
                    have X10 : Aside0 ((w9.setCell ⟨X, 1, none⟩ (.slice Av1 nl1 cv1)).heap[X]? = some (.cells #[.int .i64 lf, .slice Av1 nl1 cv1] 67 (0, 0))) := ⟨blk_put X9 1 _ rfl⟩
                    have N10 := Aside0.mk (Kd.N_step (w1 := w9.setCell ⟨X, 1, none⟩ (.slice Av1 nl1 cv1)) hN9 fun k hk hlt => Below.heap_setCell _ _ _ _ (show k ≠ X by omega))
                    clear hN9 hB9 X9
                    go_wp2
                    go_roundw
                    case rel => exact ⟨jj + 1, .bad er p, right ++ [⟨kd, n⟩], .slice Av1 nl1 cv1, by go_num, by omega, by omega, by rw [List.length_append]; simp [HXR.out], by simp; omega, E10, M10, X10, N10, ⟨by rw [HM2.out]; exact HDD.out⟩⟩
                    case measure => simp [intOf]; omega
                  have AQ4 := Aside0.mk (at_mono AQ3.out fun a2 _ => if_pos rfl)
                  clear AQ3
                  go_wp2_with (go_at_call 48; refine HSY.out.mono ?_)
                  first | rintro e wy rfl k7 | rintro e wy ⟨rfl, k7⟩
                  have Ey := Aside0.mk (Ev.out.below k7)
                  have My := Aside0.mk (Mv3.out.trans (Mv.of_below k7 (Nat.le_of_lt Ev.out.ylt)))
                  have Sy := Aside0.mk ((k7.block _ (blk_lt Sv.out)).trans Sv.out)
                  clear k7 q0 q1
                  have XW := My.out.blk hX.out hXY
                  have x1 : wy.cell? ⟨X, 1, none⟩ = some vr := (blk_cell XW 1).trans rfl
                  have xf : ∀ i, wy.frozen? ⟨X, i, none⟩ = false := fun i => blk_frozen XW i
                  have q0 : wy.cell? ⟨Z, 0, none⟩ = some (.int .i64 kd) := (blk_cell Sy.out 0).trans rfl
                  have q1 : wy.cell? ⟨Z, 1, none⟩ = some (.int .i64 n) := (blk_cell Sy.out 1).trans rfl
                  have NW := Aside0.mk (N_mv1 hNr.out My.out (show Y < wz.heap.size by omega) (show Y < wi.heap.size by omega))
                  have hWs : wz.heap.size ≤ wy.heap.size := My.out.size
                  have XW := Aside0.mk XW
                  go_wp2_with (at_builtin; refine Kd.N_append k85 (w0 := wy) wi.heap.size rfl (.tmp 170) (.tmp 172) 65 85 (.agg #[.int .i64 0, .int .i64 0]) 16 rfl Tryz.underlying65 info85 rfl (by decide) (by omega) vr right (⟨kd, n⟩ : S85) [.int .i64 kd, .int .i64 n] (fun k => wi.heap.size ≤ k) (fun k => wz.heap.size ≤ k) rfl rfl (k85_mkF _ _ (⟨kd, n⟩ : S85)) ?o1 ?o2 NW.out (Below.refl _ _) ?o3 ?o4 ?_)
                  case o1 => exact fun k hk => ⟨by omega, fun e => absurd (Kd.N_lt hNr.out k e.symm) (by omega)⟩
                  case o2 => exact fun k hk => by omega
                  case o3 => omega
                  case o4 => rw [HXR.out]; omega
                  intro v1 w9 hN9 hB9 _ _
                  obtain ⟨Av1, cv1, hv1, _, _⟩ := Kd.N_reads hN9
                  obtain ⟨nl1, hnl1⟩ : ∃ nl1, nl1 = (right ++ [(⟨kd, n⟩ : S85)]).length := ⟨_, rfl⟩
                  rw [← hnl1] at hv1
                  subst hv1
                  clear hnl1
                  have hB9s := hB9.size
                  have X9 := (hB9.block X (by omega)).trans XW.out
                  have f9 : ∀ i, w9.frozen? ⟨X, i, none⟩ = false := fun i => blk_frozen X9 i
                  have t9 : w9.cell? ⟨X, 1, none⟩ = some vr := (blk_cell X9 1).trans rfl
                  have E10 := Aside0.mk ((Ey.out.base hB9 (by omega) (fun p hp hl => by have := hla3 p hp hl; omega)).put (q := ⟨X, 1, none⟩) hXY (fun p hp hl => by have := hla3 p hp hl; show p.block ≠ X; omega) (.slice Av1 nl1 cv1))
                  have M10 := Aside0.mk (((hMz.out.trans My.out).base (hB9.mono (by omega)) (show Y < wR.heap.size by omega)).far (show Y < wR.heap.size by omega) (p := ⟨X, 1, none⟩) hXr (.slice Av1 nl1 cv1))
                  have X10 : Aside0 ((w9.setCell ⟨X, 1, none⟩ (.slice Av1 nl1 cv1)).heap[X]? = some (.cells #[.int .i64 lf, .slice Av1 nl1 cv1] 67 (0, 0))) := ⟨blk_put X9 1 _ rfl⟩
                  have N10 := Aside0.mk (Kd.N_step (w1 := w9.setCell ⟨X, 1, none⟩ (.slice Av1 nl1 cv1)) hN9 fun k hk hlt => Below.heap_setCell _ _ _ _ (show k ≠ X by omega))
                  clear hN9 hB9 X9
                  go_wp2
                  go_roundw
                  case rel => exact ⟨jj + 1, .ok () a5, right ++ [⟨kd, n⟩], .slice Av1 nl1 cv1, by go_num, by omega, by omega, by rw [List.length_append]; simp [HXR.out], by simp; omega, E10, M10, X10, N10, ⟨by rw [HM2.out]; exact AQ4.out⟩⟩
                  case measure => simp [intOf]; omega
                · dsimp only [eOf] at e2
                  obtain ⟨z1, z2⟩ := bf (hne1 er p rfl)
                  have hAe : Aside0 (At (.bad er p) d (fun a3 => PG ⟨lf, right⟩ a3)) := ⟨hA.out⟩
                  have hle : right.length ≤ 16 := by rw [HXR.out]; omega
                  clear hA
                  go_wp2
                  go_meet
                  exact ⟨_, right, vr, hE, hMz, hX, hNr, hAe, hle⟩
              · have zlq : decide ((jj : Int) < q) = false := decide_eq_false hlq
                have hAe : Aside0 (At st d (fun a3 => PG ⟨lf, right⟩ a3)) := ⟨at_mono hA.out fun a _ => by rw [show q.toNat - jj = 0 by omega, manyD, Rdd.bind_ok, List.append_nil]⟩
                have hle : right.length ≤ 16 := by rw [HXR.out]; omega
                clear hA
                go_wp2
                go_meet
                exact ⟨_, right, vr, hE, hMz, hX, hNr, hAe, hle⟩
          obtain ⟨st4, right, vr, hE, hMz, hX, hNr, hA4, hle4⟩ := hcut
          obtain ⟨wo, rfl⟩ : ∃ x, x = wc := ⟨_, rfl⟩
          obtain ⟨Ar, cr, rfl, hcr, _⟩ := Kd.N_reads hNr.out
          have FR := Aside0.mk (Kd.N_F hNr.out)
          have Lg := hL.out.num hE.out hMz.out
          have Ng := Aside0.mk (N_mv1 hNv.out hMz.out hYr (by omega))
          have hsg : wR.heap.size ≤ wo.heap.size := hMz.out.size
          have s3 := Lg.cell 3 _ rfl
          have p0 : wo.cell? ⟨X, 0, none⟩ = some (.int .i64 lf) := (blk_cell hX.out 0).trans rfl
          have p1 : wo.cell? ⟨X, 1, none⟩ = some (.slice Ar right.length cr) := (blk_cell hX.out 1).trans rfl
          have HLg := Aside0.mk Lg
          have HA5 : Aside0 (At st4 d (fun a3 => (manyD (one (prodD bs lex.length names.length)) mm () a3).bind fun l a4 => S3 bs lex names sti ((prods ++ [⟨lf, right⟩]) ++ l.1) a4)) := ⟨by have := hA4.out; rw [HPG.out] at this; exact this⟩
          clear Lg hA4 HA3
          go_wp2_with (at_builtin; refine Kd.N_append k67 (w0 := wo) w12.heap.size rfl (.tmp 176) (.tmp 178) 26 67 (.agg #[.int .i64 0, .slice none 0 0]) 32 rfl Tryz.underlying26 info67 rfl (by decide) (by omega) v3 prods (⟨lf, right⟩ : S67) [.int .i64 lf, .slice Ar right.length cr] (fun k => w12.heap.size ≤ k) (fun k => wR.heap.size ≤ k) rfl rfl (k67_mkF _ _ (⟨lf, right⟩ : S67) hcr (Kd.F_mono FR.out fun k hk => by omega)) ?o1 ?o2 Ng.out (Below.refl _ _) ?o3 ?o4 ?_)
          case o1 => exact fun k hk => ⟨by omega, fun e => absurd (Kd.N_lt hNv.out k e.symm) (by omega)⟩
          case o2 => exact fun k hk => by omega
          case o3 => omega
          case o4 => rw [HXK.out]; omega
          intro v1 w9 hN9 hB9 _ _
          obtain ⟨Av1, cv1, hv1, _, _⟩ := Kd.N_reads hN9
          obtain ⟨nl1, hnl1⟩ : ∃ nl1, nl1 = (prods ++ [(⟨lf, right⟩ : S67)]).length := ⟨_, rfl⟩
          rw [← hnl1] at hv1
          subst hv1
          clear hnl1
          have L9 := HLg.out.base hB9 (Nat.le_refl _)
          have f9 := L9.frz
          have t9 := L9.cell 3 _ rfl
          have L10 := Aside0.mk (L9.put 3 (.slice Av1 nl1 cv1) _ rfl)
          have N10 := Aside0.mk (Kd.N_step (w1 := w9.setCell ⟨S, 3, none⟩ (.slice Av1 nl1 cv1)) hN9 fun k hk hlt => Below.heap_setCell _ _ _ _ (show k ≠ S by omega))
          clear hN9 hB9 L9
          go_wp2
          go_roundw
          case rel => exact ⟨j + 1, st4, prods ++ [⟨lf, right⟩], .slice Av1 nl1 cv1, by go_num, by omega, by omega, by rw [List.length_append]; simp [HXK.out], L10, N10, ⟨by rw [HM1.out]; exact HA5.out⟩⟩
          case measure => simp [intOf]; omega
        · dsimp only [eOf] at d2
          obtain ⟨z1, z2⟩ := bf (hne0 er p rfl)
          have hAe : Aside0 (At (.bad er p) d (S3 bs lex names sti prods)) := ⟨hA.out⟩
          have hle : prods.length ≤ 512 := by rw [HXK.out]; omega
          clear hA
          go_wp2
          go_meet
          exact ⟨_, prods, v3, hL, hNv, hAe, hle⟩
      · have zlt : decide ((j : Int) < np) = false := decide_eq_false hlt
        have hAe : Aside0 (At st d (S3 bs lex names sti prods)) := ⟨at_mono hA.out fun a _ => by rw [show np.toNat - j = 0 by omega, manyD, Rdd.bind_ok, List.append_nil]⟩
        have hle : prods.length ≤ 512 := by rw [HXK.out]; omega
        clear hA
        go_wp2
        go_meet
        exact ⟨_, prods, v3, hL, hNv, hAe, hle⟩
  obtain ⟨st13, prods, v3, hL13, hN13, hA13, hle13⟩ := hcut
  obtain ⟨w13, rfl⟩ : ∃ x, x = wc := ⟨_, rfl⟩
  obtain ⟨A3, c3, rfl, c3le, _⟩ := Kd.N_reads hN13.out
  have F3 := Aside0.mk (Kd.F_mono (Kd.F_bound (Kd.N_F hN13.out)) (ok' := fun k => S < k ∧ k < w13.heap.size) (fun k hk => ⟨by have := hL13.out.sl; omega, hk.2⟩))
  have R13 := Aside0.mk (hL13.out.mv.blk R12.out (by omega) (by omega))
  have B13 := Aside0.mk (B12.out.trans (hL13.out.mv.below.mono (by omega)))
  have F0' := F_keep F0.out hL13.out.mv hYS'
  have F1' := F_keep F1.out hL13.out.mv hYS'
  have HE := Aside0.mk (end49 Y A cap bs st13 w13 hL13.out.es)
  clear L12 hN13 F0 F1
  go_wp2_with (go_at_call 49; refine HE.out.mono ?_)
  first | rintro e w14 st14 rfl g1 k1 k2 | rintro e w14 ⟨st14, rfl, g1, k1, k2⟩
  have A14 := Aside0.mk (at_step (dec := endD bs) (F := fun _ a => .ok (lex, names, sti, prods) a) hA13.out g1)
  have L14 := hL13.out.num k1 k2
  have F0 := Aside0.mk (Kd.F_mono (F_keep1 F0' k2 hYS') (ok' := fun k => S < k) (fun k hk => hk.1))
  have F1 := Aside0.mk (Kd.F_mono (F_keep1 F1' k2 hYS') (ok' := fun k => S < k) (fun k hk => hk.1))
  have F3' := Aside0.mk (Kd.F_mono (F_keep1 F3.out k2 hYS') (ok' := fun k => S < k) (fun k hk => hk.1))
  have R14 := k2.blk R13.out (by omega)
  have B14 := B13.out.trans (k2.below.mono (by omega))
  have z0 := (blk_cell R14 0).trans (show _ = some (.slice none 0 0) from rfl)
  have z1' := (blk_cell R14 1).trans (show _ = some (.slice none 0 0) from rfl)
  have z2' := (blk_cell R14 2).trans (show _ = some (.int .i64 0) from rfl)
  have z3 := (blk_cell R14 3).trans (show _ = some (.slice none 0 0) from rfl)
  have f0 : ∀ i, w14.frozen? ⟨w.heap.size, i, none⟩ = false := fun i => blk_frozen R14 i
  obtain ⟨t14, _, _, _, _, d2, d3, _⟩ := L14.es.at
  have hne := L14.es.ne0
  have s0 := L14.cell 0 _ rfl
  have s1 := L14.cell 1 _ rfl
  have s2 := L14.cell 2 _ rfl
  have s3 := L14.cell 3 _ rfl
  have hn1 : ¬ Y = w.heap.size := by omega
  have hn2 : ¬ w.heap.size = Y := by omega
  have R14 := Aside0.mk R14
  have B14 := Aside0.mk B14
  clear k1 k2 g1 HE hA13 hL13 R13 B13 F3 F0' F1' L14 R12 B12
  rcases st14 with ⟨⟨⟩, a14⟩ | ⟨er, p⟩
  rotate_left
  · dsimp only [eOf, pOf] at d2 d3
    obtain ⟨y1, y2⟩ := bf (hne er p rfl)
    obtain rfl : d = .bad er p := A14.out
    have HBL := Aside0.mk (put4_below (N := w.heap.size) B14.out (Nat.le_refl _) (.slice none 0 0) (.slice none 0 0) (.int .i64 0) (.slice none 0 0))
    have HBK := Aside0.mk (put4_blk R14.out (.slice none 0 0) (.slice none 0 0) (.int .i64 0) (.slice none 0 0))
    clear s0 s1 s2 s3
    go_wp2_with fail
    go_region_law (fail)
    all_goals
      go_wp2
      have hz : (put4 w14 w.heap.size (.slice none 0 0) (.slice none 0 0) (.int .i64 0) (.slice none 0 0)).drew.heap[w.heap.size]? = some (.cells #[.slice none 0 0, .slice none 0 0, .int .i64 0, .slice none 0 0] 28 (0, 0)) := HBK.out
      have e0 := (blk_cell hz 0).trans (show _ = some (.slice none 0 0) from rfl)
      have e1 := (blk_cell hz 1).trans (show _ = some (.slice none 0 0) from rfl)
      have e2 := (blk_cell hz 2).trans (show _ = some (.int .i64 0) from rfl)
      have e3 := (blk_cell hz 3).trans (show _ = some (.slice none 0 0) from rfl)
      refine bodyPost_ret (v := .tuple #[.agg #[.slice none 0 0, .slice none 0 0, .int .i64 0, .slice none 0 0], .int .i64 p, .int .i64 er]) (by simp [results, Tryz.results15, go_sem, e0, e1, e2, e3]) rfl ?_
      exact ⟨_, rfl, readIt_nil _ _, HBL.out.drew⟩
  dsimp only [eOf, pOf] at d2 d3
  obtain rfl : d = .ok (lex, names, sti, prods) a14 := A14.out
  have HBK := Aside0.mk (put4_blk R14.out (.slice A0 lex.length c0) (.slice A1 names.length c1) (.int .i64 sti) (.slice A3 prods.length c3))
  have HBL := Aside0.mk (put4_below (N := w.heap.size) B14.out (Nat.le_refl _) (.slice A0 lex.length c0) (.slice A1 names.length c1) (.int .i64 sti) (.slice A3 prods.length c3))
  have G0 := Aside0.mk (put4_F (N := w.heap.size) F0.out (by omega) (.slice A0 lex.length c0) (.slice A1 names.length c1) (.int .i64 sti) (.slice A3 prods.length c3))
  have G1 := Aside0.mk (put4_F (N := w.heap.size) F1.out (by omega) (.slice A0 lex.length c0) (.slice A1 names.length c1) (.int .i64 sti) (.slice A3 prods.length c3))
  have G3 := Aside0.mk (put4_F (N := w.heap.size) F3'.out (by omega) (.slice A0 lex.length c0) (.slice A1 names.length c1) (.int .i64 sti) (.slice A3 prods.length c3))
  go_wp2
  have e0 := (blk_cell HBK.out 0).trans (show _ = some (.slice A0 lex.length c0) from rfl)
  have e1 := (blk_cell HBK.out 1).trans (show _ = some (.slice A1 names.length c1) from rfl)
  have e2 := (blk_cell HBK.out 2).trans (show _ = some (.int .i64 sti) from rfl)
  have e3 := (blk_cell HBK.out 3).trans (show _ = some (.slice A3 prods.length c3) from rfl)
  refine bodyPost_ret (v := .tuple #[.agg #[.slice A0 lex.length c0, .slice A1 names.length c1, .int .i64 sti, .slice A3 prods.length c3], .int .i64 0, .int .i64 0]) (by simp [results, Tryz.results15, go_sem, e0, e1, e2, e3]) rfl ?_
  exact ⟨_, rfl, ⟨A0, c0, A1, c1, A3, c3, rfl, ⟨c0le, c1le, c3le⟩, Kd.F_mono G0.out fun k hk => by omega, Kd.F_mono G1.out fun k hk => by omega, Kd.F_mono G3.out fun k hk => by omega⟩, HBL.out⟩
end Go.Proofs.YtpnkifincadakaaGreatDoor.Wr
end
