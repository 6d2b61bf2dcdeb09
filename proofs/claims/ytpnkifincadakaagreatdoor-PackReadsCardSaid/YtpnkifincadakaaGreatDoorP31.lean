/- Proved: part 31 of the proof of PackReads (Lr2). Conditions: each theorem states its own. -/
import Derived.Laws.CopyOwn
import Derived.Test.YtpnkifincadakaaGreatDoorP17
import Derived.Test.YtpnkifincadakaaGreatDoorP23
import Derived.Test.YtpnkifincadakaaGreatDoorP30
set_option linter.unusedVariables false
set_option linter.unusedSimpArgs false
section
namespace Go.Proofs.YtpnkifincadakaaGreatDoor.Wr
open Go.RowKit Go.Pk Go.Proofs.YtpnkifincadakaaGreatDoorW.PrintWords Go.Proofs.YtpnkifincadakaaGreatDoor.PPackSpecs
open Go.Am (TabVar tabV head_calls)
def RowAt (w : World) (ad : Addr) (bs : List Int) : Prop := ∃ A c, w.cell? ad = some (.slice A bs.length c) ∧ Rd8 A c bs w ∧ bs.length ≤ 140737488351232 ∧ c ≤ 9223372036854775807
theorem RowAt.below {w w' : World} {ad : Addr} {bs : List Int} (h : RowAt w ad bs) (k : Below w.heap.size w w') : RowAt w' ad bs := by
  obtain ⟨A, c, h1, h2, h3, h4⟩ := h
  exact ⟨A, c, pw_cell_below k h1, h2.below k, h3, h4⟩
structure Sv (N : Nat) (x : List S42 × List ByteArray × Int × List S67) (A0 A1 A3 : Option Addr) (c0 c1 c3 : Nat) (w : World) : Prop where
  f0 : Kd.F k42 w (fun k => N < k) A0 x.1.length x.1
  f1 : Kd.F Kd.string w (fun k => N < k) A1 x.2.1.length x.2.1
  f3 : Kd.F k67 w (fun k => N < k) A3 x.2.2.2.length x.2.2.2
theorem Sv.below {N : Nat} {x : List S42 × List ByteArray × Int × List S67} {A0 A1 A3 : Option Addr} {c0 c1 c3 : Nat} {w w' : World} (h : Sv N x A0 A1 A3 c0 c1 c3 w) (k : Below w.heap.size w w') : Sv N x A0 A1 A3 c0 c1 c3 w' := ⟨Kd.F_below h.f0 k, Kd.F_below h.f1 k, Kd.F_below h.f3 k⟩
theorem Sv.row {N q : Nat} {x : List S42 × List ByteArray × Int × List S67} {A0 A1 A3 : Option Addr} {c0 c1 c3 : Nat} {w : World} (h : Sv N x A0 A1 A3 c0 c1 c3 w) (hq : q ≤ N) (cs : Array Value) : Sv N x A0 A1 A3 c0 c1 c3 (w.setRow q cs) :=
  ⟨Kd.F_step h.f0 fun k hk _ => setRow_other w q k cs (by omega), Kd.F_step h.f1 fun k hk _ => setRow_other w q k cs (by omega), Kd.F_step h.f3 fun k hk _ => setRow_other w q k cs (by omega)⟩
theorem same11 {N M : Nat} {x : List S42 × List ByteArray × Int × List S67} {A0 A1 A3 B0 B1 B3 : Option Addr} {c0 c1 c3 d0 d1 d3 : Nat} {w : World} (h : Sv N x A0 A1 A3 c0 c1 c3 w) (k : Sv M x B0 B1 B3 d0 d1 d3 w) :
    Calls Tryz.prog 11 #[.agg #[.slice A0 x.1.length c0, .slice A1 x.2.1.length c1, .int .i64 x.2.2.1, .slice A3 x.2.2.2.length c3], .agg #[.slice B0 x.1.length d0, .slice B1 x.2.1.length d1, .int .i64 x.2.2.1, .slice B3 x.2.2.2.length d3]] w fun e w' => e = .returned (.bool true) ∧ Below w.heap.size w w' :=
  sameSpec11 x.1 x.2.1 x.2.2.1 x.2.2.2 A0 A1 A3 B0 B1 B3 c0 c1 c3 d0 d1 d3 w (Kd.F_now h.f0) (Kd.F_now h.f1) (Kd.F_now h.f3) (Kd.F_now k.f0) (Kd.F_now k.f1) (Kd.F_now k.f3)
theorem setRow_at {w : World} {q : Nat} {cells cs : Array Value} (h : w.heap[q]? = some (.cells cells 5 (0, 0))) : (w.setRow q cs).heap[q]? = some (.cells cs 5 (0, 0)) := by
  have hl := blk_lt h
  simp only [World.setRow, Array.getElem?_modify, if_true, h, Option.map_some]
theorem Ob.rdG {w : World} {B : Nat} {a : Option Addr} {n c : Nat} {bs : List Int} (h : Ob w B (.slice a n c) bs) (hb : Bytes bs) : n = bs.length ∧ Rd8 a c bs w ∧ c ≤ 9223372036854775807 := by
  rcases h.2 with ⟨hv, h0⟩ | ⟨g, cap, cur, hv, _, _, _, hm, _⟩
  · injection hv with h1 h2 h3
    subst h1 h2 h3
    obtain rfl : bs = [] := List.eq_nil_of_length_eq_zero h0
    exact ⟨rfl, ⟨(fun j x hj => by cases hj), fun _ => rfl, Nat.le_refl _, hb⟩, by omega⟩
  · injection hv with h1 h2 h3
    subst h1 h2 h3
    refine ⟨rfl, ⟨?_, (fun h => by cases h), (obC h).2.1, hb⟩, by unfold maxLen at hm; omega⟩
    intro j x hj
    exact (h.cell (by have := (List.getElem?_eq_some_iff.1 hj).1; omega)).2 j x hj
theorem Ob.row {w : World} {B q : Nat} {v : Value} {bs : List Int} (h : Ob w B v bs) (hq : q < B) (cs : Array Value) : Ob (w.setRow q cs) B v bs := by
  obtain ⟨h1, h2⟩ := h
  refine ⟨h1, ?_⟩
  rcases h2 with h2 | ⟨g, cap, cur, hv, hB, hh, hr⟩
  · exact .inl h2
  · exact .inr ⟨g, cap, cur, hv, hB, (setRow_other w q g cs (by omega)).trans hh, hr⟩
theorem copied_row {cells : Array Value} {cs : List Int} (hl : cs.length < cells.size) : (∀ (i : Nat) (b : Int), cs[i]? = some b → (nums .u8 cs ++ cells.toList.drop (nums .u8 cs).length).toArray[i]? = some (.int .u8 b)) ∧ (nums .u8 cs ++ cells.toList.drop (nums .u8 cs).length).toArray[cs.length]? = cells[cs.length]? := by
  refine ⟨fun i b hi => ?_, ?_⟩
  · have hil := (List.getElem?_eq_some_iff.1 hi).1
    rw [List.getElem?_toArray, List.getElem?_append_left (by rw [nums_length]; exact hil)]
    unfold nums
    rw [List.getElem?_map, hi]
    rfl
  · rw [List.getElem?_toArray, List.getElem?_append_right (by rw [nums_length]; exact Nat.le_refl _), nums_length, List.getElem?_drop]
    simp
set_option maxHeartbeats 64000000 in
set_option maxRecDepth 100000 in
theorem packReads4 (A : Option Addr) (n c : Nat) (sum : Bool) (w : World) (h5 : 5 ≤ w.heap.size) (hb : w.heap[0]? = some (.cells tabV.toArray 263 (0, 0))) (hn : n ≤ 9223372036854775807)
    (hr : ∀ k, k < n → ∃ ad bs, A = some ad ∧ RowAt w (ad.add k) bs) :
    Calls Tryz.prog 4 #[.slice A n c, .bool sum] w fun e w' => e = .returned (.bool true) ∧ Below w.heap.size w w' := by
  have HC := Aside0.mk (head_calls w h5 hb)
  have HT := Aside0.mk (tab_of_block hb)
  have HR := Aside0.mk hr
  have hw0 : 0 < w.heap.size := by omega
  clear hr hb
  go_enter Tryz.func4, Tryz.ntmps4
  go_wp2_with (go_at_call 6; refine HC.out.mono ?_)
  first | rintro e w1 rfl k1 | rintro e w1 ⟨rfl, k1⟩
  have B1 := Aside0.mk k1
  clear k1 HC
  go_wp2
  go_loopw [5] (fun i wr => ∃ k : Nat, k ≤ n ∧ i = .int .i64 k ∧ Aside0 (Below w.heap.size w wr)) (fun i _ => n - (intOf i).toNat)
  case atStart => exact ⟨0, Nat.zero_le _, rfl, B1⟩
  case round =>
    obtain ⟨k, hk, rfl, hBR⟩ := hrel
    by_cases hlt : k < n
    · obtain ⟨ad, bs0, rfl, hrow⟩ := HR.out k hlt
      obtain ⟨A1, c1, hc, hR, hm, hc1⟩ := hrow.below hBR.out
      have HRR := Aside0.mk hR
      clear hR hrow
      cases sum
      · obtain ⟨w2, rfl⟩ : ∃ x, x = wr := ⟨_, rfl⟩
        have B2 := hBR
        obtain ⟨A2, rfl⟩ : ∃ x, x = A1 := ⟨_, rfl⟩
        obtain ⟨c2, rfl⟩ : ∃ x, x = c1 := ⟨_, rfl⟩
        obtain ⟨bs, rfl⟩ : ∃ x, x = bs0 := ⟨_, rfl⟩
        have R2 := HRR
        have hm2 : bs.length ≤ 140737488351300 := by omega
        have hc63 : c2 ≤ 9223372036854775807 := hc1
        have hq1 := bytes13G A2 c2 bs w2 R2.out hm2
        have HQ1 := Aside0.mk hq1
        clear hq1
        go_wp2_with (go_at_call 13; refine HQ1.out.mono ?_)
        rintro e w3 ⟨q, cb, cells, rfl, hqc, hqr, hql, hcb, hcm, hqw, k3⟩
        have B3' := Aside0.mk (below_then B2.out B2.out.size k3)
        have R3 := Aside0.mk (R2.out.below k3)
        have QC := Aside0.mk hqc
        have QR := Aside0.mk hqr
        have QL := Aside0.mk hql
        have hq3 : q < w3.heap.size := blk_lt hqc
        have hw2 := B2.out.size
        obtain ⟨x, hx⟩ : ∃ x, x = gotS (readD bs) := ⟨_, rfl⟩
        obtain ⟨pl, hpl⟩ : ∃ pl, pl = placeOf (readD bs) := ⟨_, rfl⟩
        obtain ⟨cd, hcd⟩ : ∃ cd, cd = codeOf (readD bs) := ⟨_, rfl⟩
        have hp := readSpec14D q cb bs _ rfl w3 ⟨cells, hqc, hqr⟩ ⟨by omega, hcm⟩ hcb R2.out.byt (tab_below HT.out hw0 B3'.out)
        rw [← hx, ← hpl, ← hcd] at hp
        have HP := Aside0.mk hp
        clear hp k3 hqc hqr hql HQ1
        go_wp2_with (go_at_call 14; refine HP.out.mono ?_)
        rintro e w4 ⟨v, rfl, ⟨S0, s0, S1, s1, S3, s3, rfl, hsk, F0, F1, F3⟩, k4⟩
        have B4 := below_then B3'.out B3'.out.size k4
        have hA5 := below_alloc (Below.refl _ w4) (.cells #[.slice S0 x.1.length s0, .slice S1 x.2.1.length s1, .int .i64 x.2.2.1, .slice S3 x.2.2.2.length s3] 28)
        have B5 := Aside0.mk (below_then B4 B4.size hA5)
        have V5 := Aside0.mk (Sv.below (⟨F0, F1, F3⟩ : Sv w3.heap.size x S0 S1 S3 s0 s1 s3 w4) hA5)
        have X5 := Aside0.mk (blk_new w4 (.cells #[.slice S0 x.1.length s0, .slice S1 x.2.1.length s1, .int .i64 x.2.2.1, .slice S3 x.2.2.2.length s3] 28))
        have R5 := Aside0.mk ((R3.out.below k4).below hA5)
        have Q5 := Aside0.mk ((hA5.block _ (Nat.lt_of_lt_of_le hq3 k4.size)).trans ((k4.block _ hq3).trans QC.out))
        have hs4 := k4.size
        have hp := readSpec15 A2 c2 bs _ rfl (w4.alloc (.cells #[.slice S0 x.1.length s0, .slice S1 x.2.1.length s1, .int .i64 x.2.2.1, .slice S3 x.2.2.2.length s3] 28)) R5.out.row R5.out.nl ⟨R5.out.cap, hc63⟩ R5.out.byt
        rw [← hx, ← hpl, ← hcd] at hp
        have HP2 := Aside0.mk hp
        clear hp k4 hA5 B4 F0 F1 F3 HP hx hpl hcd B3' R3
        go_wp2_with (go_at_call 15; refine HP2.out.mono ?_)
        rintro e w6 ⟨v, rfl, ⟨T0, t0, T1, t1, T3, t3, rfl, htk, F0, F1, F3⟩, k6⟩
        have B6 := below_then B5.out B5.out.size k6
        have hA7 := below_alloc (Below.refl _ w6) (.cells #[.slice T0 x.1.length t0, .slice T1 x.2.1.length t1, .int .i64 x.2.2.1, .slice T3 x.2.2.2.length t3] 28)
        have B7 := Aside0.mk (below_then B6 B6.size hA7)
        have V7 := Aside0.mk ((V5.out.below k6).below hA7)
        have W7 := Aside0.mk (Sv.below (⟨F0, F1, F3⟩ : Sv (w4.alloc (.cells #[.slice S0 x.1.length s0, .slice S1 x.2.1.length s1, .int .i64 x.2.2.1, .slice S3 x.2.2.2.length s3] 28)).heap.size x T0 T1 T3 t0 t1 t3 w6) hA7)
        have X7 := Aside0.mk ((hA7.block _ (Nat.lt_of_lt_of_le (blk_lt X5.out) k6.size)).trans ((k6.block _ (blk_lt X5.out)).trans X5.out))
        have Y7 := Aside0.mk (blk_new w6 (.cells #[.slice T0 x.1.length t0, .slice T1 x.2.1.length t1, .int .i64 x.2.2.1, .slice T3 x.2.2.2.length t3] 28))
        have R7 := Aside0.mk ((R5.out.below k6).below hA7)
        have Q7 := Aside0.mk ((hA7.block _ (Nat.lt_of_lt_of_le (blk_lt Q5.out) k6.size)).trans ((k6.block _ (blk_lt Q5.out)).trans Q5.out))
        have hs6 := k6.size
        have HS7 := Aside0.mk (same11 V7.out W7.out)
        have xa0 := (blk_cell X7.out 0).trans (show _ = some (.slice S0 x.1.length s0) from rfl)
        have xa1 := (blk_cell X7.out 1).trans (show _ = some (.slice S1 x.2.1.length s1) from rfl)
        have xa2 := (blk_cell X7.out 2).trans (show _ = some (.int .i64 x.2.2.1) from rfl)
        have xa3 := (blk_cell X7.out 3).trans (show _ = some (.slice S3 x.2.2.2.length s3) from rfl)
        have ya0 := (blk_cell Y7.out 0).trans (show _ = some (.slice T0 x.1.length t0) from rfl)
        have ya1 := (blk_cell Y7.out 1).trans (show _ = some (.slice T1 x.2.1.length t1) from rfl)
        have ya2 := (blk_cell Y7.out 2).trans (show _ = some (.int .i64 x.2.2.1) from rfl)
        have ya3 := (blk_cell Y7.out 3).trans (show _ = some (.slice T3 x.2.2.2.length t3) from rfl)
        clear k6 hA7 B6 F0 F1 F3 HP2 B5 V5 X5 R5 Q5
        go_wp2_with (go_at_call 11; refine HS7.out.mono ?_)
        first | rintro e w8 rfl k8 | rintro e w8 ⟨rfl, k8⟩
        have B8 := Aside0.mk (below_then B7.out B7.out.size k8)
        have V8 := Aside0.mk (V7.out.below k8)
        have W8 := Aside0.mk (W7.out.below k8)
        have X8 := Aside0.mk ((k8.block _ (blk_lt X7.out)).trans X7.out)
        have Y8 := Aside0.mk ((k8.block _ (blk_lt Y7.out)).trans Y7.out)
        have R8 := Aside0.mk (R7.out.below k8)
        have Q8 := Aside0.mk ((k8.block _ (blk_lt Q7.out)).trans Q7.out)
        have hs8 := k8.size
        have HL8 := Aside0.mk (left16 q cb cells A2 c2 bs w8 Q8.out QR.out QL.out hcb hcm R8.out (by omega))
        clear k8 HS7 B7 V7 W7 X7 Y7 R7 Q7 xa0 xa1 xa2 xa3 ya0 ya1 ya2 ya3
        go_wp2_with (go_at_call 16; refine HL8.out.mono ?_)
        first | rintro e w9 rfl k9 | rintro e w9 ⟨rfl, k9⟩
        have B9 := Aside0.mk (below_then B8.out B8.out.size k9)
        have V9 := Aside0.mk (V8.out.below k9)
        have W9 := Aside0.mk (W8.out.below k9)
        have X9 := Aside0.mk ((k9.block _ (blk_lt X8.out)).trans X8.out)
        have Y9 := Aside0.mk ((k9.block _ (blk_lt Y8.out)).trans Y8.out)
        have R9 := Aside0.mk (R8.out.below k9)
        have Q9 := Aside0.mk ((k9.block _ (blk_lt Q8.out)).trans Q8.out)
        have HO9 := Aside0.mk (other17 A2 c2 bs false w9 R9.out hm2)
        have hs9 := k9.size
        clear k9 HL8 B8 V8 W8 X8 Y8 R8 Q8
        go_wp2_with (go_at_call 17; refine HO9.out.mono ?_)
        rintro e w10 ⟨v, cs, rfl, ho, hcl, hcy, k10⟩
        obtain ⟨O, oc, rfl⟩ := own_slice ho
        have B10 := Aside0.mk (below_then B9.out B9.out.size k10)
        have V10 := Aside0.mk (V9.out.below k10)
        have W10 := Aside0.mk (W9.out.below k10)
        have X10 := Aside0.mk ((k10.block _ (blk_lt X9.out)).trans X9.out)
        have Y10 := Aside0.mk ((k10.block _ (blk_lt Y9.out)).trans Y9.out)
        have Q10 := Aside0.mk ((k10.block _ (blk_lt Q9.out)).trans Q9.out)
        have HO := Aside0.mk ho
        have hq10 : q < w9.heap.size := blk_lt Q9.out
        clear k10 ho HO9 B9 V9 W9 X9 Y9 R9 Q9
        have HCL := Aside0.mk hcl
        have HCY := Aside0.mk hcy
        have hcells : bs.length < cells.size := (Array.getElem?_eq_some_iff.1 QL.out).1
        have hon : Ob w10 w9.heap.size (.slice O bs.length oc) cs := by rw [← hcl]; exact HO.out
        have HO' := Aside0.mk HO.out
        clear hcy
        by_cases hz : bs.length = 0
        · have hce : cs = [] := List.eq_nil_of_length_eq_zero (by omega)
          have HCE := Aside0.mk hce
          have HZ := Aside0.mk hz
          clear hcl hon hce hz
          go_wp2_with (with_reducible refine wpList_copy_nothing rfl _ _ 30 30 rfl 5 Tryz.underlying30 (by kernel_rfl) (some ⟨q, 0, none⟩) O bs.length cb cs.length oc rfl rfl (by rw [HZ.out]; exact Nat.min_zero _) ?_)
          obtain ⟨w11, rfl⟩ : ∃ x, x = w10 := ⟨_, rfl⟩
          obtain ⟨NC, hNC⟩ : ∃ x, x = cells := ⟨_, rfl⟩
          have Q11 := Q10
          have B11 := B10
          have V11 := V10
          have W11 := W10
          have X11 := X10
          have Y11 := Y10
          have O11 := HO'
          rw [← hNC] at Q11
          have NR : Aside0 (∀ (i : Nat) (b : Int), cs[i]? = some b → NC[i]? = some (.int .u8 b)) := ⟨fun i b h => by rw [HCE.out] at h; cases h⟩
          have NL : Aside0 (NC[bs.length]? = some (.int .u8 165)) := ⟨by rw [hNC]; exact QL.out⟩
          clear hNC Q10 B10 V10 W10 X10 Y10 HO HO' QC QR QL
          have R11 := (Ob.rdG O11.out HCY.out).2.1
          have hoc := (Ob.rdG O11.out HCY.out).2.2
          obtain ⟨x2, hx2⟩ : ∃ x2, x2 = gotS (readD cs) := ⟨_, rfl⟩
          obtain ⟨pl2, hpl2⟩ : ∃ pl2, pl2 = placeOf (readD cs) := ⟨_, rfl⟩
          obtain ⟨cd2, hcd2⟩ : ∃ cd2, cd2 = codeOf (readD cs) := ⟨_, rfl⟩
          have hp := readSpec14D q cb cs _ rfl w11 ⟨NC, Q11.out, NR.out⟩ ⟨by rw [HCL.out]; omega, hcm⟩ (by rw [HCL.out]; exact hcb) HCY.out (tab_below HT.out hw0 B11.out)
          rw [← hx2, ← hpl2, ← hcd2, HCL.out] at hp
          have HP3 := Aside0.mk hp
          have R11 := Aside0.mk R11
          have hq11 : q < w11.heap.size := blk_lt Q11.out
          have hx11 := blk_lt X11.out
          have hy11 := blk_lt Y11.out
          clear hp
          refine HP3.out.mono ?_
          rintro e w12 ⟨v, rfl, ⟨U0, u0', U1, u1', U3, u3', rfl, huk, F0, F1, F3⟩, k12⟩
          have B12 := below_then B11.out B11.out.size k12
          have hA13 := below_alloc (Below.refl _ w12) (.cells #[.slice U0 x2.1.length u0', .slice U1 x2.2.1.length u1', .int .i64 x2.2.2.1, .slice U3 x2.2.2.2.length u3'] 28)
          have B13 := Aside0.mk (below_then B12 B12.size hA13)
          have U13 := Aside0.mk (Sv.below (⟨F0, F1, F3⟩ : Sv w11.heap.size x2 U0 U1 U3 u0' u1' u3' w12) hA13)
          have Z13 := Aside0.mk (blk_new w12 (.cells #[.slice U0 x2.1.length u0', .slice U1 x2.2.1.length u1', .int .i64 x2.2.2.1, .slice U3 x2.2.2.2.length u3'] 28))
          have V13 := Aside0.mk ((V11.out.below k12).below hA13)
          have W13 := Aside0.mk ((W11.out.below k12).below hA13)
          have X13 := Aside0.mk ((hA13.block _ (Nat.lt_of_lt_of_le hx11 k12.size)).trans ((k12.block _ hx11).trans X11.out))
          have Y13 := Aside0.mk ((hA13.block _ (Nat.lt_of_lt_of_le hy11 k12.size)).trans ((k12.block _ hy11).trans Y11.out))
          have R13 := Aside0.mk ((R11.out.below k12).below hA13)
          have Q13 := Aside0.mk ((hA13.block _ (Nat.lt_of_lt_of_le hq11 k12.size)).trans ((k12.block _ hq11).trans Q11.out))
          have hp := readSpec15 O oc cs _ rfl (w12.alloc (.cells #[.slice U0 x2.1.length u0', .slice U1 x2.2.1.length u1', .int .i64 x2.2.2.1, .slice U3 x2.2.2.2.length u3'] 28)) R13.out.row R13.out.nl ⟨R13.out.cap, hoc⟩ R13.out.byt
          rw [← hx2, ← hpl2, ← hcd2] at hp
          have HP4 := Aside0.mk hp
          clear hp k12 hA13 B12 F0 F1 F3 HP3 hx2 hpl2 hcd2 B11 V11 W11 X11 Y11 Q11 O11 R11
          go_wp2_with (go_at_call 15; refine HP4.out.mono ?_)
          rintro e w14 ⟨v, rfl, ⟨M0, m0', M1, m1', M3, m3', rfl, hmk, F0, F1, F3⟩, k14⟩
          have B14 := below_then B13.out B13.out.size k14
          have hA15 := below_alloc (Below.refl _ w14) (.cells #[.slice M0 x2.1.length m0', .slice M1 x2.2.1.length m1', .int .i64 x2.2.2.1, .slice M3 x2.2.2.2.length m3'] 28)
          have B15 := Aside0.mk (below_then B14 B14.size hA15)
          have U15 := Aside0.mk ((U13.out.below k14).below hA15)
          have M15 := Aside0.mk (Sv.below (⟨F0, F1, F3⟩ : Sv _ x2 M0 M1 M3 m0' m1' m3' w14) hA15)
          have st15 : ∀ {k : Nat} {o : Obj}, (w12.alloc (.cells #[.slice U0 x2.1.length u0', .slice U1 x2.2.1.length u1', .int .i64 x2.2.2.1, .slice U3 x2.2.2.2.length u3'] 28)).heap[k]? = some o → (w14.alloc (.cells #[.slice M0 x2.1.length m0', .slice M1 x2.2.1.length m1', .int .i64 x2.2.2.1, .slice M3 x2.2.2.2.length m3'] 28)).heap[k]? = some o := fun h => (hA15.block _ (Nat.lt_of_lt_of_le (blk_lt h) k14.size)).trans ((k14.block _ (blk_lt h)).trans h)
          have Z15 := Aside0.mk (st15 Z13.out)
          have X15 := Aside0.mk (st15 X13.out)
          have Y15 := Aside0.mk (st15 Y13.out)
          have Q15 := Aside0.mk (st15 Q13.out)
          have G15 := Aside0.mk (blk_new w14 (.cells #[.slice M0 x2.1.length m0', .slice M1 x2.2.1.length m1', .int .i64 x2.2.2.1, .slice M3 x2.2.2.2.length m3'] 28))
          have V15 := Aside0.mk ((V13.out.below k14).below hA15)
          have W15 := Aside0.mk ((W13.out.below k14).below hA15)
          have R15 := Aside0.mk ((R13.out.below k14).below hA15)
          have HS15 := Aside0.mk (same11 U15.out M15.out)
          have za0 := (blk_cell Z15.out 0).trans (show _ = some (.slice U0 x2.1.length u0') from rfl)
          have za1 := (blk_cell Z15.out 1).trans (show _ = some (.slice U1 x2.2.1.length u1') from rfl)
          have za2 := (blk_cell Z15.out 2).trans (show _ = some (.int .i64 x2.2.2.1) from rfl)
          have za3 := (blk_cell Z15.out 3).trans (show _ = some (.slice U3 x2.2.2.2.length u3') from rfl)
          have ga0 := (blk_cell G15.out 0).trans (show _ = some (.slice M0 x2.1.length m0') from rfl)
          have ga1 := (blk_cell G15.out 1).trans (show _ = some (.slice M1 x2.2.1.length m1') from rfl)
          have ga2 := (blk_cell G15.out 2).trans (show _ = some (.int .i64 x2.2.2.1) from rfl)
          have ga3 := (blk_cell G15.out 3).trans (show _ = some (.slice M3 x2.2.2.2.length m3') from rfl)
          clear k14 hA15 B14 F0 F1 F3 HP4 B13 U13 Z13 X13 Y13 Q13 V13 W13 R13 st15
          go_wp2_with (go_at_call 11; refine HS15.out.mono ?_)
          first | rintro e w16 rfl k16 | rintro e w16 ⟨rfl, k16⟩
          have B16 := Aside0.mk (below_then B15.out B15.out.size k16)
          have X16 := Aside0.mk ((k16.block _ (blk_lt X15.out)).trans X15.out)
          have Y16 := Aside0.mk ((k16.block _ (blk_lt Y15.out)).trans Y15.out)
          have Q16 := Aside0.mk ((k16.block _ (blk_lt Q15.out)).trans Q15.out)
          have R16 := Aside0.mk (R15.out.below k16)
          have HS16 := Aside0.mk (same11 (V15.out.below k16) (W15.out.below k16))
          have xa0 := (blk_cell X16.out 0).trans (show _ = some (.slice S0 x.1.length s0) from rfl)
          have xa1 := (blk_cell X16.out 1).trans (show _ = some (.slice S1 x.2.1.length s1) from rfl)
          have xa2 := (blk_cell X16.out 2).trans (show _ = some (.int .i64 x.2.2.1) from rfl)
          have xa3 := (blk_cell X16.out 3).trans (show _ = some (.slice S3 x.2.2.2.length s3) from rfl)
          have ya0 := (blk_cell Y16.out 0).trans (show _ = some (.slice T0 x.1.length t0) from rfl)
          have ya1 := (blk_cell Y16.out 1).trans (show _ = some (.slice T1 x.2.1.length t1) from rfl)
          have ya2 := (blk_cell Y16.out 2).trans (show _ = some (.int .i64 x.2.2.1) from rfl)
          have ya3 := (blk_cell Y16.out 3).trans (show _ = some (.slice T3 x.2.2.2.length t3) from rfl)
          clear k16 HS15 B15 X15 Y15 Q15 V15 W15 R15 U15 M15 Z15 G15 za0 za1 za2 za3 ga0 ga1 ga2 ga3
          go_wp2_with (go_at_call 11; refine HS16.out.mono ?_)
          first | rintro e w17 rfl k17 | rintro e w17 ⟨rfl, k17⟩
          have B17 := Aside0.mk (below_then B16.out B16.out.size k17)
          have hlf : Calls Tryz.prog 16 #[.slice (some ⟨q, 0, none⟩) bs.length cb, .slice O cs.length oc] w17 fun e w' => e = .returned (.bool true) ∧ Below w17.heap.size w17 w' := by
            have h := left16 q cb NC O oc cs w17 ((k17.block _ (blk_lt Q16.out)).trans Q16.out) NR.out (by rw [HCL.out]; exact NL.out) (by rw [HCL.out]; exact hcb) hcm (R16.out.below k17) (by rw [HCL.out]; omega)
            rw [HCL.out] at h ⊢
            exact h
          have HL17 := Aside0.mk hlf
          clear hlf k17 HS16 B16 X16 Y16 Q16 R16 xa0 xa1 xa2 xa3 ya0 ya1 ya2 ya3
          go_wp2_with (go_at_call 16; refine HL17.out.mono ?_)
          first | rintro e w18 rfl k18 | rintro e w18 ⟨rfl, k18⟩
          have B18 := Aside0.mk (below_then B17.out B17.out.size k18)
          clear k18 HL17 B17
          go_wp2
          go_roundw
          case rel => exact ⟨k + 1, by omega, by go_num, B18⟩
          case measure => simp [intOf]; omega
        have hcp : 0 < cs.length := by omega
        obtain ⟨og, ocap, he, hog, hogl, hoc1⟩ := hon.form hcp
        injection he with he1 he2 he3
        clear he2 he3
        subst he1
        obtain ⟨hNR, hNL⟩ := copied_row (cells := cells) (cs := cs) (by omega)
        clear hcl hon
        go_wp2_with (with_reducible refine wpList_copy_own rfl _ _ 30 30 rfl 5 Tryz.underlying30 (by kernel_rfl) q 0 bs.length cb ⟨og, 0, none⟩ _ oc rfl rfl cells 5 Q10.out (nums .u8 cs) (by rw [nums_length, HCL.out]; exact (Nat.min_self _).symm) hoc1 (by rw [nums_length, HCL.out]; omega) (one_nums cs) ?_)
        obtain ⟨NC, hNC⟩ : ∃ NC, NC = (nums .u8 cs ++ cells.toList.drop (nums .u8 cs).length).toArray := ⟨_, rfl⟩
        rw [← hNC] at hNR hNL ⊢
        obtain ⟨w11, hw11⟩ : ∃ w11, w11 = w10.setRow q NC := ⟨_, rfl⟩
        have Q11 := Aside0.mk (setRow_at (cs := NC) Q10.out)
        have B11 := Aside0.mk (below_setRow B10.out (show w.heap.size ≤ q by omega) NC)
        have V11 := Aside0.mk (V10.out.row (show q ≤ w3.heap.size by omega) NC)
        have W11 := Aside0.mk (W10.out.row (show q ≤ _ by simp; omega) NC)
        have X11 := Aside0.mk ((setRow_other w10 q _ NC (show w4.heap.size ≠ q by omega)).trans X10.out)
        have Y11 := Aside0.mk ((setRow_other w10 q _ NC (show w6.heap.size ≠ q by simp at hs6; omega)).trans Y10.out)
        have O11 := Aside0.mk (HO'.out.row hq10 NC)
        rw [← hw11] at Q11 B11 V11 W11 X11 Y11 O11 ⊢
        have NR := Aside0.mk hNR
        have NL : Aside0 (NC[bs.length]? = some (.int .u8 165)) := ⟨by rw [← HCL.out, hNL, HCL.out]; exact QL.out⟩
        clear hNC hw11 hNR hNL Q10 B10 V10 W10 X10 Y10 HO HO' QC QR QL hoc1
        have R11 := (Ob.rdG O11.out HCY.out).2.1
        have hoc := (Ob.rdG O11.out HCY.out).2.2
        obtain ⟨x2, hx2⟩ : ∃ x2, x2 = gotS (readD cs) := ⟨_, rfl⟩
        obtain ⟨pl2, hpl2⟩ : ∃ pl2, pl2 = placeOf (readD cs) := ⟨_, rfl⟩
        obtain ⟨cd2, hcd2⟩ : ∃ cd2, cd2 = codeOf (readD cs) := ⟨_, rfl⟩
        have hp := readSpec14D q cb cs _ rfl w11 ⟨NC, Q11.out, NR.out⟩ ⟨by rw [HCL.out]; omega, hcm⟩ (by rw [HCL.out]; exact hcb) HCY.out (tab_below HT.out hw0 B11.out)
        rw [← hx2, ← hpl2, ← hcd2, HCL.out] at hp
        have HP3 := Aside0.mk hp
        have R11 := Aside0.mk R11
        have hq11 : q < w11.heap.size := blk_lt Q11.out
        have hx11 := blk_lt X11.out
        have hy11 := blk_lt Y11.out
        clear hp
        refine HP3.out.mono ?_
        rintro e w12 ⟨v, rfl, ⟨U0, u0', U1, u1', U3, u3', rfl, huk, F0, F1, F3⟩, k12⟩
        have B12 := below_then B11.out B11.out.size k12
        have hA13 := below_alloc (Below.refl _ w12) (.cells #[.slice U0 x2.1.length u0', .slice U1 x2.2.1.length u1', .int .i64 x2.2.2.1, .slice U3 x2.2.2.2.length u3'] 28)
        have B13 := Aside0.mk (below_then B12 B12.size hA13)
        have U13 := Aside0.mk (Sv.below (⟨F0, F1, F3⟩ : Sv w11.heap.size x2 U0 U1 U3 u0' u1' u3' w12) hA13)
        have Z13 := Aside0.mk (blk_new w12 (.cells #[.slice U0 x2.1.length u0', .slice U1 x2.2.1.length u1', .int .i64 x2.2.2.1, .slice U3 x2.2.2.2.length u3'] 28))
        have V13 := Aside0.mk ((V11.out.below k12).below hA13)
        have W13 := Aside0.mk ((W11.out.below k12).below hA13)
        have X13 := Aside0.mk ((hA13.block _ (Nat.lt_of_lt_of_le hx11 k12.size)).trans ((k12.block _ hx11).trans X11.out))
        have Y13 := Aside0.mk ((hA13.block _ (Nat.lt_of_lt_of_le hy11 k12.size)).trans ((k12.block _ hy11).trans Y11.out))
        have R13 := Aside0.mk ((R11.out.below k12).below hA13)
        have Q13 := Aside0.mk ((hA13.block _ (Nat.lt_of_lt_of_le hq11 k12.size)).trans ((k12.block _ hq11).trans Q11.out))
        have hp := readSpec15 (some ⟨og, 0, none⟩) oc cs _ rfl (w12.alloc (.cells #[.slice U0 x2.1.length u0', .slice U1 x2.2.1.length u1', .int .i64 x2.2.2.1, .slice U3 x2.2.2.2.length u3'] 28)) R13.out.row R13.out.nl ⟨R13.out.cap, hoc⟩ R13.out.byt
        rw [← hx2, ← hpl2, ← hcd2] at hp
        have HP4 := Aside0.mk hp
        clear hp k12 hA13 B12 F0 F1 F3 HP3 hx2 hpl2 hcd2 B11 V11 W11 X11 Y11 Q11 O11 R11
        go_wp2_with (go_at_call 15; refine HP4.out.mono ?_)
        rintro e w14 ⟨v, rfl, ⟨M0, m0', M1, m1', M3, m3', rfl, hmk, F0, F1, F3⟩, k14⟩
        have B14 := below_then B13.out B13.out.size k14
        have hA15 := below_alloc (Below.refl _ w14) (.cells #[.slice M0 x2.1.length m0', .slice M1 x2.2.1.length m1', .int .i64 x2.2.2.1, .slice M3 x2.2.2.2.length m3'] 28)
        have B15 := Aside0.mk (below_then B14 B14.size hA15)
        have U15 := Aside0.mk ((U13.out.below k14).below hA15)
        have M15 := Aside0.mk (Sv.below (⟨F0, F1, F3⟩ : Sv _ x2 M0 M1 M3 m0' m1' m3' w14) hA15)
        have st15 : ∀ {k : Nat} {o : Obj}, (w12.alloc (.cells #[.slice U0 x2.1.length u0', .slice U1 x2.2.1.length u1', .int .i64 x2.2.2.1, .slice U3 x2.2.2.2.length u3'] 28)).heap[k]? = some o → (w14.alloc (.cells #[.slice M0 x2.1.length m0', .slice M1 x2.2.1.length m1', .int .i64 x2.2.2.1, .slice M3 x2.2.2.2.length m3'] 28)).heap[k]? = some o := fun h => (hA15.block _ (Nat.lt_of_lt_of_le (blk_lt h) k14.size)).trans ((k14.block _ (blk_lt h)).trans h)
        have Z15 := Aside0.mk (st15 Z13.out)
        have X15 := Aside0.mk (st15 X13.out)
        have Y15 := Aside0.mk (st15 Y13.out)
        have Q15 := Aside0.mk (st15 Q13.out)
        have G15 := Aside0.mk (blk_new w14 (.cells #[.slice M0 x2.1.length m0', .slice M1 x2.2.1.length m1', .int .i64 x2.2.2.1, .slice M3 x2.2.2.2.length m3'] 28))
        have V15 := Aside0.mk ((V13.out.below k14).below hA15)
        have W15 := Aside0.mk ((W13.out.below k14).below hA15)
        have R15 := Aside0.mk ((R13.out.below k14).below hA15)
        have HS15 := Aside0.mk (same11 U15.out M15.out)
        have za0 := (blk_cell Z15.out 0).trans (show _ = some (.slice U0 x2.1.length u0') from rfl)
        have za1 := (blk_cell Z15.out 1).trans (show _ = some (.slice U1 x2.2.1.length u1') from rfl)
        have za2 := (blk_cell Z15.out 2).trans (show _ = some (.int .i64 x2.2.2.1) from rfl)
        have za3 := (blk_cell Z15.out 3).trans (show _ = some (.slice U3 x2.2.2.2.length u3') from rfl)
        have ga0 := (blk_cell G15.out 0).trans (show _ = some (.slice M0 x2.1.length m0') from rfl)
        have ga1 := (blk_cell G15.out 1).trans (show _ = some (.slice M1 x2.2.1.length m1') from rfl)
        have ga2 := (blk_cell G15.out 2).trans (show _ = some (.int .i64 x2.2.2.1) from rfl)
        have ga3 := (blk_cell G15.out 3).trans (show _ = some (.slice M3 x2.2.2.2.length m3') from rfl)
        clear k14 hA15 B14 F0 F1 F3 HP4 B13 U13 Z13 X13 Y13 Q13 V13 W13 R13 st15
        go_wp2_with (go_at_call 11; refine HS15.out.mono ?_)
        first | rintro e w16 rfl k16 | rintro e w16 ⟨rfl, k16⟩
        have B16 := Aside0.mk (below_then B15.out B15.out.size k16)
        have X16 := Aside0.mk ((k16.block _ (blk_lt X15.out)).trans X15.out)
        have Y16 := Aside0.mk ((k16.block _ (blk_lt Y15.out)).trans Y15.out)
        have Q16 := Aside0.mk ((k16.block _ (blk_lt Q15.out)).trans Q15.out)
        have R16 := Aside0.mk (R15.out.below k16)
        have HS16 := Aside0.mk (same11 (V15.out.below k16) (W15.out.below k16))
        have xa0 := (blk_cell X16.out 0).trans (show _ = some (.slice S0 x.1.length s0) from rfl)
        have xa1 := (blk_cell X16.out 1).trans (show _ = some (.slice S1 x.2.1.length s1) from rfl)
        have xa2 := (blk_cell X16.out 2).trans (show _ = some (.int .i64 x.2.2.1) from rfl)
        have xa3 := (blk_cell X16.out 3).trans (show _ = some (.slice S3 x.2.2.2.length s3) from rfl)
        have ya0 := (blk_cell Y16.out 0).trans (show _ = some (.slice T0 x.1.length t0) from rfl)
        have ya1 := (blk_cell Y16.out 1).trans (show _ = some (.slice T1 x.2.1.length t1) from rfl)
        have ya2 := (blk_cell Y16.out 2).trans (show _ = some (.int .i64 x.2.2.1) from rfl)
        have ya3 := (blk_cell Y16.out 3).trans (show _ = some (.slice T3 x.2.2.2.length t3) from rfl)
        clear k16 HS15 B15 X15 Y15 Q15 V15 W15 R15 U15 M15 Z15 G15 za0 za1 za2 za3 ga0 ga1 ga2 ga3
        go_wp2_with (go_at_call 11; refine HS16.out.mono ?_)
        first | rintro e w17 rfl k17 | rintro e w17 ⟨rfl, k17⟩
        have B17 := Aside0.mk (below_then B16.out B16.out.size k17)
        have hlf : Calls Tryz.prog 16 #[.slice (some ⟨q, 0, none⟩) bs.length cb, .slice (some ⟨og, 0, none⟩) cs.length oc] w17 fun e w' => e = .returned (.bool true) ∧ Below w17.heap.size w17 w' := by
          have h := left16 q cb NC (some ⟨og, 0, none⟩) oc cs w17 ((k17.block _ (blk_lt Q16.out)).trans Q16.out) NR.out (by rw [HCL.out]; exact NL.out) (by rw [HCL.out]; exact hcb) hcm (R16.out.below k17) (by rw [HCL.out]; omega)
          rw [HCL.out] at h ⊢
          exact h
        have HL17 := Aside0.mk hlf
        clear hlf k17 HS16 B16 X16 Y16 Q16 R16 xa0 xa1 xa2 xa3 ya0 ya1 ya2 ya3
        go_wp2_with (go_at_call 16; refine HL17.out.mono ?_)
        first | rintro e w18 rfl k18 | rintro e w18 ⟨rfl, k18⟩
        have B18 := Aside0.mk (below_then B17.out B17.out.size k18)
        clear k18 HL17 B17
        go_wp2
        go_roundw
        case rel => exact ⟨k + 1, by omega, by go_num, B18⟩
        case measure => simp [intOf]; omega
      · have HSM := Aside0.mk (summed12G A1 c1 bs0 wr HRR.out (by omega))
        have hby := bytes_summed' HRR.out.byt
        have hsl : (summed bs0).length = bs0.length + 4 := by unfold summed; rw [List.length_append]; rfl
        obtain ⟨bs, hbs⟩ : ∃ bs, bs = summed bs0 := ⟨_, rfl⟩
        rw [← hbs] at HSM hby hsl
        have hm2 : bs.length ≤ 140737488351300 := by omega
        have HBYY := Aside0.mk hby
        clear hbs hsl hby
        go_wp2_with (go_at_call 12; refine HSM.out.mono ?_)
        rintro e w2 ⟨v, rfl, ho, k2⟩
        obtain ⟨A2, c2, rfl⟩ := own_slice ho
        have B2 := Aside0.mk (below_then hBR.out hBR.out.size k2)
        have R2 := Aside0.mk (Ob.rdG ho HBYY.out).2.1
        have hc63 := (Ob.rdG ho HBYY.out).2.2
        clear ho k2 HSM HBYY
        have hq1 := bytes13G A2 c2 bs w2 R2.out hm2
        have HQ1 := Aside0.mk hq1
        clear hq1
        go_wp2_with (go_at_call 13; refine HQ1.out.mono ?_)
        rintro e w3 ⟨q, cb, cells, rfl, hqc, hqr, hql, hcb, hcm, hqw, k3⟩
        have B3' := Aside0.mk (below_then B2.out B2.out.size k3)
        have R3 := Aside0.mk (R2.out.below k3)
        have QC := Aside0.mk hqc
        have QR := Aside0.mk hqr
        have QL := Aside0.mk hql
        have hq3 : q < w3.heap.size := blk_lt hqc
        have hw2 := B2.out.size
        obtain ⟨x, hx⟩ : ∃ x, x = gotS (readD bs) := ⟨_, rfl⟩
        obtain ⟨pl, hpl⟩ : ∃ pl, pl = placeOf (readD bs) := ⟨_, rfl⟩
        obtain ⟨cd, hcd⟩ : ∃ cd, cd = codeOf (readD bs) := ⟨_, rfl⟩
        have hp := readSpec14D q cb bs _ rfl w3 ⟨cells, hqc, hqr⟩ ⟨by omega, hcm⟩ hcb R2.out.byt (tab_below HT.out hw0 B3'.out)
        rw [← hx, ← hpl, ← hcd] at hp
        have HP := Aside0.mk hp
        clear hp k3 hqc hqr hql HQ1
        go_wp2_with (go_at_call 14; refine HP.out.mono ?_)
        rintro e w4 ⟨v, rfl, ⟨S0, s0, S1, s1, S3, s3, rfl, hsk, F0, F1, F3⟩, k4⟩
        have B4 := below_then B3'.out B3'.out.size k4
        have hA5 := below_alloc (Below.refl _ w4) (.cells #[.slice S0 x.1.length s0, .slice S1 x.2.1.length s1, .int .i64 x.2.2.1, .slice S3 x.2.2.2.length s3] 28)
        have B5 := Aside0.mk (below_then B4 B4.size hA5)
        have V5 := Aside0.mk (Sv.below (⟨F0, F1, F3⟩ : Sv w3.heap.size x S0 S1 S3 s0 s1 s3 w4) hA5)
        have X5 := Aside0.mk (blk_new w4 (.cells #[.slice S0 x.1.length s0, .slice S1 x.2.1.length s1, .int .i64 x.2.2.1, .slice S3 x.2.2.2.length s3] 28))
        have R5 := Aside0.mk ((R3.out.below k4).below hA5)
        have Q5 := Aside0.mk ((hA5.block _ (Nat.lt_of_lt_of_le hq3 k4.size)).trans ((k4.block _ hq3).trans QC.out))
        have hs4 := k4.size
        have hp := readSpec15 A2 c2 bs _ rfl (w4.alloc (.cells #[.slice S0 x.1.length s0, .slice S1 x.2.1.length s1, .int .i64 x.2.2.1, .slice S3 x.2.2.2.length s3] 28)) R5.out.row R5.out.nl ⟨R5.out.cap, hc63⟩ R5.out.byt
        rw [← hx, ← hpl, ← hcd] at hp
        have HP2 := Aside0.mk hp
        clear hp k4 hA5 B4 F0 F1 F3 HP hx hpl hcd B3' R3
        go_wp2_with (go_at_call 15; refine HP2.out.mono ?_)
        rintro e w6 ⟨v, rfl, ⟨T0, t0, T1, t1, T3, t3, rfl, htk, F0, F1, F3⟩, k6⟩
        have B6 := below_then B5.out B5.out.size k6
        have hA7 := below_alloc (Below.refl _ w6) (.cells #[.slice T0 x.1.length t0, .slice T1 x.2.1.length t1, .int .i64 x.2.2.1, .slice T3 x.2.2.2.length t3] 28)
        have B7 := Aside0.mk (below_then B6 B6.size hA7)
        have V7 := Aside0.mk ((V5.out.below k6).below hA7)
        have W7 := Aside0.mk (Sv.below (⟨F0, F1, F3⟩ : Sv (w4.alloc (.cells #[.slice S0 x.1.length s0, .slice S1 x.2.1.length s1, .int .i64 x.2.2.1, .slice S3 x.2.2.2.length s3] 28)).heap.size x T0 T1 T3 t0 t1 t3 w6) hA7)
        have X7 := Aside0.mk ((hA7.block _ (Nat.lt_of_lt_of_le (blk_lt X5.out) k6.size)).trans ((k6.block _ (blk_lt X5.out)).trans X5.out))
        have Y7 := Aside0.mk (blk_new w6 (.cells #[.slice T0 x.1.length t0, .slice T1 x.2.1.length t1, .int .i64 x.2.2.1, .slice T3 x.2.2.2.length t3] 28))
        have R7 := Aside0.mk ((R5.out.below k6).below hA7)
        have Q7 := Aside0.mk ((hA7.block _ (Nat.lt_of_lt_of_le (blk_lt Q5.out) k6.size)).trans ((k6.block _ (blk_lt Q5.out)).trans Q5.out))
        have hs6 := k6.size
        have HS7 := Aside0.mk (same11 V7.out W7.out)
        have xa0 := (blk_cell X7.out 0).trans (show _ = some (.slice S0 x.1.length s0) from rfl)
        have xa1 := (blk_cell X7.out 1).trans (show _ = some (.slice S1 x.2.1.length s1) from rfl)
        have xa2 := (blk_cell X7.out 2).trans (show _ = some (.int .i64 x.2.2.1) from rfl)
        have xa3 := (blk_cell X7.out 3).trans (show _ = some (.slice S3 x.2.2.2.length s3) from rfl)
        have ya0 := (blk_cell Y7.out 0).trans (show _ = some (.slice T0 x.1.length t0) from rfl)
        have ya1 := (blk_cell Y7.out 1).trans (show _ = some (.slice T1 x.2.1.length t1) from rfl)
        have ya2 := (blk_cell Y7.out 2).trans (show _ = some (.int .i64 x.2.2.1) from rfl)
        have ya3 := (blk_cell Y7.out 3).trans (show _ = some (.slice T3 x.2.2.2.length t3) from rfl)
        clear k6 hA7 B6 F0 F1 F3 HP2 B5 V5 X5 R5 Q5
        go_wp2_with (go_at_call 11; refine HS7.out.mono ?_)
        first | rintro e w8 rfl k8 | rintro e w8 ⟨rfl, k8⟩
        have B8 := Aside0.mk (below_then B7.out B7.out.size k8)
        have V8 := Aside0.mk (V7.out.below k8)
        have W8 := Aside0.mk (W7.out.below k8)
        have X8 := Aside0.mk ((k8.block _ (blk_lt X7.out)).trans X7.out)
        have Y8 := Aside0.mk ((k8.block _ (blk_lt Y7.out)).trans Y7.out)
        have R8 := Aside0.mk (R7.out.below k8)
        have Q8 := Aside0.mk ((k8.block _ (blk_lt Q7.out)).trans Q7.out)
        have hs8 := k8.size
        have HL8 := Aside0.mk (left16 q cb cells A2 c2 bs w8 Q8.out QR.out QL.out hcb hcm R8.out (by omega))
        clear k8 HS7 B7 V7 W7 X7 Y7 R7 Q7 xa0 xa1 xa2 xa3 ya0 ya1 ya2 ya3
        go_wp2_with (go_at_call 16; refine HL8.out.mono ?_)
        first | rintro e w9 rfl k9 | rintro e w9 ⟨rfl, k9⟩
        have B9 := Aside0.mk (below_then B8.out B8.out.size k9)
        have V9 := Aside0.mk (V8.out.below k9)
        have W9 := Aside0.mk (W8.out.below k9)
        have X9 := Aside0.mk ((k9.block _ (blk_lt X8.out)).trans X8.out)
        have Y9 := Aside0.mk ((k9.block _ (blk_lt Y8.out)).trans Y8.out)
        have R9 := Aside0.mk (R8.out.below k9)
        have Q9 := Aside0.mk ((k9.block _ (blk_lt Q8.out)).trans Q8.out)
        have HO9 := Aside0.mk (other17 A2 c2 bs true w9 R9.out hm2)
        have hs9 := k9.size
        clear k9 HL8 B8 V8 W8 X8 Y8 R8 Q8
        go_wp2_with (go_at_call 17; refine HO9.out.mono ?_)
        rintro e w10 ⟨v, cs, rfl, ho, hcl, hcy, k10⟩
        obtain ⟨O, oc, rfl⟩ := own_slice ho
        have B10 := Aside0.mk (below_then B9.out B9.out.size k10)
        have V10 := Aside0.mk (V9.out.below k10)
        have W10 := Aside0.mk (W9.out.below k10)
        have X10 := Aside0.mk ((k10.block _ (blk_lt X9.out)).trans X9.out)
        have Y10 := Aside0.mk ((k10.block _ (blk_lt Y9.out)).trans Y9.out)
        have Q10 := Aside0.mk ((k10.block _ (blk_lt Q9.out)).trans Q9.out)
        have HO := Aside0.mk ho
        have hq10 : q < w9.heap.size := blk_lt Q9.out
        clear k10 ho HO9 B9 V9 W9 X9 Y9 R9 Q9
        have HCL := Aside0.mk hcl
        have HCY := Aside0.mk hcy
        have hcells : bs.length < cells.size := (Array.getElem?_eq_some_iff.1 QL.out).1
        have hon : Ob w10 w9.heap.size (.slice O bs.length oc) cs := by rw [← hcl]; exact HO.out
        have HO' := Aside0.mk HO.out
        clear hcy
        by_cases hz : bs.length = 0
        · have hce : cs = [] := List.eq_nil_of_length_eq_zero (by omega)
          have HCE := Aside0.mk hce
          have HZ := Aside0.mk hz
          clear hcl hon hce hz
          go_wp2_with (with_reducible refine wpList_copy_nothing rfl _ _ 30 30 rfl 5 Tryz.underlying30 (by kernel_rfl) (some ⟨q, 0, none⟩) O bs.length cb cs.length oc rfl rfl (by rw [HZ.out]; exact Nat.min_zero _) ?_)
          obtain ⟨w11, rfl⟩ : ∃ x, x = w10 := ⟨_, rfl⟩
          obtain ⟨NC, hNC⟩ : ∃ x, x = cells := ⟨_, rfl⟩
          have Q11 := Q10
          have B11 := B10
          have V11 := V10
          have W11 := W10
          have X11 := X10
          have Y11 := Y10
          have O11 := HO'
          rw [← hNC] at Q11
          have NR : Aside0 (∀ (i : Nat) (b : Int), cs[i]? = some b → NC[i]? = some (.int .u8 b)) := ⟨fun i b h => by rw [HCE.out] at h; cases h⟩
          have NL : Aside0 (NC[bs.length]? = some (.int .u8 165)) := ⟨by rw [hNC]; exact QL.out⟩
          clear hNC Q10 B10 V10 W10 X10 Y10 HO HO' QC QR QL
          have R11 := (Ob.rdG O11.out HCY.out).2.1
          have hoc := (Ob.rdG O11.out HCY.out).2.2
          obtain ⟨x2, hx2⟩ : ∃ x2, x2 = gotS (readD cs) := ⟨_, rfl⟩
          obtain ⟨pl2, hpl2⟩ : ∃ pl2, pl2 = placeOf (readD cs) := ⟨_, rfl⟩
          obtain ⟨cd2, hcd2⟩ : ∃ cd2, cd2 = codeOf (readD cs) := ⟨_, rfl⟩
          have hp := readSpec14D q cb cs _ rfl w11 ⟨NC, Q11.out, NR.out⟩ ⟨by rw [HCL.out]; omega, hcm⟩ (by rw [HCL.out]; exact hcb) HCY.out (tab_below HT.out hw0 B11.out)
          rw [← hx2, ← hpl2, ← hcd2, HCL.out] at hp
          have HP3 := Aside0.mk hp
          have R11 := Aside0.mk R11
          have hq11 : q < w11.heap.size := blk_lt Q11.out
          have hx11 := blk_lt X11.out
          have hy11 := blk_lt Y11.out
          clear hp
          refine HP3.out.mono ?_
          rintro e w12 ⟨v, rfl, ⟨U0, u0', U1, u1', U3, u3', rfl, huk, F0, F1, F3⟩, k12⟩
          have B12 := below_then B11.out B11.out.size k12
          have hA13 := below_alloc (Below.refl _ w12) (.cells #[.slice U0 x2.1.length u0', .slice U1 x2.2.1.length u1', .int .i64 x2.2.2.1, .slice U3 x2.2.2.2.length u3'] 28)
          have B13 := Aside0.mk (below_then B12 B12.size hA13)
          have U13 := Aside0.mk (Sv.below (⟨F0, F1, F3⟩ : Sv w11.heap.size x2 U0 U1 U3 u0' u1' u3' w12) hA13)
          have Z13 := Aside0.mk (blk_new w12 (.cells #[.slice U0 x2.1.length u0', .slice U1 x2.2.1.length u1', .int .i64 x2.2.2.1, .slice U3 x2.2.2.2.length u3'] 28))
          have V13 := Aside0.mk ((V11.out.below k12).below hA13)
          have W13 := Aside0.mk ((W11.out.below k12).below hA13)
          have X13 := Aside0.mk ((hA13.block _ (Nat.lt_of_lt_of_le hx11 k12.size)).trans ((k12.block _ hx11).trans X11.out))
          have Y13 := Aside0.mk ((hA13.block _ (Nat.lt_of_lt_of_le hy11 k12.size)).trans ((k12.block _ hy11).trans Y11.out))
          have R13 := Aside0.mk ((R11.out.below k12).below hA13)
          have Q13 := Aside0.mk ((hA13.block _ (Nat.lt_of_lt_of_le hq11 k12.size)).trans ((k12.block _ hq11).trans Q11.out))
          have hp := readSpec15 O oc cs _ rfl (w12.alloc (.cells #[.slice U0 x2.1.length u0', .slice U1 x2.2.1.length u1', .int .i64 x2.2.2.1, .slice U3 x2.2.2.2.length u3'] 28)) R13.out.row R13.out.nl ⟨R13.out.cap, hoc⟩ R13.out.byt
          rw [← hx2, ← hpl2, ← hcd2] at hp
          have HP4 := Aside0.mk hp
          clear hp k12 hA13 B12 F0 F1 F3 HP3 hx2 hpl2 hcd2 B11 V11 W11 X11 Y11 Q11 O11 R11
          go_wp2_with (go_at_call 15; refine HP4.out.mono ?_)
          rintro e w14 ⟨v, rfl, ⟨M0, m0', M1, m1', M3, m3', rfl, hmk, F0, F1, F3⟩, k14⟩
          have B14 := below_then B13.out B13.out.size k14
          have hA15 := below_alloc (Below.refl _ w14) (.cells #[.slice M0 x2.1.length m0', .slice M1 x2.2.1.length m1', .int .i64 x2.2.2.1, .slice M3 x2.2.2.2.length m3'] 28)
          have B15 := Aside0.mk (below_then B14 B14.size hA15)
          have U15 := Aside0.mk ((U13.out.below k14).below hA15)
          have M15 := Aside0.mk (Sv.below (⟨F0, F1, F3⟩ : Sv _ x2 M0 M1 M3 m0' m1' m3' w14) hA15)
          have st15 : ∀ {k : Nat} {o : Obj}, (w12.alloc (.cells #[.slice U0 x2.1.length u0', .slice U1 x2.2.1.length u1', .int .i64 x2.2.2.1, .slice U3 x2.2.2.2.length u3'] 28)).heap[k]? = some o → (w14.alloc (.cells #[.slice M0 x2.1.length m0', .slice M1 x2.2.1.length m1', .int .i64 x2.2.2.1, .slice M3 x2.2.2.2.length m3'] 28)).heap[k]? = some o := fun h => (hA15.block _ (Nat.lt_of_lt_of_le (blk_lt h) k14.size)).trans ((k14.block _ (blk_lt h)).trans h)
          have Z15 := Aside0.mk (st15 Z13.out)
          have X15 := Aside0.mk (st15 X13.out)
          have Y15 := Aside0.mk (st15 Y13.out)
          have Q15 := Aside0.mk (st15 Q13.out)
          have G15 := Aside0.mk (blk_new w14 (.cells #[.slice M0 x2.1.length m0', .slice M1 x2.2.1.length m1', .int .i64 x2.2.2.1, .slice M3 x2.2.2.2.length m3'] 28))
          have V15 := Aside0.mk ((V13.out.below k14).below hA15)
          have W15 := Aside0.mk ((W13.out.below k14).below hA15)
          have R15 := Aside0.mk ((R13.out.below k14).below hA15)
          have HS15 := Aside0.mk (same11 U15.out M15.out)
          have za0 := (blk_cell Z15.out 0).trans (show _ = some (.slice U0 x2.1.length u0') from rfl)
          have za1 := (blk_cell Z15.out 1).trans (show _ = some (.slice U1 x2.2.1.length u1') from rfl)
          have za2 := (blk_cell Z15.out 2).trans (show _ = some (.int .i64 x2.2.2.1) from rfl)
          have za3 := (blk_cell Z15.out 3).trans (show _ = some (.slice U3 x2.2.2.2.length u3') from rfl)
          have ga0 := (blk_cell G15.out 0).trans (show _ = some (.slice M0 x2.1.length m0') from rfl)
          have ga1 := (blk_cell G15.out 1).trans (show _ = some (.slice M1 x2.2.1.length m1') from rfl)
          have ga2 := (blk_cell G15.out 2).trans (show _ = some (.int .i64 x2.2.2.1) from rfl)
          have ga3 := (blk_cell G15.out 3).trans (show _ = some (.slice M3 x2.2.2.2.length m3') from rfl)
          clear k14 hA15 B14 F0 F1 F3 HP4 B13 U13 Z13 X13 Y13 Q13 V13 W13 R13 st15
          go_wp2_with (go_at_call 11; refine HS15.out.mono ?_)
          first | rintro e w16 rfl k16 | rintro e w16 ⟨rfl, k16⟩
          have B16 := Aside0.mk (below_then B15.out B15.out.size k16)
          have X16 := Aside0.mk ((k16.block _ (blk_lt X15.out)).trans X15.out)
          have Y16 := Aside0.mk ((k16.block _ (blk_lt Y15.out)).trans Y15.out)
          have Q16 := Aside0.mk ((k16.block _ (blk_lt Q15.out)).trans Q15.out)
          have R16 := Aside0.mk (R15.out.below k16)
          have HS16 := Aside0.mk (same11 (V15.out.below k16) (W15.out.below k16))
          have xa0 := (blk_cell X16.out 0).trans (show _ = some (.slice S0 x.1.length s0) from rfl)
          have xa1 := (blk_cell X16.out 1).trans (show _ = some (.slice S1 x.2.1.length s1) from rfl)
          have xa2 := (blk_cell X16.out 2).trans (show _ = some (.int .i64 x.2.2.1) from rfl)
          have xa3 := (blk_cell X16.out 3).trans (show _ = some (.slice S3 x.2.2.2.length s3) from rfl)
          have ya0 := (blk_cell Y16.out 0).trans (show _ = some (.slice T0 x.1.length t0) from rfl)
          have ya1 := (blk_cell Y16.out 1).trans (show _ = some (.slice T1 x.2.1.length t1) from rfl)
          have ya2 := (blk_cell Y16.out 2).trans (show _ = some (.int .i64 x.2.2.1) from rfl)
          have ya3 := (blk_cell Y16.out 3).trans (show _ = some (.slice T3 x.2.2.2.length t3) from rfl)
          clear k16 HS15 B15 X15 Y15 Q15 V15 W15 R15 U15 M15 Z15 G15 za0 za1 za2 za3 ga0 ga1 ga2 ga3
          go_wp2_with (go_at_call 11; refine HS16.out.mono ?_)
          first | rintro e w17 rfl k17 | rintro e w17 ⟨rfl, k17⟩
          have B17 := Aside0.mk (below_then B16.out B16.out.size k17)
          have hlf : Calls Tryz.prog 16 #[.slice (some ⟨q, 0, none⟩) bs.length cb, .slice O cs.length oc] w17 fun e w' => e = .returned (.bool true) ∧ Below w17.heap.size w17 w' := by
            have h := left16 q cb NC O oc cs w17 ((k17.block _ (blk_lt Q16.out)).trans Q16.out) NR.out (by rw [HCL.out]; exact NL.out) (by rw [HCL.out]; exact hcb) hcm (R16.out.below k17) (by rw [HCL.out]; omega)
            rw [HCL.out] at h ⊢
            exact h
          have HL17 := Aside0.mk hlf
          clear hlf k17 HS16 B16 X16 Y16 Q16 R16 xa0 xa1 xa2 xa3 ya0 ya1 ya2 ya3
          go_wp2_with (go_at_call 16; refine HL17.out.mono ?_)
          first | rintro e w18 rfl k18 | rintro e w18 ⟨rfl, k18⟩
          have B18 := Aside0.mk (below_then B17.out B17.out.size k18)
          clear k18 HL17 B17
          go_wp2
          go_roundw
          case rel => exact ⟨k + 1, by omega, by go_num, B18⟩
          case measure => simp [intOf]; omega
        have hcp : 0 < cs.length := by omega
        obtain ⟨og, ocap, he, hog, hogl, hoc1⟩ := hon.form hcp
        injection he with he1 he2 he3
        clear he2 he3
        subst he1
        obtain ⟨hNR, hNL⟩ := copied_row (cells := cells) (cs := cs) (by omega)
        clear hcl hon
        go_wp2_with (with_reducible refine wpList_copy_own rfl _ _ 30 30 rfl 5 Tryz.underlying30 (by kernel_rfl) q 0 bs.length cb ⟨og, 0, none⟩ _ oc rfl rfl cells 5 Q10.out (nums .u8 cs) (by rw [nums_length, HCL.out]; exact (Nat.min_self _).symm) hoc1 (by rw [nums_length, HCL.out]; omega) (one_nums cs) ?_)
        obtain ⟨NC, hNC⟩ : ∃ NC, NC = (nums .u8 cs ++ cells.toList.drop (nums .u8 cs).length).toArray := ⟨_, rfl⟩
        rw [← hNC] at hNR hNL ⊢
        obtain ⟨w11, hw11⟩ : ∃ w11, w11 = w10.setRow q NC := ⟨_, rfl⟩
        have Q11 := Aside0.mk (setRow_at (cs := NC) Q10.out)
        have B11 := Aside0.mk (below_setRow B10.out (show w.heap.size ≤ q by omega) NC)
        have V11 := Aside0.mk (V10.out.row (show q ≤ w3.heap.size by omega) NC)
        have W11 := Aside0.mk (W10.out.row (show q ≤ _ by simp; omega) NC)
        have X11 := Aside0.mk ((setRow_other w10 q _ NC (show w4.heap.size ≠ q by omega)).trans X10.out)
        have Y11 := Aside0.mk ((setRow_other w10 q _ NC (show w6.heap.size ≠ q by simp at hs6; omega)).trans Y10.out)
        have O11 := Aside0.mk (HO'.out.row hq10 NC)
        rw [← hw11] at Q11 B11 V11 W11 X11 Y11 O11 ⊢
        have NR := Aside0.mk hNR
        have NL : Aside0 (NC[bs.length]? = some (.int .u8 165)) := ⟨by rw [← HCL.out, hNL, HCL.out]; exact QL.out⟩
        clear hNC hw11 hNR hNL Q10 B10 V10 W10 X10 Y10 HO HO' QC QR QL hoc1
        have R11 := (Ob.rdG O11.out HCY.out).2.1
        have hoc := (Ob.rdG O11.out HCY.out).2.2
        obtain ⟨x2, hx2⟩ : ∃ x2, x2 = gotS (readD cs) := ⟨_, rfl⟩
        obtain ⟨pl2, hpl2⟩ : ∃ pl2, pl2 = placeOf (readD cs) := ⟨_, rfl⟩
        obtain ⟨cd2, hcd2⟩ : ∃ cd2, cd2 = codeOf (readD cs) := ⟨_, rfl⟩
        have hp := readSpec14D q cb cs _ rfl w11 ⟨NC, Q11.out, NR.out⟩ ⟨by rw [HCL.out]; omega, hcm⟩ (by rw [HCL.out]; exact hcb) HCY.out (tab_below HT.out hw0 B11.out)
        rw [← hx2, ← hpl2, ← hcd2, HCL.out] at hp
        have HP3 := Aside0.mk hp
        have R11 := Aside0.mk R11
        have hq11 : q < w11.heap.size := blk_lt Q11.out
        have hx11 := blk_lt X11.out
        have hy11 := blk_lt Y11.out
        clear hp
        refine HP3.out.mono ?_
        rintro e w12 ⟨v, rfl, ⟨U0, u0', U1, u1', U3, u3', rfl, huk, F0, F1, F3⟩, k12⟩
        have B12 := below_then B11.out B11.out.size k12
        have hA13 := below_alloc (Below.refl _ w12) (.cells #[.slice U0 x2.1.length u0', .slice U1 x2.2.1.length u1', .int .i64 x2.2.2.1, .slice U3 x2.2.2.2.length u3'] 28)
        have B13 := Aside0.mk (below_then B12 B12.size hA13)
        have U13 := Aside0.mk (Sv.below (⟨F0, F1, F3⟩ : Sv w11.heap.size x2 U0 U1 U3 u0' u1' u3' w12) hA13)
        have Z13 := Aside0.mk (blk_new w12 (.cells #[.slice U0 x2.1.length u0', .slice U1 x2.2.1.length u1', .int .i64 x2.2.2.1, .slice U3 x2.2.2.2.length u3'] 28))
        have V13 := Aside0.mk ((V11.out.below k12).below hA13)
        have W13 := Aside0.mk ((W11.out.below k12).below hA13)
        have X13 := Aside0.mk ((hA13.block _ (Nat.lt_of_lt_of_le hx11 k12.size)).trans ((k12.block _ hx11).trans X11.out))
        have Y13 := Aside0.mk ((hA13.block _ (Nat.lt_of_lt_of_le hy11 k12.size)).trans ((k12.block _ hy11).trans Y11.out))
        have R13 := Aside0.mk ((R11.out.below k12).below hA13)
        have Q13 := Aside0.mk ((hA13.block _ (Nat.lt_of_lt_of_le hq11 k12.size)).trans ((k12.block _ hq11).trans Q11.out))
        have hp := readSpec15 (some ⟨og, 0, none⟩) oc cs _ rfl (w12.alloc (.cells #[.slice U0 x2.1.length u0', .slice U1 x2.2.1.length u1', .int .i64 x2.2.2.1, .slice U3 x2.2.2.2.length u3'] 28)) R13.out.row R13.out.nl ⟨R13.out.cap, hoc⟩ R13.out.byt
        rw [← hx2, ← hpl2, ← hcd2] at hp
        have HP4 := Aside0.mk hp
        clear hp k12 hA13 B12 F0 F1 F3 HP3 hx2 hpl2 hcd2 B11 V11 W11 X11 Y11 Q11 O11 R11
        go_wp2_with (go_at_call 15; refine HP4.out.mono ?_)
        rintro e w14 ⟨v, rfl, ⟨M0, m0', M1, m1', M3, m3', rfl, hmk, F0, F1, F3⟩, k14⟩
        have B14 := below_then B13.out B13.out.size k14
        have hA15 := below_alloc (Below.refl _ w14) (.cells #[.slice M0 x2.1.length m0', .slice M1 x2.2.1.length m1', .int .i64 x2.2.2.1, .slice M3 x2.2.2.2.length m3'] 28)
        have B15 := Aside0.mk (below_then B14 B14.size hA15)
        have U15 := Aside0.mk ((U13.out.below k14).below hA15)
        have M15 := Aside0.mk (Sv.below (⟨F0, F1, F3⟩ : Sv _ x2 M0 M1 M3 m0' m1' m3' w14) hA15)
        have st15 : ∀ {k : Nat} {o : Obj}, (w12.alloc (.cells #[.slice U0 x2.1.length u0', .slice U1 x2.2.1.length u1', .int .i64 x2.2.2.1, .slice U3 x2.2.2.2.length u3'] 28)).heap[k]? = some o → (w14.alloc (.cells #[.slice M0 x2.1.length m0', .slice M1 x2.2.1.length m1', .int .i64 x2.2.2.1, .slice M3 x2.2.2.2.length m3'] 28)).heap[k]? = some o := fun h => (hA15.block _ (Nat.lt_of_lt_of_le (blk_lt h) k14.size)).trans ((k14.block _ (blk_lt h)).trans h)
        have Z15 := Aside0.mk (st15 Z13.out)
        have X15 := Aside0.mk (st15 X13.out)
        have Y15 := Aside0.mk (st15 Y13.out)
        have Q15 := Aside0.mk (st15 Q13.out)
        have G15 := Aside0.mk (blk_new w14 (.cells #[.slice M0 x2.1.length m0', .slice M1 x2.2.1.length m1', .int .i64 x2.2.2.1, .slice M3 x2.2.2.2.length m3'] 28))
        have V15 := Aside0.mk ((V13.out.below k14).below hA15)
        have W15 := Aside0.mk ((W13.out.below k14).below hA15)
        have R15 := Aside0.mk ((R13.out.below k14).below hA15)
        have HS15 := Aside0.mk (same11 U15.out M15.out)
        have za0 := (blk_cell Z15.out 0).trans (show _ = some (.slice U0 x2.1.length u0') from rfl)
        have za1 := (blk_cell Z15.out 1).trans (show _ = some (.slice U1 x2.2.1.length u1') from rfl)
        have za2 := (blk_cell Z15.out 2).trans (show _ = some (.int .i64 x2.2.2.1) from rfl)
        have za3 := (blk_cell Z15.out 3).trans (show _ = some (.slice U3 x2.2.2.2.length u3') from rfl)
        have ga0 := (blk_cell G15.out 0).trans (show _ = some (.slice M0 x2.1.length m0') from rfl)
        have ga1 := (blk_cell G15.out 1).trans (show _ = some (.slice M1 x2.2.1.length m1') from rfl)
        have ga2 := (blk_cell G15.out 2).trans (show _ = some (.int .i64 x2.2.2.1) from rfl)
        have ga3 := (blk_cell G15.out 3).trans (show _ = some (.slice M3 x2.2.2.2.length m3') from rfl)
        clear k14 hA15 B14 F0 F1 F3 HP4 B13 U13 Z13 X13 Y13 Q13 V13 W13 R13 st15
        go_wp2_with (go_at_call 11; refine HS15.out.mono ?_)
        first | rintro e w16 rfl k16 | rintro e w16 ⟨rfl, k16⟩
        have B16 := Aside0.mk (below_then B15.out B15.out.size k16)
        have X16 := Aside0.mk ((k16.block _ (blk_lt X15.out)).trans X15.out)
        have Y16 := Aside0.mk ((k16.block _ (blk_lt Y15.out)).trans Y15.out)
        have Q16 := Aside0.mk ((k16.block _ (blk_lt Q15.out)).trans Q15.out)
        have R16 := Aside0.mk (R15.out.below k16)
        have HS16 := Aside0.mk (same11 (V15.out.below k16) (W15.out.below k16))
        have xa0 := (blk_cell X16.out 0).trans (show _ = some (.slice S0 x.1.length s0) from rfl)
        have xa1 := (blk_cell X16.out 1).trans (show _ = some (.slice S1 x.2.1.length s1) from rfl)
        have xa2 := (blk_cell X16.out 2).trans (show _ = some (.int .i64 x.2.2.1) from rfl)
        have xa3 := (blk_cell X16.out 3).trans (show _ = some (.slice S3 x.2.2.2.length s3) from rfl)
        have ya0 := (blk_cell Y16.out 0).trans (show _ = some (.slice T0 x.1.length t0) from rfl)
        have ya1 := (blk_cell Y16.out 1).trans (show _ = some (.slice T1 x.2.1.length t1) from rfl)
        have ya2 := (blk_cell Y16.out 2).trans (show _ = some (.int .i64 x.2.2.1) from rfl)
        have ya3 := (blk_cell Y16.out 3).trans (show _ = some (.slice T3 x.2.2.2.length t3) from rfl)
        clear k16 HS15 B15 X15 Y15 Q15 V15 W15 R15 U15 M15 Z15 G15 za0 za1 za2 za3 ga0 ga1 ga2 ga3
        go_wp2_with (go_at_call 11; refine HS16.out.mono ?_)
        first | rintro e w17 rfl k17 | rintro e w17 ⟨rfl, k17⟩
        have B17 := Aside0.mk (below_then B16.out B16.out.size k17)
        have hlf : Calls Tryz.prog 16 #[.slice (some ⟨q, 0, none⟩) bs.length cb, .slice (some ⟨og, 0, none⟩) cs.length oc] w17 fun e w' => e = .returned (.bool true) ∧ Below w17.heap.size w17 w' := by
          have h := left16 q cb NC (some ⟨og, 0, none⟩) oc cs w17 ((k17.block _ (blk_lt Q16.out)).trans Q16.out) NR.out (by rw [HCL.out]; exact NL.out) (by rw [HCL.out]; exact hcb) hcm (R16.out.below k17) (by rw [HCL.out]; omega)
          rw [HCL.out] at h ⊢
          exact h
        have HL17 := Aside0.mk hlf
        clear hlf k17 HS16 B16 X16 Y16 Q16 R16 xa0 xa1 xa2 xa3 ya0 ya1 ya2 ya3
        go_wp2_with (go_at_call 16; refine HL17.out.mono ?_)
        first | rintro e w18 rfl k18 | rintro e w18 ⟨rfl, k18⟩
        have B18 := Aside0.mk (below_then B17.out B17.out.size k18)
        clear k18 HL17 B17
        go_wp2
        go_roundw
        case rel => exact ⟨k + 1, by omega, by go_num, B18⟩
        case measure => simp [intOf]; omega
    · obtain rfl : k = n := by omega
      go_wp2
      go_ret
      exact ⟨rfl, hBR.out⟩
end Go.Proofs.YtpnkifincadakaaGreatDoor.Wr
end
