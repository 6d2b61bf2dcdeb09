/- Proved: part 19 of the proof of PackSpecs (Rt, Rs2). Conditions: each theorem states its own. -/
import Derived.ArgAppend
import Derived.Deep.AppendLies
import Derived.Lib.SlBytesConst
import Derived.Test.YtpnkifincadakaaGreatDoorQ15
import Derived.Test.YtpnkifincadakaaGreatDoorQ18
set_option linter.unusedVariables false
set_option linter.unusedSimpArgs false
section
namespace Go.Proofs.YtpnkifincadakaaGreatDoor.Wr
open Go.RowKit Go.Pk Go.Proofs.YtpnkifincadakaaGreatDoorW.PrintWords Go.Proofs.YtpnkifincadakaaGreatDoor.PPackSpecs
set_option maxHeartbeats 16000000 in
set_option maxRecDepth 100000 in
theorem right_any (lex : List S42) (names : List ByteArray) (start : Int) (prods : List S67) (A0 A1 A3 : Option Addr) (c0 c1 c3 : Nat) (w : World)
    (h0 : Kd.C k42 w A0 lex.length lex) (h1 : Kd.C Kd.string w A1 names.length names) (h3 : Kd.C k67 w A3 prods.length prods) :
    Calls Tryz.prog 24 #[.agg #[.slice A0 lex.length c0, .slice A1 names.length c1, .int .i64 start, .slice A3 prods.length c3]] w fun e w' => e = .returned (.int .i64 (specErr lex names start prods)) ∧ Below w.heap.size w w' := by
  have hm0 := Kd.C_max h0
  have hm1 := Kd.C_max h1
  have hm3 := Kd.C_max h3
  have H0 := Aside0.mk h0
  have H1 := Aside0.mk h1
  have H3 := Aside0.mk h3
  clear h0 h1 h3
  have hbx := Box.start w #[.slice A0 lex.length c0, .slice A1 names.length c1, .int .i64 start, .slice A3 prods.length c3] 28
  have HB := Aside0.mk hbx
  clear hbx
  by_cases g0 : 64 < lex.length
  · have HE : Hid (specErr lex names start prods = 2) := Lib.hid (by unfold specErr; rw [if_pos (by omega)])
    rw [HE.out]
    go_enter Tryz.func24, Tryz.ntmps24
    go_wp2
    go_ret
    exact ⟨rfl, HB.out.1⟩
  by_cases g1 : 128 < names.length
  · have HE : Hid (specErr lex names start prods = 2) := Lib.hid (by unfold specErr; rw [if_pos (by omega)])
    rw [HE.out]
    go_enter Tryz.func24, Tryz.ntmps24
    go_wp2
    go_ret
    exact ⟨rfl, HB.out.1⟩
  by_cases g3 : 512 < prods.length
  · have HE : Hid (specErr lex names start prods = 2) := Lib.hid (by unfold specErr; rw [if_pos (by omega)])
    rw [HE.out]
    go_enter Tryz.func24, Tryz.ntmps24
    go_wp2
    go_ret
    exact ⟨rfl, HB.out.1⟩
  obtain ⟨r, hrr⟩ : ∃ r, r = specErr lex names start prods := ⟨_, rfl⟩
  rw [← hrr]
  have hspec : r = if rightLong prods = true then 2 else if lexErr lex = 0 then if nameLong names = true then 2 else if start < 0 ∨ (names.length : Int) ≤ start then 70 else if (prods.any (prodBad lex.length names.length)) = true then 70 else 0 else lexErr lex := by rw [hrr]; unfold specErr; rw [if_neg (by omega)]
  have KA := Lib.hid (show rightLong prods = true → r = 2 from fun h => by rw [hspec, if_pos h])
  have KB := Lib.hid (show rightLong prods = false → lexErr lex ≠ 0 → r = lexErr lex from fun h h' => by rw [hspec, if_neg (by rw [h]; simp), if_neg h'])
  have KC := Lib.hid (show rightLong prods = false → lexErr lex = 0 → nameLong names = true → r = 2 from fun h h' h2 => by rw [hspec, if_neg (by rw [h]; simp), if_pos h', if_pos h2])
  have KD := Lib.hid (show rightLong prods = false → lexErr lex = 0 → nameLong names = false → (start < 0 ∨ (names.length : Int) ≤ start) → r = 70 from fun h h' h2 h3 => by rw [hspec, if_neg (by rw [h]; simp), if_pos h', if_neg (by rw [h2]; simp), if_pos h3])
  have KE := Lib.hid (show rightLong prods = false → lexErr lex = 0 → nameLong names = false → ¬ (start < 0 ∨ (names.length : Int) ≤ start) → prods.any (prodBad lex.length names.length) = true → r = 70 from fun h h' h2 h3 h4 => by rw [hspec, if_neg (by rw [h]; simp), if_pos h', if_neg (by rw [h2]; simp), if_neg h3, if_pos h4])
  have KF := Lib.hid (show rightLong prods = false → lexErr lex = 0 → nameLong names = false → ¬ (start < 0 ∨ (names.length : Int) ≤ start) → prods.any (prodBad lex.length names.length) = false → r = 0 from fun h h' h2 h3 h4 => by rw [hspec, if_neg (by rw [h]; simp), if_pos h', if_neg (by rw [h2]; simp), if_neg h3, if_neg (by rw [h4]; simp)])
  clear hspec hrr
  have b0 : decide ((64 : Int) < (lex.length : Int)) = false := decide_eq_false (by omega)
  have b1 : decide ((128 : Int) < (names.length : Int)) = false := decide_eq_false (by omega)
  have b3 : decide ((512 : Int) < (prods.length : Int)) = false := decide_eq_false (by omega)
  go_enter Tryz.func24, Tryz.ntmps24
  go_wp2
  go_loopw [33] (fun i wr => ∃ k : Nat, k ≤ prods.length ∧ i = .int .i64 k ∧ Aside0 (Box w w.heap.size #[.slice A0 lex.length c0, .slice A1 names.length c1, .int .i64 start, .slice A3 prods.length c3] 28 wr) ∧ Aside0 (rightLong (prods.drop k) = rightLong prods)) (fun i _ => prods.length - (intOf i).toNat)
  case atStart => exact ⟨0, Nat.zero_le _, rfl, HB, ⟨rfl⟩⟩
  case round =>
    obtain ⟨k, hk, rfl, hX, hI⟩ := hrel
    by_cases hlt : k < prods.length
    · obtain ⟨ad, cs, rfl, hK, hc0, hc1⟩ := C_at (Kd.C_below H3.out hX.out.1) k hlt
      obtain ⟨A1', c1', rfl, l1, g1⟩ := k67_open hK
      have d0 : wr.cell? (ad.add (k * 2)) = some (.int .i64 prods[k].f0) := hc0 _ rfl
      have d1 : wr.cell? ⟨(ad.add (k * 2)).block, (ad.add (k * 2)).off + 1, none⟩ = some (.slice A1' prods[k].f1.length c1') := hc1 1 _ (by decide) rfl
      have HD : Hid (rightLong (prods.drop k) = (decide (16 < prods[k].f1.length) || rightLong (prods.drop (k + 1)))) := Lib.hid (any_drop _ hlt)
      have hmx := Kd.C_max g1
      clear hK hc0 hc1 g1
      generalize prods[k] = x at *
      by_cases h16 : 16 < x.f1.length
      · have HR : Hid (r = 2) := Lib.hid (KA.out (by rw [← hI.out, HD.out, decide_eq_true h16]; rfl))
        go_wp2
        go_ret
        exact ⟨ret_of HR.out, (hX.out.alloc _).1⟩
      · have HN : Hid (rightLong (prods.drop (k + 1)) = rightLong prods) := Lib.hid (by rw [← hI.out, HD.out, decide_eq_false h16]; rfl)
        have bx : decide ((16 : Int) < (x.f1.length : Int)) = false := decide_eq_false (by omega)
        go_wp2
        go_roundw
        case rel => exact ⟨k + 1, by omega, by go_num, ⟨hX.out.alloc _⟩, ⟨HN.out⟩⟩
        case measure => simp [intOf]; omega
    · obtain rfl : k = prods.length := by omega
      have HA : Hid (rightLong prods = false) := Lib.hid (by rw [← hI.out, List.drop_length]; rfl)
      clear hI KA
      have p0 : wr.cell? ⟨w.heap.size, 0, none⟩ = some (.slice A0 lex.length c0) := (hX.out.cell 0).trans rfl
      go_wp2
      obtain ⟨w1, rfl⟩ : ∃ w1 : World, w1 = wr := ⟨_, rfl⟩
      go_loopw [45] (fun i wr => ∃ k : Nat, k ≤ lex.length ∧ i = .int .i64 k ∧ Aside0 (Box w w.heap.size #[.slice A0 lex.length c0, .slice A1 names.length c1, .int .i64 start, .slice A3 prods.length c3] 28 wr) ∧ Aside0 (lexErr (lex.drop k) = lexErr lex)) (fun i _ => lex.length - (intOf i).toNat)
      case atStart => exact ⟨0, Nat.zero_le _, rfl, hX, ⟨rfl⟩⟩
      case round =>
        obtain ⟨k, hk, rfl, hX, hI⟩ := hrel
        by_cases hlt : k < lex.length
        · obtain ⟨ad, cs, rfl, hK, hc0, hc1⟩ := C_at (Kd.C_below H0.out hX.out.1) k hlt
          obtain ⟨A7, c7, rfl, l7, g7⟩ := k42_open hK
          have d0 : wr.cell? (ad.add (k * 8)) = some (.string lex[k].f0) := hc0 _ rfl
          have d1 : wr.cell? ⟨(ad.add (k * 8)).block, (ad.add (k * 8)).off + 1, none⟩ = some (.bool lex[k].f1) := hc1 1 _ (by decide) rfl
          have d2 : wr.cell? ⟨(ad.add (k * 8)).block, (ad.add (k * 8)).off + 2, none⟩ = some (.int .i64 lex[k].f2.f0) := hc1 2 _ (by decide) rfl
          have d3 : wr.cell? ⟨(ad.add (k * 8)).block, (ad.add (k * 8)).off + 3, none⟩ = some (.int .i64 lex[k].f2.f1) := hc1 3 _ (by decide) rfl
          have d4 : wr.cell? ⟨(ad.add (k * 8)).block, (ad.add (k * 8)).off + 4, none⟩ = some (.int .i64 lex[k].f2.f2) := hc1 4 _ (by decide) rfl
          have d5 : wr.cell? ⟨(ad.add (k * 8)).block, (ad.add (k * 8)).off + 5, none⟩ = some (.int .i64 lex[k].f2.f3) := hc1 5 _ (by decide) rfl
          have d6 : wr.cell? ⟨(ad.add (k * 8)).block, (ad.add (k * 8)).off + 6, none⟩ = some (.int .i64 lex[k].f2.f4) := hc1 6 _ (by decide) rfl
          have d7 : wr.cell? ⟨(ad.add (k * 8)).block, (ad.add (k * 8)).off + 7, none⟩ = some (.slice A7 lex[k].f2.f5.length c7) := hc1 7 _ (by decide) rfl
          have HD : Hid (lexErr (lex.drop k) = if 64 < lex[k].f0.size then 2 else if chk lex[k].f2 = 0 then lexErr (lex.drop (k + 1)) else chk lex[k].f2) := Lib.hid (lexErr_drop hlt)
          have G7 := Aside0.mk g7
          clear hK hc0 hc1 g7
          generalize lex[k] = x at *
          by_cases h64 : 64 < x.f0.size
          · have HR : Hid (r = 2) := Lib.hid (by
              have e : lexErr lex = 2 := by rw [← hI.out, HD.out, if_pos h64]
              rw [KB.out HA.out (by rw [e]; decide), e])
            go_wp2
            go_ret
            exact ⟨ret_of HR.out, (hX.out.alloc _).1⟩
          · have bx : decide ((64 : Int) < (x.f0.size : Int)) = false := decide_eq_false (by omega)
            go_wp2_with (go_at_call 75; refine (check75 x.f2 A7 c7 _ (Kd.C_alloc G7.out _) l7).mono ?_)
            rintro e w2 ⟨rfl, k2⟩
            have hX2 := Aside0.mk ((hX.out.alloc _).then k2)
            clear k2
            by_cases hc : chk x.f2 = 0
            · have HN : Hid (lexErr (lex.drop (k + 1)) = lexErr lex) := Lib.hid (by rw [← hI.out, HD.out, if_neg h64, if_pos hc])
              rw [hc]
              go_wp2
              go_roundw
              case rel => exact ⟨k + 1, by omega, by go_num, hX2, ⟨HN.out⟩⟩
              case measure => simp [intOf]; omega
            · have HR : Hid (r = chk x.f2) := Lib.hid (by
                have e : lexErr lex = chk x.f2 := by rw [← hI.out, HD.out, if_neg h64, if_neg hc]
                rw [KB.out HA.out (by rw [e]; exact hc), e])
              have bc : (chk x.f2 == 0) = false := by simpa using hc
              have bc1 : (chk x.f2 != 0) = true := by simpa using hc
              clear hc
              generalize chk x.f2 = q at *
              go_wp2
              go_ret
              exact ⟨ret_of HR.out, hX2.out.1⟩
        · obtain rfl : k = lex.length := by omega
          have HL : Hid (lexErr lex = 0) := Lib.hid (by rw [← hI.out, List.drop_length]; rfl)
          clear hI KB
          have p1 : wr.cell? ⟨w.heap.size, 1, none⟩ = some (.slice A1 names.length c1) := (hX.out.cell 1).trans rfl
          go_wp2
          obtain ⟨w2, rfl⟩ : ∃ w2 : World, w2 = wr := ⟨_, rfl⟩
          go_loopw [63] (fun i wr => ∃ k : Nat, k ≤ names.length ∧ i = .int .i64 k ∧ Aside0 (Box w w.heap.size #[.slice A0 lex.length c0, .slice A1 names.length c1, .int .i64 start, .slice A3 prods.length c3] 28 wr) ∧ Aside0 (nameLong (names.drop k) = nameLong names)) (fun i _ => names.length - (intOf i).toNat)
          case atStart => exact ⟨0, Nat.zero_le _, rfl, hX, ⟨rfl⟩⟩
          case round =>
            obtain ⟨k, hk, rfl, hX, hI⟩ := hrel
            by_cases hlt : k < names.length
            · obtain ⟨ad, cs, rfl, hK, hc0, hc1⟩ := C_at (Kd.C_below H1.out hX.out.1) k hlt
              obtain rfl : cs = [.string names[k]] := hK
              have d0 : wr.cell? (ad.add k) = some (.string names[k]) := by have := hc0 _ rfl; rwa [show Kd.string.sz = 1 from rfl, Nat.mul_one] at this
              have HD : Hid (nameLong (names.drop k) = (decide (64 < names[k].size) || nameLong (names.drop (k + 1)))) := Lib.hid (any_drop _ hlt)
              clear hc0 hc1
              generalize names[k] = x at *
              by_cases h64 : 64 < x.size
              · have HR : Hid (r = 2) := Lib.hid (KC.out HA.out HL.out (by rw [← hI.out, HD.out, decide_eq_true h64]; rfl))
                go_wp2
                go_ret
                exact ⟨ret_of HR.out, hX.out.1⟩
              · have HN : Hid (nameLong (names.drop (k + 1)) = nameLong names) := Lib.hid (by rw [← hI.out, HD.out, decide_eq_false h64]; rfl)
                have bx : decide ((64 : Int) < (x.size : Int)) = false := decide_eq_false (by omega)
                go_wp2
                go_roundw
                case rel => exact ⟨k + 1, by omega, by go_num, hX, ⟨HN.out⟩⟩
                case measure => simp [intOf]; omega
            · obtain rfl : k = names.length := by omega
              have HM : Hid (nameLong names = false) := Lib.hid (by rw [← hI.out, List.drop_length]; rfl)
              clear hI KC
              have q1 : wr.cell? ⟨w.heap.size, 1, none⟩ = some (.slice A1 names.length c1) := (hX.out.cell 1).trans rfl
              have q2 : wr.cell? ⟨w.heap.size, 2, none⟩ = some (.int .i64 start) := (hX.out.cell 2).trans rfl
              have q3 : wr.cell? ⟨w.heap.size, 3, none⟩ = some (.slice A3 prods.length c3) := (hX.out.cell 3).trans rfl
              by_cases gs : start < 0
              · have HR : Hid (r = 70) := Lib.hid (KD.out HA.out HL.out HM.out (.inl gs))
                go_wp2
                go_ret
                exact ⟨ret_of HR.out, hX.out.1⟩
              by_cases gt : (names.length : Int) ≤ start
              · have HR : Hid (r = 70) := Lib.hid (KD.out HA.out HL.out HM.out (.inr gt))
                go_wp2
                go_ret
                exact ⟨ret_of HR.out, hX.out.1⟩
              have HG : Hid (¬ (start < 0 ∨ (names.length : Int) ≤ start)) := Lib.hid (by omega)
              have bs0 : decide (start < 0) = false := decide_eq_false gs
              have bs1 : decide ((names.length : Int) ≤ start) = false := decide_eq_false gt
              go_wp2
              obtain ⟨w3, rfl⟩ : ∃ w3 : World, w3 = wr := ⟨_, rfl⟩
              go_loopw [85] (fun i wr => ∃ k : Nat, k ≤ prods.length ∧ i = .int .i64 k ∧ Aside0 (Box w w.heap.size #[.slice A0 lex.length c0, .slice A1 names.length c1, .int .i64 start, .slice A3 prods.length c3] 28 wr) ∧ Aside0 ((prods.drop k).any (prodBad lex.length names.length) = prods.any (prodBad lex.length names.length))) (fun i _ => prods.length - (intOf i).toNat)
              case atStart => exact ⟨0, Nat.zero_le _, rfl, hX, ⟨rfl⟩⟩
              case round =>
                obtain ⟨k, hk, rfl, hX, hI⟩ := hrel
                by_cases hlt : k < prods.length
                · obtain ⟨ad, cs, rfl, hK, hc0, hc1⟩ := C_at (Kd.C_below H3.out hX.out.1) k hlt
                  obtain ⟨A1', c1', rfl, l1, g1⟩ := k67_open hK
                  have d0 : wr.cell? (ad.add (k * 2)) = some (.int .i64 prods[k].f0) := hc0 _ rfl
                  have d1 : wr.cell? ⟨(ad.add (k * 2)).block, (ad.add (k * 2)).off + 1, none⟩ = some (.slice A1' prods[k].f1.length c1') := hc1 1 _ (by decide) rfl
                  have HD : Hid ((prods.drop k).any (prodBad lex.length names.length) = (prodBad lex.length names.length prods[k] || (prods.drop (k + 1)).any (prodBad lex.length names.length))) := Lib.hid (any_drop _ hlt)
                  have hmx := Kd.C_max g1
                  have G1 := Aside0.mk g1
                  clear hK hc0 hc1 g1
                  generalize prods[k] = x at *
                  have hq1 : (wr.alloc (.cells #[.int .i64 x.f0, .slice A1' x.f1.length c1'] 67)).cell? ⟨w.heap.size, 1, none⟩ = some (.slice A1 names.length c1) := ((hX.out.alloc _).cell 1).trans rfl
                  by_cases gl : x.f0 < 0
                  · have HR : Hid (r = 70) := Lib.hid (KE.out HA.out HL.out HM.out HG.out (by
                      rw [← hI.out, HD.out]; unfold prodBad; rw [decide_eq_true (Or.inl gl)]; rfl))
                    go_wp2
                    go_ret
                    exact ⟨ret_of HR.out, (hX.out.alloc _).1⟩
                  by_cases gr : (names.length : Int) ≤ x.f0
                  · have HR : Hid (r = 70) := Lib.hid (KE.out HA.out HL.out HM.out HG.out (by
                      rw [← hI.out, HD.out]; unfold prodBad; rw [decide_eq_true (Or.inr gr)]; rfl))
                    go_wp2
                    go_ret
                    exact ⟨ret_of HR.out, (hX.out.alloc _).1⟩
                  have HP : Hid (prodBad lex.length names.length x = x.f1.any fun y => !symOk y lex.length names.length) := Lib.hid (by unfold prodBad; rw [decide_eq_false (by omega)]; rfl)
                  have bl0 : decide (x.f0 < 0) = false := decide_eq_false gl
                  have bl1 : decide ((names.length : Int) ≤ x.f0) = false := decide_eq_false gr
                  have hin := Box.start wr #[.int .i64 x.f0, .slice A1' x.f1.length c1'] 67
                  have HIN := Aside0.mk hin
                  have HX2 := Aside0.mk (hX.out.alloc (.cells #[.int .i64 x.f0, .slice A1' x.f1.length c1'] 67))
                  clear hin
                  go_wp2
                  obtain ⟨w4, rfl⟩ : ∃ w4 : World, w4 = wr := ⟨_, rfl⟩
                  go_loopw [103] (fun i wr => ∃ m : Nat, m ≤ x.f1.length ∧ i = .int .i64 m ∧ Aside0 (Box w w.heap.size #[.slice A0 lex.length c0, .slice A1 names.length c1, .int .i64 start, .slice (some ad) prods.length c3] 28 wr) ∧ Aside0 (Box w4 w4.heap.size #[.int .i64 x.f0, .slice A1' x.f1.length c1'] 67 wr) ∧ Aside0 ((x.f1.drop m).any (fun y => !symOk y lex.length names.length) = x.f1.any fun y => !symOk y lex.length names.length)) (fun i _ => x.f1.length - (intOf i).toNat)
                  case atStart => exact ⟨0, Nat.zero_le _, rfl, HX2, HIN, ⟨rfl⟩⟩
                  case round =>
                    obtain ⟨m, hm, rfl, hY, hZ, hJ⟩ := hrel
                    by_cases hlt2 : m < x.f1.length
                    · obtain ⟨ad2, cs2, rfl, hK2, hc02, hc12⟩ := C_at (Kd.C_below G1.out hZ.out.1) m hlt2
                      obtain rfl := k85_open hK2
                      have d20 : wr.cell? (ad2.add (m * 2)) = some (.int .i64 x.f1[m].f0) := hc02 _ rfl
                      have d21 : wr.cell? ⟨(ad2.add (m * 2)).block, (ad2.add (m * 2)).off + 1, none⟩ = some (.int .i64 x.f1[m].f1) := hc12 1 _ (by decide) rfl
                      have HD2 : Hid ((x.f1.drop m).any (fun y => !symOk y lex.length names.length) = (!symOk x.f1[m] lex.length names.length || (x.f1.drop (m + 1)).any fun y => !symOk y lex.length names.length)) := Lib.hid (any_drop _ hlt2)
                      clear hK2 hc02 hc12
                      generalize x.f1[m] = y at *
                      have e0 : (wr.alloc (.cells #[.int .i64 y.f0, .int .i64 y.f1] 85)).cell? ⟨w.heap.size, 0, none⟩ = some (.slice A0 lex.length c0) := ((hY.out.alloc _).cell 0).trans rfl
                      have e1 : (wr.alloc (.cells #[.int .i64 y.f0, .int .i64 y.f1] 85)).cell? ⟨w.heap.size, 1, none⟩ = some (.slice A1 names.length c1) := ((hY.out.alloc _).cell 1).trans rfl
                      have HS := Aside0.mk (symbol76 y lex.length names.length (wr.alloc (.cells #[.int .i64 y.f0, .int .i64 y.f1] 85)) hm0 hm1)
                      cases hs : symOk y lex.length names.length
                      · have HR : Hid (r = 70) := Lib.hid (KE.out HA.out HL.out HM.out HG.out (by rw [← hI.out, HD.out, HP.out, ← hJ.out, HD2.out, hs]; rfl))
                        rw [hs] at HS
                        clear hs
                        go_wp2_with (go_at_call 76; refine HS.out.mono ?_)
                        rintro e w5 ⟨rfl, k5⟩
                        have hY5 := (hY.out.alloc _).then k5
                        have HY5 := Aside0.mk hY5.1
                        clear k5 hY5
                        go_wp2
                        go_ret
                        exact ⟨ret_of HR.out, HY5.out⟩
                      · have HN : Hid ((x.f1.drop (m + 1)).any (fun y => !symOk y lex.length names.length) = x.f1.any fun y => !symOk y lex.length names.length) := Lib.hid (by rw [← hJ.out, HD2.out, hs]; rfl)
                        rw [hs] at HS
                        clear hs
                        go_wp2_with (go_at_call 76; refine HS.out.mono ?_)
                        rintro e w5 ⟨rfl, k5⟩
                        have HY5 := Aside0.mk ((hY.out.alloc _).then k5)
                        have HZ5 := Aside0.mk ((hZ.out.alloc _).then k5)
                        clear k5
                        go_wp2
                        go_roundw
                        case rel => exact ⟨m + 1, by omega, by go_num, HY5, HZ5, ⟨HN.out⟩⟩
                        case measure => simp [intOf]; omega
                    · obtain rfl : m = x.f1.length := by omega
                      have HN : Hid ((prods.drop (k + 1)).any (prodBad lex.length names.length) = prods.any (prodBad lex.length names.length)) := Lib.hid (by
                        rw [← hI.out, HD.out, HP.out, ← hJ.out, List.drop_length]; rfl)
                      go_wp2
                      go_roundw
                      case rel => exact ⟨k + 1, by omega, by go_num, hY, ⟨HN.out⟩⟩
                      case measure => simp [intOf]; omega
                · obtain rfl : k = prods.length := by omega
                  have HR : Hid (r = 0) := Lib.hid (KF.out HA.out HL.out HM.out HG.out (by rw [← hI.out, List.drop_length]; rfl))
                  go_wp2
                  go_ret
                  exact ⟨ret_of HR.out, hX.out.1⟩
end Go.Proofs.YtpnkifincadakaaGreatDoor.Wr
end
section
namespace Go.Proofs.YtpnkifincadakaaGreatDoor.Wr
open Go.RowKit Go.Pk Go.Proofs.YtpnkifincadakaaGreatDoorW.PrintWords Go.Proofs.YtpnkifincadakaaGreatDoor.PPackSpecs
structure St (w : World) (cs : Array Value) (n : Nat) (bs : List Int) (a : Option Addr) (c : Nat) (wr : World) : Prop where
  len : n = bs.length
  box : Box w w.heap.size cs 28 wr
  own : wr.ownsRow w.heap.size 5 1 (.slice a n c) n (nums .u8 bs)
theorem Box.at {w wr : World} {b : Nat} {cs : Array Value} {t : TypeId} (h : Box w b cs t wr) (j : Nat) (v : Value) (hv : cs[j]? = some v) : wr.cell? ⟨b, j, none⟩ = some v := (h.cell j).trans hv
theorem St.base {w wr : World} {cs : Array Value} {n : Nat} {bs : List Int} {a : Option Addr} {c : Nat} (h : St w cs n bs a c wr) : w.heap.size ≤ wr.heap.size := Nat.le_of_lt (blk_lt h.box.2)
theorem St.call {w wr w' : World} {cs : Array Value} {n : Nat} {bs : List Int} {a : Option Addr} {c : Nat} (h : St w cs n bs a c wr) (k : Below wr.heap.size wr w') : St w cs n bs a c w' := ⟨h.len, h.box.then k, pw_own_below h.own k⟩
theorem St.alloc {w wr : World} {cs : Array Value} {n : Nat} {bs : List Int} {a : Option Addr} {c : Nat} (h : St w cs n bs a c wr) (o : Obj) : St w cs n bs a c (wr.alloc o) := h.call ((Below.refl _ wr).alloc (Nat.le_refl _) o)
theorem other_block {w : World} {B n : Nat} {v : Value} {xs : List Value} (h : w.ownsRow B 5 1 v n xs) {b : Nat} {cs : Array Value} {t : TypeId} {fr : Nat × Nat} (hb : w.heap[b]? = some (.cells cs t fr)) (ht : t ≠ 5) : some b ≠ v.ownBlock := fun e => by
  obtain ⟨cells, hc⟩ := own_typed h b e.symm
  rw [hb] at hc
  injection hc with hc
  injection hc with _ hc
  exact absurd hc ht
theorem kept_block {w w' : World} {B n : Nat} {v : Value} {xs : List Value} (h : w.ownsRow B 5 1 v n xs) (hg : w.grownBy w' v.ownBlock) {b : Nat} {cs : Array Value} {t : TypeId} {fr : Nat × Nat} (hb : w.heap[b]? = some (.cells cs t fr)) (ht : t ≠ 5) : w'.heap[b]? = some (.cells cs t fr) := by
  rw [hg.block b (blk_lt hb) (other_block h hb ht)]
  exact hb
theorem St.push {w wr w' : World} {cs : Array Value} {n m : Nat} {bs : List Int} {a : Option Addr} {c : Nat} {v : Value} (h : St w cs n bs a c wr) (new : List Int) (hm : m = new.length) (ho : w'.ownsRow w.heap.size 5 1 v (n + m) (nums .u8 bs ++ nums .u8 new)) (hg : wr.grownBy w' (Value.slice a n c).ownBlock) :
    ∃ a' c' q', v = .slice a' (n + m) c' ∧ Hid (q' = bs ++ new) ∧ St w cs (n + m) q' a' c' w' := by
  obtain ⟨a', c', rfl⟩ := own_slice ho
  refine ⟨a', c', _, rfl, Lib.hid rfl, ⟨by rw [h.len, hm, List.length_append], ⟨?_, ?_⟩, by rw [nums_append]; exact ho⟩⟩
  · exact h.box.1.grown hg h.base fun k hk => own_base h.own k hk
  · exact kept_block h.own hg h.box.2 (by decide)
theorem undrew {w w1 : World} {row : Option Nat} (h : w.drew.grownBy w1 row) : w.grownBy w1 row := ⟨h.1, h.2, h.3, h.4, h.5⟩
theorem name35 (s : ByteArray) (w : World) (h : s.size ≤ 64) : Calls Tryz.prog 35 #[.string s] w fun e w' => ∃ v, e = .returned v ∧ Ob w' w.heap.size v (encName s) ∧ Below w.heap.size w w' := by
  refine (graftref18_name.calls s _ w (name_eq s (by omega))).mono ?_
  rintro e w' ⟨v, rfl, h1, h2⟩
  exact ⟨v, rfl, R_nums h1, h2⟩
theorem pattern36 (x : S40) (A : Option Addr) (c : Nat) (w : World) (hr : Kd.C k40 w A x.f5.length x.f5) (hc : x.f5.length ≤ c) (hs : sizeE x ≤ 4096) (hg : rightE x = true) : Calls Tryz.prog 36 #[.agg #[.int .i64 x.f0, .int .i64 x.f1, .int .i64 x.f2, .int .i64 x.f3, .int .i64 x.f4, .slice A x.f5.length c]] w fun e w' => ∃ v, e = .returned v ∧ Ob w' w.heap.size v (encE x) ∧ Below w.heap.size w w' := by
  refine (graftref18_pattern.calls _ x.f0 x.f1 x.f2 x.f3 x.f4 A c x.f5 _ w hr hc ((rpattern_any (sizeE x)).1 x (5 * sizeE x + 1) (Nat.le_refl _) (Nat.le_refl _) hs hg)).mono ?_
  rintro e w' ⟨v, rfl, h1, h2⟩
  exact ⟨v, rfl, R_nums h1, h2⟩
theorem encE_pos (x : S40) : 0 < (encE x).length := by rw [encE_eq, List.length_append]; unfold headE b1; simp only [List.length_append, List.length_cons, List.length_nil]; omega
set_option maxHeartbeats 16000000 in
set_option maxRecDepth 100000 in
theorem rspec_ok (lex : List S42) (names : List ByteArray) (start : Int) (prods : List S67) (A0 A1 A3 : Option Addr) (c0 c1 c3 : Nat) (w : World)
    (h0 : Kd.C k42 w A0 lex.length lex) (h1 : Kd.C Kd.string w A1 names.length names) (h3 : Kd.C k67 w A3 prods.length prods)
    (hnl : ∀ x, x ∈ names → x.size ≤ 64) (hlx : ∀ x, x ∈ lex → x.f0.size ≤ 64 ∧ sizeE x.f2 ≤ 4096 ∧ rightE x.f2 = true) (hlen : (encSpec lex names start prods).length + 4 ≤ 67108864)
    (HR : ∀ w' : World, Below w.heap.size w w' → Calls Tryz.prog 34 #[.agg #[.slice A0 lex.length c0, .slice A1 names.length c1, .int .i64 start, .slice A3 prods.length c3]] w' fun e w'' => e = .returned (.int .i64 0) ∧ Below w'.heap.size w' w'') :
    Calls Tryz.prog 9 #[.agg #[.slice A0 lex.length c0, .slice A1 names.length c1, .int .i64 start, .slice A3 prods.length c3]] w fun e w' => ∃ v, e = .returned (.tuple #[v, .int .i64 0]) ∧
      w'.ownsRow w.heap.size 5 1 v (summed (encSpec lex names start prods)).length (nums .u8 (summed (encSpec lex names start prods))) ∧ Below w.heap.size w w' := by
  obtain ⟨i0, hi, hz0, hz1, hz2⟩ := info_parts infoB
  have hm0 := Kd.C_max h0
  have hm1 := Kd.C_max h1
  have hm3 := Kd.C_max h3
  have H0 := Aside0.mk h0
  have H1 := Aside0.mk h1
  have H3 := Aside0.mk h3
  have HNL := Aside0.mk hnl
  have HLX := Aside0.mk hlx
  clear h0 h1 h3 hnl hlx
  have hbx := Box.start w #[.slice A0 lex.length c0, .slice A1 names.length c1, .int .i64 start, .slice A3 prods.length c3] 28
  have HC := HR _ hbx.1
  clear HR
  have hl : 8 + 1 + (lex.flatMap encRule).length + 1 + (names.flatMap encName).length + 1 + 2 + (prods.flatMap encProd).length + 4 ≤ 67108864 := by
    have := hlen
    unfold encSpec at this
    simp only [List.length_append, List.length_cons, List.length_nil, b2, magic] at this
    omega
  have HL := Lib.hid hlen
  clear hlen
  have hl : 8 + 1 + (lex.flatMap encRule).length + 1 + (names.flatMap encName).length + 1 + 2 + (prods.flatMap encProd).length + 4 ≤ 140737488350000 := by omega
  have cv0 : IntKind.u8.wrap (lex.length : Int) = (lex.length : Int) % 256 := IntKind.wrap_u8' _
  have cv1 : IntKind.u8.wrap (names.length : Int) = (names.length : Int) % 256 := IntKind.wrap_u8' _
  have cv2 : IntKind.u8.wrap start = start % 256 := IntKind.wrap_u8' _
  go_enter Tryz.func9, Tryz.ntmps9
  go_wp2_with (go_at_call 34; refine HC.mono ?_)
  rintro e w1 ⟨rfl, hk1⟩
  have hb1 := hbx.then hk1
  clear hk1 hbx HC
  have kc := fun (w : World) (C : Array Value) (n c : Nat) => Lib.run_convert_bytes_const (P := Tryz.prog) w 30 5 C n c Tryz.underlying30 Tryz.underlying5
  have HB := Aside0.mk (hb1.alloc (.cells (nums .u8 magic).toArray 5))
  obtain ⟨wm, hWm⟩ : ∃ wm, w1.alloc (.cells #[.int .u8 103, .int .u8 114, .int .u8 97, .int .u8 102, .int .u8 116, .int .u8 115, .int .u8 112, .int .u8 101] 5 (8, 9)) = wm := ⟨_, rfl⟩
  have hbm : Box w w.heap.size #[.slice A0 lex.length c0, .slice A1 names.length c1, .int .i64 start, .slice A3 prods.length c3] 28 wm := by rw [← hWm]; exact hb1.alloc _
  have hbg : wm.heap[w1.heap.size]? = some (.cells (nums .u8 magic).toArray 5 (8, 9)) := by rw [← hWm]; exact blk_new w1 _
  have p0 : wm.cell? ⟨w.heap.size, 0, none⟩ = some (.slice A0 lex.length c0) := (hbm.cell 0).trans rfl
  have HN := Aside0.mk (World.news_of_block (blk_alloc hbg (.cells #[.int .u8 ((lex.length : Int) % 256)] 5)))
  have hm' := World.news_of_block (blk_new wm (.cells #[.int .u8 ((lex.length : Int) % 256)] 5))
  have hsm : wm.heap.size = w1.heap.size + 1 := by rw [← hWm]; exact World.size_alloc ..
  rw [hsm] at hm'
  have HM := Aside0.mk hm'
  clear hm' hsm
  have hba := hbm.alloc (.cells #[.int .u8 ((lex.length : Int) % 256)] 5)
  clear hbm HB hbg
  subst hWm
  go_wp2_with (at_builtin; refine wpList_append_grows _ rfl _ _ 30 rfl 5 i0 (.int .u8 0) 1 1 Tryz.underlying30 hi hz0 hz1 hz2 rfl (by decide) (some ⟨w1.heap.size, 0, none⟩) 8 8 (nums .u8 magic) rfl (fun h => by cases h) rfl (fun b hb => by cases hb; exact HN.out) ⟨w1.heap.size + 1, 0, none⟩ 1 1 [.int .u8 ((lex.length : Int) % 256)] rfl rfl HM.out (by simp [Value.oneCell']) (by decide) (by decide) (by decide) ?_)
  intro v' w2 hown' hgrow
  obtain ⟨a0, k0, rfl⟩ := own_slice hown'
  have S0 : St w #[.slice A0 lex.length c0, .slice A1 names.length c1, .int .i64 start, .slice A3 prods.length c3] (8 + 1) (magic ++ [(lex.length : Int) % 256]) a0 k0 w2 := ⟨rfl, ⟨hba.1.grown hgrow (Nat.le_of_lt (blk_lt hba.2)) (fun k hk => by cases hk), by rw [hgrow.block _ (blk_lt hba.2) (fun e => by cases e)]; exact hba.2⟩, own_weaken hown' (by have := blk_lt hb1.2; omega)⟩
  have HS0 := Aside0.mk S0
  clear hown' hgrow hba S0 HN HM
  go_wp2
  go_loopw [5, 6] (fun o i wr => ∃ (k n : Nat) (a : Option Addr) (c : Nat), k ≤ lex.length ∧ o = .slice a n c ∧ i = .int .i64 k ∧ Aside0 (St w #[.slice A0 lex.length c0, .slice A1 names.length c1, .int .i64 start, .slice A3 prods.length c3] n (magic ++ [(lex.length : Int) % 256] ++ (lex.take k).flatMap encRule) a c wr)) (fun _ i _ => lex.length - (intOf i).toNat)
  case atStart => exact ⟨0, _, _, _, Nat.zero_le _, rfl, rfl, by simpa using HS0⟩
  case round =>
    obtain ⟨k, n, a, c, hk, rfl, rfl, hS⟩ := hrel
    have b0 : wr.cell? ⟨w.heap.size, 0, none⟩ = some (.slice A0 lex.length c0) := (hS.out.box.cell 0).trans rfl
    by_cases hlt : k < lex.length
    · obtain ⟨ad, cs, rfl, hK, hc0, hc1⟩ := C_at H0.out k hlt
      obtain ⟨A7, c7, rfl, l7, g7⟩ := k42_open hK
      have d0 : w.cell? (ad.add (k * 8)) = some (.string lex[k].f0) := hc0 _ rfl
      have d1 : w.cell? ⟨(ad.add (k * 8)).block, (ad.add (k * 8)).off + 1, none⟩ = some (.bool lex[k].f1) := hc1 1 _ (by decide) rfl
      have d2 : w.cell? ⟨(ad.add (k * 8)).block, (ad.add (k * 8)).off + 2, none⟩ = some (.int .i64 lex[k].f2.f0) := hc1 2 _ (by decide) rfl
      have d3 : w.cell? ⟨(ad.add (k * 8)).block, (ad.add (k * 8)).off + 3, none⟩ = some (.int .i64 lex[k].f2.f1) := hc1 3 _ (by decide) rfl
      have d4 : w.cell? ⟨(ad.add (k * 8)).block, (ad.add (k * 8)).off + 4, none⟩ = some (.int .i64 lex[k].f2.f2) := hc1 4 _ (by decide) rfl
      have d5 : w.cell? ⟨(ad.add (k * 8)).block, (ad.add (k * 8)).off + 5, none⟩ = some (.int .i64 lex[k].f2.f3) := hc1 5 _ (by decide) rfl
      have d6 : w.cell? ⟨(ad.add (k * 8)).block, (ad.add (k * 8)).off + 6, none⟩ = some (.int .i64 lex[k].f2.f4) := hc1 6 _ (by decide) rfl
      have d7 : w.cell? ⟨(ad.add (k * 8)).block, (ad.add (k * 8)).off + 7, none⟩ = some (.slice A7 lex[k].f2.f5.length c7) := hc1 7 _ (by decide) rfl
      have G7 := Aside0.mk g7
      obtain ⟨x1, x2, x3⟩ := HLX.out _ (List.getElem_mem hlt)
      have HQ : Hid (magic ++ [(lex.length : Int) % 256] ++ (lex.take (k + 1)).flatMap encRule = (magic ++ [(lex.length : Int) % 256] ++ (lex.take k).flatMap encRule) ++ [(if lex[k].f1 = true then (1 : Int) else 0) % 256] ++ encName lex[k].f0 ++ encE lex[k].f2) := Lib.hid (by rw [flat_snoc encRule lex k hlt]; unfold encRule; simp only [List.append_assoc])
      have hbnd : n + 1 + (encName lex[k].f0).length + (encE lex[k].f2).length ≤ 140737488350000 := by
        have e1 := hS.out.len
        have e2 := flat_le encRule lex (k + 1)
        rw [flat_snoc encRule lex k hlt] at e2
        simp only [List.length_append, List.length_cons, List.length_nil, encRule, magic] at e1 e2
        omega
      have HNM := Aside0.mk fun w' => name35 lex[k].f0 w' x1
      have HPT := Aside0.mk fun (w' : World) (hr : Kd.C k40 w' A7 lex[k].f2.f5.length lex[k].f2.f5) => pattern36 lex[k].f2 A7 c7 w' hr l7 x2 x3
      have hep := encE_pos lex[k].f2
      have hnp : 0 < (encName lex[k].f0).length := by simp [encName]
      clear hK hc0 hc1 g7 x1 x2 x3
      generalize magic ++ [(lex.length : Int) % 256] ++ (lex.take k).flatMap encRule = q at *
      generalize lex[k] = x at *
      generalize encName x.f0 = en at *
      generalize encE x.f2 = ee at *
      cases hx : x.f1
      · skip
        have d1a : wr.cell? ⟨(ad.add (k * 8)).block, (ad.add (k * 8)).off + 1, none⟩ = some (.bool false) := by rw [← hx]; exact pw_cell_below hS.out.box.1 d1
        have HQ1 : Hid (magic ++ [(lex.length : Int) % 256] ++ (lex.take (k + 1)).flatMap encRule = q ++ [0] ++ en ++ ee) := Lib.hid (by rw [HQ.out, hx]; rfl)
        clear HQ hx
        have P1 := hS.out.alloc (.cells #[.int .u8 (0)] 5)
        have pb1 := P1.base
        go_wp2_with (at_builtin; refine wpList_append_own _ rfl _ _ 30 rfl w.heap.size 5 i0 (.int .u8 0) 1 1 Tryz.underlying30 hi hz0 hz1 hz2 rfl (by decide) _ (n) (nums .u8 (q)) rfl P1.own ⟨wr.heap.size, 0, none⟩ 1 1 [.int .u8 (0)] rfl rfl (World.news_of_block (blk_new wr (.cells #[.int .u8 (0)] 5))) (by simp [Value.oneCell']) (by unfold maxLen; omega) (by omega) pb1 ?_)
        intro v1 w1 ho1 hg1 _
        obtain ⟨a1, k1, q1, rfl, E1, S1⟩ := P1.push [0] (m := 1) rfl ho1 hg1
        clear P1 pb1 ho1 hg1
        have b1 := S1.box.at 0 _ rfl
        have d0a := pw_cell_below S1.box.1 d0
        go_wp2_with (go_at_call 35; refine (HNM.out _).mono ?_)
        rintro e w2c ⟨v2c, rfl, ho2c, hb2c⟩
        have P2 := S1.call hb2c
        obtain ⟨g2, cap2, rfl, _, hl2, hc2⟩ := ho2c.form hnp
        have pb2 := P2.base
        have HC2 := Aside0.mk hc2
        clear hc2 ho2c hb2c
        go_wp2_with (at_builtin; refine wpList_append_own _ rfl _ _ 30 rfl w.heap.size 5 i0 (.int .u8 0) 1 1 Tryz.underlying30 hi hz0 hz1 hz2 rfl (by decide) _ (n + 1) (nums .u8 (q1)) rfl P2.own ⟨g2, 0, none⟩ (en).length cap2 (nums .u8 (en)) rfl (by rw [nums_length]; omega) HC2.out (one_nums _) (by unfold maxLen; omega) (by omega) pb2 ?_)
        intro v2 w2 ho2 hg2 _
        obtain ⟨a2, k2, q2, rfl, E2, S2⟩ := P2.push (en) (m := (en).length) rfl ho2 hg2
        clear P2 pb2 ho2 hg2 HC2
        have b2 := S2.box.at 0 _ rfl
        have d2a := pw_cell_below S2.box.1 d2
        have d3a := pw_cell_below S2.box.1 d3
        have d4a := pw_cell_below S2.box.1 d4
        have d5a := pw_cell_below S2.box.1 d5
        have d6a := pw_cell_below S2.box.1 d6
        have d7a := pw_cell_below S2.box.1 d7
        have HG7 := Aside0.mk (HPT.out _ (Kd.C_below G7.out S2.box.1))
        go_wp2_with (go_at_call 36; refine (HG7.out).mono ?_)
        rintro e w3c ⟨v3c, rfl, ho3c, hb3c⟩
        have P3 := S2.call hb3c
        obtain ⟨g3, cap3, rfl, _, hl3, hc3⟩ := ho3c.form hep
        have pb3 := P3.base
        have HC3 := Aside0.mk hc3
        clear hc3 ho3c hb3c
        go_wp2_with (at_builtin; refine wpList_append_own _ rfl _ _ 30 rfl w.heap.size 5 i0 (.int .u8 0) 1 1 Tryz.underlying30 hi hz0 hz1 hz2 rfl (by decide) _ (n + 1 + en.length) (nums .u8 (q2)) rfl P3.own ⟨g3, 0, none⟩ (ee).length cap3 (nums .u8 (ee)) rfl (by rw [nums_length]; omega) HC3.out (one_nums _) (by unfold maxLen; omega) (by omega) pb3 ?_)
        intro v3 w3 ho3 hg3 _
        obtain ⟨a3, k3, q3, rfl, E3, S3⟩ := P3.push (ee) (m := (ee).length) rfl ho3 hg3
        clear P3 pb3 ho3 hg3 HC3
        have HS3 := Aside0.mk S3
        clear S1 S2 S3
        go_wp2
        go_roundw
        case rel => exact ⟨k + 1, _, _, _, by omega, rfl, by go_num, ⟨by rw [HQ1.out, ← E1.out, ← E2.out, ← E3.out]; exact HS3.out⟩⟩
        case measure => simp [intOf]; omega
      · skip
        have d1a : wr.cell? ⟨(ad.add (k * 8)).block, (ad.add (k * 8)).off + 1, none⟩ = some (.bool true) := by rw [← hx]; exact pw_cell_below hS.out.box.1 d1
        have HQ1 : Hid (magic ++ [(lex.length : Int) % 256] ++ (lex.take (k + 1)).flatMap encRule = q ++ [1] ++ en ++ ee) := Lib.hid (by rw [HQ.out, hx]; rfl)
        clear HQ hx
        have P4 := hS.out.alloc (.cells #[.int .u8 (1)] 5)
        have pb4 := P4.base
        go_wp2_with (at_builtin; refine wpList_append_own _ rfl _ _ 30 rfl w.heap.size 5 i0 (.int .u8 0) 1 1 Tryz.underlying30 hi hz0 hz1 hz2 rfl (by decide) _ (n) (nums .u8 (q)) rfl P4.own ⟨wr.heap.size, 0, none⟩ 1 1 [.int .u8 (1)] rfl rfl (World.news_of_block (blk_new wr (.cells #[.int .u8 (1)] 5))) (by simp [Value.oneCell']) (by unfold maxLen; omega) (by omega) pb4 ?_)
        intro v4 w4 ho4 hg4 _
        obtain ⟨a4, k4, q4, rfl, E4, S1⟩ := P4.push [1] (m := 1) rfl ho4 hg4
        clear P4 pb4 ho4 hg4
        have b1 := S1.box.at 0 _ rfl
        have d0a := pw_cell_below S1.box.1 d0
        go_wp2_with (go_at_call 35; refine (HNM.out _).mono ?_)
        rintro e w5c ⟨v5c, rfl, ho5c, hb5c⟩
        have P5 := S1.call hb5c
        obtain ⟨g5, cap5, rfl, _, hl5, hc5⟩ := ho5c.form hnp
        have pb5 := P5.base
        have HC5 := Aside0.mk hc5
        clear hc5 ho5c hb5c
        go_wp2_with (at_builtin; refine wpList_append_own _ rfl _ _ 30 rfl w.heap.size 5 i0 (.int .u8 0) 1 1 Tryz.underlying30 hi hz0 hz1 hz2 rfl (by decide) _ (n + 1) (nums .u8 (q4)) rfl P5.own ⟨g5, 0, none⟩ (en).length cap5 (nums .u8 (en)) rfl (by rw [nums_length]; omega) HC5.out (one_nums _) (by unfold maxLen; omega) (by omega) pb5 ?_)
        intro v5 w5 ho5 hg5 _
        obtain ⟨a5, k5, q5, rfl, E5, S2⟩ := P5.push (en) (m := (en).length) rfl ho5 hg5
        clear P5 pb5 ho5 hg5 HC5
        have b2 := S2.box.at 0 _ rfl
        have d2a := pw_cell_below S2.box.1 d2
        have d3a := pw_cell_below S2.box.1 d3
        have d4a := pw_cell_below S2.box.1 d4
        have d5a := pw_cell_below S2.box.1 d5
        have d6a := pw_cell_below S2.box.1 d6
        have d7a := pw_cell_below S2.box.1 d7
        have HG7 := Aside0.mk (HPT.out _ (Kd.C_below G7.out S2.box.1))
        go_wp2_with (go_at_call 36; refine (HG7.out).mono ?_)
        rintro e w6c ⟨v6c, rfl, ho6c, hb6c⟩
        have P6 := S2.call hb6c
        obtain ⟨g6, cap6, rfl, _, hl6, hc6⟩ := ho6c.form hep
        have pb6 := P6.base
        have HC6 := Aside0.mk hc6
        clear hc6 ho6c hb6c
        go_wp2_with (at_builtin; refine wpList_append_own _ rfl _ _ 30 rfl w.heap.size 5 i0 (.int .u8 0) 1 1 Tryz.underlying30 hi hz0 hz1 hz2 rfl (by decide) _ (n + 1 + en.length) (nums .u8 (q5)) rfl P6.own ⟨g6, 0, none⟩ (ee).length cap6 (nums .u8 (ee)) rfl (by rw [nums_length]; omega) HC6.out (one_nums _) (by unfold maxLen; omega) (by omega) pb6 ?_)
        intro v6 w6 ho6 hg6 _
        obtain ⟨a6, k6, q6, rfl, E6, S3⟩ := P6.push (ee) (m := (ee).length) rfl ho6 hg6
        clear P6 pb6 ho6 hg6 HC6
        have HS3 := Aside0.mk S3
        clear S1 S2 S3
        go_wp2
        go_roundw
        case rel => exact ⟨k + 1, _, _, _, by omega, rfl, by go_num, ⟨by rw [HQ1.out, ← E4.out, ← E5.out, ← E6.out]; exact HS3.out⟩⟩
        case measure => simp [intOf]; omega
    · obtain rfl : k = lex.length := by omega
      have hS' := hS.out
      rw [List.take_length] at hS'
      have hn1 : n + 1 + (names.flatMap encName).length + 3 + (prods.flatMap encProd).length + 4 ≤ 140737488350000 := by
        have hn1 := hS'.len
        simp only [List.length_append, List.length_cons, List.length_nil, magic] at hn1
        omega
      have b1 := hS'.box.at 1 _ rfl
      obtain ⟨qL, HQL⟩ : ∃ q, Hid (q = magic ++ [(lex.length : Int) % 256] ++ lex.flatMap encRule) := ⟨_, Lib.hid rfl⟩
      rw [← HQL.out] at hS'
      clear hS
      have P7 := hS'.alloc (.cells #[.int .u8 ((names.length : Int) % 256)] 5)
      have pb7 := P7.base
      go_wp2_with (at_builtin; refine wpList_append_own _ rfl _ _ 30 rfl w.heap.size 5 i0 (.int .u8 0) 1 1 Tryz.underlying30 hi hz0 hz1 hz2 rfl (by decide) _ (n) (nums .u8 (qL)) rfl P7.own ⟨wr.heap.size, 0, none⟩ 1 1 [.int .u8 ((names.length : Int) % 256)] rfl rfl (World.news_of_block (blk_new wr (.cells #[.int .u8 ((names.length : Int) % 256)] 5))) (by simp [Value.oneCell']) (by unfold maxLen; omega) (by omega) pb7 ?_)
      intro v7 w7 ho7 hg7 _
      obtain ⟨a7, k7, q7, rfl, E7, S1⟩ := P7.push [(names.length : Int) % 256] (m := 1) rfl ho7 hg7
      clear P7 pb7 ho7 hg7
      have HS1 := Aside0.mk S1
      clear S1
      go_wp2
      obtain ⟨wl, rfl⟩ : ∃ w1 : World, w1 = w7 := ⟨_, rfl⟩
      go_loopw [5, 8] (fun o i wr => ∃ (k n : Nat) (a : Option Addr) (c : Nat), k ≤ names.length ∧ o = .slice a n c ∧ i = .int .i64 k ∧ Aside0 (St w #[.slice A0 lex.length c0, .slice A1 names.length c1, .int .i64 start, .slice A3 prods.length c3] n (q7 ++ (names.take k).flatMap encName) a c wr)) (fun _ i _ => names.length - (intOf i).toNat)
      case atStart => exact ⟨0, _, _, _, Nat.zero_le _, rfl, rfl, by simpa using HS1⟩
      case round =>
        have hq1 : q7.length ≤ n + 1 := Nat.le_of_eq HS1.out.len.symm
        obtain ⟨k, n2, a, c, hk, rfl, rfl, hS⟩ := hrel
        have b1 := hS.out.box.at 1 _ rfl
        by_cases hlt : k < names.length
        · obtain ⟨ad, cs, rfl, hK, hc0, _⟩ := C_at H1.out k hlt
          obtain rfl : cs = [.string names[k]] := hK
          have d0 : w.cell? (ad.add k) = some (.string names[k]) := by have := hc0 _ rfl; rwa [show Kd.string.sz = 1 from rfl, Nat.mul_one] at this
          have d0a := pw_cell_below hS.out.box.1 d0
          have x1 := HNL.out _ (List.getElem_mem hlt)
          have HQ : Hid (q7 ++ (names.take (k + 1)).flatMap encName = (q7 ++ (names.take k).flatMap encName) ++ encName names[k]) := Lib.hid (by rw [flat_snoc encName names k hlt]; simp only [List.append_assoc])
          have hbnd : n2 + (encName names[k]).length ≤ 140737488350000 := by
            have e1 := hS.out.len
            have e2 := flat_le encName names (k + 1)
            rw [flat_snoc encName names k hlt] at e2
            rw [List.length_append] at e1 e2
            omega
          have HNM := Aside0.mk fun w' => name35 names[k] w' x1
          have hnp : 0 < (encName names[k]).length := by simp [encName]
          clear hc0 x1
          generalize q7 ++ (names.take k).flatMap encName = q at *
          generalize names[k] = x at *
          generalize encName x = en at *
          go_wp2_with (go_at_call 35; refine (HNM.out _).mono ?_)
          rintro e w8c ⟨v8c, rfl, ho8c, hb8c⟩
          have P8 := hS.out.call hb8c
          obtain ⟨g8, cap8, rfl, _, hl8, hc8⟩ := ho8c.form hnp
          have pb8 := P8.base
          have HC8 := Aside0.mk hc8
          clear hc8 ho8c hb8c
          go_wp2_with (at_builtin; refine wpList_append_own _ rfl _ _ 30 rfl w.heap.size 5 i0 (.int .u8 0) 1 1 Tryz.underlying30 hi hz0 hz1 hz2 rfl (by decide) _ (n2) (nums .u8 (q)) rfl P8.own ⟨g8, 0, none⟩ (en).length cap8 (nums .u8 (en)) rfl (by rw [nums_length]; omega) HC8.out (one_nums _) (by unfold maxLen; omega) (by omega) pb8 ?_)
          intro v8 w8 ho8 hg8 _
          obtain ⟨a8, k8, q8, rfl, E8, S2⟩ := P8.push (en) (m := (en).length) rfl ho8 hg8
          clear P8 pb8 ho8 hg8 HC8
          have HS2 := Aside0.mk S2
          clear S2
          go_wp2
          go_roundw
          case rel => exact ⟨k + 1, _, _, _, by omega, rfl, by go_num, ⟨by rw [HQ.out, ← E8.out]; exact HS2.out⟩⟩
          case measure => simp [intOf]; omega
        · obtain rfl : k = names.length := by omega
          have hS' := hS.out
          rw [List.take_length] at hS'
          have hn2 : n2 + 3 + (prods.flatMap encProd).length + 4 ≤ 140737488350000 := by
            have hn2 := hS'.len
            rw [List.length_append] at hn2
            omega
          have f2 := hS'.box.at 2 (.int .i64 start) rfl
          obtain ⟨qN, HQN⟩ : ∃ q, Hid (q = q7 ++ names.flatMap encName) := ⟨_, Lib.hid rfl⟩
          rw [← HQN.out] at hS'
          clear hS hq1
          have P9 := hS'.alloc (.cells #[.int .u8 (start % 256)] 5)
          have pb9 := P9.base
          go_wp2_with (at_builtin; refine wpList_append_own _ rfl _ _ 30 rfl w.heap.size 5 i0 (.int .u8 0) 1 1 Tryz.underlying30 hi hz0 hz1 hz2 rfl (by decide) _ (n2) (nums .u8 (qN)) rfl P9.own ⟨wr.heap.size, 0, none⟩ 1 1 [.int .u8 (start % 256)] rfl rfl (World.news_of_block (blk_new wr (.cells #[.int .u8 (start % 256)] 5))) (by simp [Value.oneCell']) (by unfold maxLen; omega) (by omega) pb9 ?_)
          intro v9 w9 ho9 hg9 _
          obtain ⟨a9, k9, q9, rfl, E9, S3⟩ := P9.push [start % 256] (m := 1) rfl ho9 hg9
          clear P9 pb9 ho9 hg9
          have f3 := S3.box.at 3 (.slice A3 prods.length c3) rfl
          have HN2 := Aside0.mk fun w' => number37 (prods.length : Int) 2 (b2 (prods.length : Int)) w' ⟨_, number2 _ 0⟩
          obtain ⟨bb, HBB⟩ : ∃ bb, Hid (bb = b2 (prods.length : Int)) := ⟨_, Lib.hid rfl⟩
          rw [← HBB.out] at HN2
          have HBL : Hid (bb.length = 2) := Lib.hid (by rw [HBB.out]; rfl)
          have hbl1 : bb.length ≤ 2 := Nat.le_of_eq HBL.out
          have hbl0 : 0 < bb.length := by rw [HBL.out]; decide
          go_wp2_with (go_at_call 37; refine (HN2.out _).mono ?_)
          rintro e w10c ⟨v10c, rfl, ho10c, hb10c⟩
          have P10 := S3.call hb10c
          obtain ⟨g10, cap10, rfl, _, hl10, hc10⟩ := ho10c.form hbl0
          have pb10 := P10.base
          have HC10 := Aside0.mk hc10
          clear hc10 ho10c hb10c
          go_wp2_with (at_builtin; refine wpList_append_own _ rfl _ _ 30 rfl w.heap.size 5 i0 (.int .u8 0) 1 1 Tryz.underlying30 hi hz0 hz1 hz2 rfl (by decide) _ (n2 + 1) (nums .u8 (q9)) rfl P10.own ⟨g10, 0, none⟩ (bb).length cap10 (nums .u8 (bb)) rfl (by rw [nums_length]; omega) HC10.out (one_nums _) (by unfold maxLen; omega) (by omega) pb10 ?_)
          intro v10 w10 ho10 hg10 _
          obtain ⟨a10, k10, q10, rfl, E10, S4⟩ := P10.push (bb) (m := (bb).length) rfl ho10 hg10
          clear P10 pb10 ho10 hg10 HC10
          have HS4 := Aside0.mk S4
          clear S4
          rw [HBL.out] at HS4
          go_wp2
          obtain ⟨wl2, rfl⟩ : ∃ w1 : World, w1 = w10 := ⟨_, rfl⟩
          go_loopw [5, 9] (fun o i wr => ∃ (k n : Nat) (a : Option Addr) (c : Nat), k ≤ prods.length ∧ o = .slice a n c ∧ i = .int .i64 k ∧ Aside0 (St w #[.slice A0 lex.length c0, .slice A1 names.length c1, .int .i64 start, .slice A3 prods.length c3] n (q10 ++ (prods.take k).flatMap encProd) a c wr)) (fun _ i _ => prods.length - (intOf i).toNat)
          case atStart => exact ⟨0, _, _, _, Nat.zero_le _, by rw [HBL.out], rfl, by simpa using HS4⟩
          case round =>
            have hq4 : q10.length ≤ n2 + 1 + 2 := Nat.le_of_eq HS4.out.len.symm
            obtain ⟨k, n4, a, c, hk, rfl, rfl, hS⟩ := hrel
            have f3 := hS.out.box.at 3 (.slice A3 prods.length c3) rfl
            by_cases hlt : k < prods.length
            · obtain ⟨ad, cs, rfl, hK, hc0, hc1⟩ := C_at H3.out k hlt
              obtain ⟨A1', c1', rfl, l1, g1⟩ := k67_open hK
              have d0 : wr.cell? (ad.add (k * 2)) = some (.int .i64 prods[k].f0) := pw_cell_below hS.out.box.1 (hc0 _ rfl)
              have d1 : wr.cell? ⟨(ad.add (k * 2)).block, (ad.add (k * 2)).off + 1, none⟩ = some (.slice A1' prods[k].f1.length c1') := pw_cell_below hS.out.box.1 (hc1 1 _ (by decide) rfl)
              have hmx := Kd.C_max g1
              have G1 := Aside0.mk g1
              have HQ : Hid (q10 ++ (prods.take (k + 1)).flatMap encProd = (q10 ++ (prods.take k).flatMap encProd) ++ [prods[k].f0 % 256, (prods[k].f1.length : Int) % 256] ++ prods[k].f1.flatMap encSym) := Lib.hid (by rw [flat_snoc encProd prods k hlt]; unfold encProd; simp only [List.append_assoc, List.singleton_append, List.cons_append, List.nil_append])
              have hbnd : n4 + 2 + (prods[k].f1.flatMap encSym).length ≤ 140737488350000 := by
                have e1 := hS.out.len
                have e2 := flat_le encProd prods (k + 1)
                rw [flat_snoc encProd prods k hlt] at e2
                simp only [List.length_append, List.length_cons, List.length_nil, encProd] at e1 e2
                omega
              clear hK hc0 hc1 g1
              generalize q10 ++ (prods.take k).flatMap encProd = q at *
              generalize prods[k] = x at *
              have hA := hS.out.alloc (.cells #[.int .i64 x.f0, .slice A1' x.f1.length c1'] 67)
              have hbk := blk_new wr (.cells #[.int .i64 x.f0, .slice A1' x.f1.length c1'] 67)
              have cx0 : IntKind.u8.wrap x.f0 = x.f0 % 256 := IntKind.wrap_u8' _
              have cx1 : IntKind.u8.wrap (x.f1.length : Int) = (x.f1.length : Int) % 256 := IntKind.wrap_u8' _
              have hsw := World.size_alloc wr (.cells #[.int .i64 x.f0, .slice A1' x.f1.length c1'] 67)
              have hA2 := hA.alloc (.cells #[.int .u8 (x.f0 % 256), .int .u8 ((x.f1.length : Int) % 256)] 5)
              have hbk2 := blk_alloc hbk (.cells #[.int .u8 (x.f0 % 256), .int .u8 ((x.f1.length : Int) % 256)] 5)
              have hn' := World.news_of_block (blk_new (wr.alloc (.cells #[.int .i64 x.f0, .slice A1' x.f1.length c1'] 67)) (.cells #[.int .u8 (x.f0 % 256), .int .u8 ((x.f1.length : Int) % 256)] 5))
              rw [hsw] at hn'
              have HNEW := Aside0.mk hn'
              have HA2 := Aside0.mk hA2
              have HBK2 := Aside0.mk hbk2
              clear hn' hA hA2 hbk hbk2 hsw
              go_wp2_with (at_builtin; refine wpList_append_own _ rfl _ _ 30 rfl w.heap.size 5 i0 (.int .u8 0) 1 1 Tryz.underlying30 hi hz0 hz1 hz2 rfl (by decide) _ n4 (nums .u8 q) rfl HA2.out.own ⟨wr.heap.size + 1, 0, none⟩ 2 2 [.int .u8 (x.f0 % 256), .int .u8 ((x.f1.length : Int) % 256)] rfl rfl HNEW.out (by simp [Value.oneCell']) (by unfold maxLen; omega) (by omega) HA2.out.base ?_)
              intro vB wB hoB hgB _
              have hbkB := kept_block HA2.out.own hgB HBK2.out (by decide)
              obtain ⟨aB, kB, qB, rfl, EB, SB⟩ := HA2.out.push [x.f0 % 256, (x.f1.length : Int) % 256] (m := 2) rfl hoB hgB
              have HSB := Aside0.mk SB
              have HBB2 := Aside0.mk hbkB
              clear SB hbkB hoB hgB HA2 HBK2 HNEW
              have cB : wB.cell? ⟨wr.heap.size, 1, none⟩ = some (.slice A1' x.f1.length c1') := (blk_cell HBB2.out 1).trans rfl
              go_wp2
              obtain ⟨wo, rfl⟩ : ∃ w1 : World, w1 = wr := ⟨_, rfl⟩
              clear cB
              go_loopw [5, 11] (fun o i wy => ∃ (m n : Nat) (a : Option Addr) (c : Nat), m ≤ x.f1.length ∧ o = .slice a n c ∧ i = .int .i64 m ∧ Aside0 (St w #[.slice A0 lex.length c0, .slice A1 names.length c1, .int .i64 start, .slice (some ad) prods.length c3] n (qB ++ (x.f1.take m).flatMap encSym) a c wy) ∧ Aside0 (wy.heap[wo.heap.size]? = some (.cells #[.int .i64 x.f0, .slice A1' x.f1.length c1'] 67 (0, 0)))) (fun _ i _ => x.f1.length - (intOf i).toNat)
              case atStart => exact ⟨0, _, _, _, Nat.zero_le _, rfl, rfl, by simpa using HSB, HBB2⟩
              case round =>
                have hqB : qB.length ≤ n4 + 2 := Nat.le_of_eq HSB.out.len.symm
                obtain ⟨m, n5, a, c, hm, rfl, rfl, hS5, hP⟩ := hrel
                have cB : wr.cell? ⟨wo.heap.size, 1, none⟩ = some (.slice A1' x.f1.length c1') := (blk_cell hP.out 1).trans rfl
                by_cases hlt2 : m < x.f1.length
                · obtain ⟨ad2, cs2, rfl, hK2, hc02, hc12⟩ := C_at G1.out m hlt2
                  obtain rfl := k85_open hK2
                  have e0 : wr.cell? (ad2.add (m * 2)) = some (.int .i64 x.f1[m].f0) := pw_cell_below hS5.out.box.1 (hc02 _ rfl)
                  have e1 : wr.cell? ⟨(ad2.add (m * 2)).block, (ad2.add (m * 2)).off + 1, none⟩ = some (.int .i64 x.f1[m].f1) := pw_cell_below hS5.out.box.1 (hc12 1 _ (by decide) rfl)
                  have HQ2 : Hid (qB ++ (x.f1.take (m + 1)).flatMap encSym = (qB ++ (x.f1.take m).flatMap encSym) ++ [x.f1[m].f0 % 256, x.f1[m].f1 % 256]) := Lib.hid (by rw [flat_snoc encSym x.f1 m hlt2]; unfold encSym; simp only [List.append_assoc])
                  have hbnd5 : n5 + 2 ≤ 140737488350000 := by
                    have e1 := hS5.out.len
                    have e2 := flat_le encSym x.f1 (m + 1)
                    rw [flat_snoc encSym x.f1 m hlt2] at e2
                    simp only [List.length_append, List.length_cons, List.length_nil, encSym] at e1 e2
                    omega
                  clear hK2 hc02 hc12
                  generalize qB ++ (x.f1.take m).flatMap encSym = q5 at *
                  generalize x.f1[m] = y at *
                  have cy0 : IntKind.u8.wrap y.f0 = y.f0 % 256 := IntKind.wrap_u8' _
                  have cy1 : IntKind.u8.wrap y.f1 = y.f1 % 256 := IntKind.wrap_u8' _
                  have HA5 := Aside0.mk (hS5.out.alloc (.cells #[.int .u8 (y.f0 % 256), .int .u8 (y.f1 % 256)] 5))
                  have HN5 := Aside0.mk (World.news_of_block (blk_new wr (.cells #[.int .u8 (y.f0 % 256), .int .u8 (y.f1 % 256)] 5)))
                  have HP5 := Aside0.mk (blk_alloc hP.out (.cells #[.int .u8 (y.f0 % 256), .int .u8 (y.f1 % 256)] 5))
                  have hb5 := HA5.out.base
                  go_wp2_with fail
                  go_region_law (first | (refine step_append_lies _ (by rfl) _ _ _ (by rfl) w.heap.size 5 i0 _ 1 1 Tryz.underlying30 hi hz0 hz1 hz2 rfl (by omega) (.slice a n5 c) n5 (nums .u8 q5) (by rfl) (HA5.out.own.drew) ⟨wr.heap.size, 0, none⟩ 2 2 [.int .u8 (y.f0 % 256), .int .u8 (y.f1 % 256)] (by rfl) (by rfl) (fun j u hj => HN5.out j u hj) (by simp [Value.oneCell']) (by omega) (by unfold maxLen; omega) (by omega) (hb5) (wr.heap.size + 1) (by simp) ?_; intro g5 cap5 w5 ho5 hg5 _ _; obtain ⟨a5, k5, q6, e5, E5, S5⟩ := HA5.out.push [y.f0 % 256, y.f1 % 256] (m := 2) rfl ho5 (undrew hg5); injection e5 with e5 _ e6; subst e5; subst e6; have HS5 := Aside0.mk S5; have HP6 := Aside0.mk (kept_block HA5.out.own (undrew hg5) HP5.out (by decide)); clear ho5 hg5 S5))
                  all_goals
                    go_wp2
                    go_roundw
                    case rel => exact ⟨m + 1, _, _, _, by omega, rfl, by go_num, ⟨by rw [HQ2.out, ← E5.out]; exact HS5.out⟩, HP6⟩
                    case measure => simp [intOf]; omega
                · obtain rfl : m = x.f1.length := by omega
                  go_wp2
                  go_roundw
                  case rel => exact ⟨k + 1, _, _, _, by omega, rfl, by go_num, ⟨by rw [HQ.out, ← EB.out]; have := hS5.out; rw [List.take_length] at this; exact this⟩⟩
                  case measure => simp [intOf]; omega
            · obtain rfl : k = prods.length := by omega
              have hS' := hS.out
              rw [List.take_length] at hS'
              have hQE : q10 ++ prods.flatMap encProd = encSpec lex names start prods := by rw [E10.out, E9.out, HBB.out, HQN.out, E7.out, HQL.out]; rfl
              rw [hQE] at hS'
              clear hQE HQL HQN
              have HBY := Aside0.mk (bytes_spec lex names start prods)
              have hp : 0 < (encSpec lex names start prods).length := by unfold encSpec magic; simp only [List.length_append, List.length_cons, List.length_nil]; omega
              generalize hbs : encSpec lex names start prods = bs at *
              have HBS := Lib.hid hbs
              clear hbs
              have hl4 : n4 + 4 ≤ 67108864 := by rw [hS'.len]; exact HL.out
              have hd : decide ((67108864 : Int) < (n4 : Int) + 4) = false := decide_eq_false (by omega)
              have hl5 : n4 ≤ 140737488350000 := by omega
              have hown := hS'.own
              have HBX := Aside0.mk hS'.box
              have hlen := hS'.len
              clear hl4 hS hS'
              subst hlen
              have HR : Aside0 (∀ (j : Nat) x, bs[j]? = some x → ∃ ad, a = some ad ∧ wr.cell? (ad.add j) = some (.int .u8 x)) := ⟨fun j x hj => by
                obtain ⟨A', c', e', hrd⟩ := own_reads hown
                injection e' with e1 _ e2
                subst e1
                have hjl := (List.getElem?_eq_some_iff.1 hj).1
                obtain ⟨ad, e, hc⟩ := hrd.at_ (j : Int) (by omega) (by omega)
                refine ⟨ad, e, ?_⟩
                rw [Int.toNat_natCast] at hc
                rw [hc, rd, Int.toNat_natCast, List.getD_eq_getElem?_getD, hj]
                rfl⟩
              have HS12 := Aside0.mk (summed12 a c bs wr hp (by omega) HBY.out HR.out)
              have hbase := Nat.le_of_lt (blk_lt HBX.out.2)
              clear HR hown
              generalize bs.length = N at *
              go_wp2_with (go_at_call 12; refine HS12.out.mono ?_)
              rintro e we ⟨ve, rfl, hoe, hbe⟩
              have HOE := Aside0.mk (hoe.lower hbase)
              have HBE := Aside0.mk (HBX.out.then hbe)
              obtain ⟨ae, ce, rfl⟩ := own_slice hoe
              clear hoe hbe
              go_wp2
              go_ret2
              rw [HBS.out]
              exact ⟨.slice ae (summed bs).length ce, rfl, HOE.out, HBE.out.1⟩
end Go.Proofs.YtpnkifincadakaaGreatDoor.Wr
end
