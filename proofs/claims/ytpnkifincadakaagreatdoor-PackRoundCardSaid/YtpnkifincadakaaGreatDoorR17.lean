/- Proved: part 17 of the proof of PackRound (Rt). Conditions: each theorem states its own. -/
import Derived.Test.YtpnkifincadakaaGreatDoorR16
set_option linter.unusedVariables false
set_option linter.unusedSimpArgs false
section
namespace Go.Proofs.YtpnkifincadakaaGreatDoor.Wr
open Go.RowKit Go.Pk Go.Proofs.YtpnkifincadakaaGreatDoorW.PrintWords Go.Proofs.YtpnkifincadakaaGreatDoor.PPackSpecs
set_option maxHeartbeats 16000000 in
set_option maxRecDepth 100000 in
theorem right_any (lex : List S42) (names : List ByteArray) (start : Int) (prods : List S67) (A0 A1 A3 : Option Addr) (c0 c1 c3 : Nat) (w : World)
    (h0 : Kd.C k42 w A0 lex.length lex) (h1 : Kd.C Kd.string w A1 names.length names) (h3 : Kd.C k67 w A3 prods.length prods) :
    Calls Tryz.prog 24 #[.agg #[.slice A0 lex.length c0, .slice A1 names.length c1, .int .i64 start, .slice A3 prods.length c3]] w fun e w' => e = .returned (.int .i64 (specErr lex names start prods)) ∧ Below w.heap.size w w' := by
  have hm0 := Kd.C_max h0
  have hm1 := Kd.C_max h1
  have hm3 := Kd.C_max h3
  have H0 := Aside0.mk h0
  have H1 := Aside0.mk h1
  have H3 := Aside0.mk h3
  clear h0 h1 h3
  have hbx := Box.start w #[.slice A0 lex.length c0, .slice A1 names.length c1, .int .i64 start, .slice A3 prods.length c3] 28
  have HB := Aside0.mk hbx
  clear hbx
  by_cases g0 : 64 < lex.length
  · have HE : Hid (specErr lex names start prods = 2) := Lib.hid (by unfold specErr; rw [if_pos (by omega)])
    rw [HE.out]
    go_enter Tryz.func24, Tryz.ntmps24
    go_wp2
    go_ret
    exact ⟨rfl, HB.out.1⟩
  by_cases g1 : 128 < names.length
  · have HE : Hid (specErr lex names start prods = 2) := Lib.hid (by unfold specErr; rw [if_pos (by omega)])
    rw [HE.out]
    go_enter Tryz.func24, Tryz.ntmps24
    go_wp2
    go_ret
    exact ⟨rfl, HB.out.1⟩
  by_cases g3 : 512 < prods.length
  · have HE : Hid (specErr lex names start prods = 2) := Lib.hid (by unfold specErr; rw [if_pos (by omega)])
    rw [HE.out]
    go_enter Tryz.func24, Tryz.ntmps24
    go_wp2
    go_ret
    exact ⟨rfl, HB.out.1⟩
  obtain ⟨r, hrr⟩ : ∃ r, r = specErr lex names start prods := ⟨_, rfl⟩
  rw [← hrr]
  have hspec : r = if rightLong prods = true then 2 else if lexErr lex = 0 then if nameLong names = true then 2 else if start < 0 ∨ (names.length : Int) ≤ start then 70 else if (prods.any (prodBad lex.length names.length)) = true then 70 else 0 else lexErr lex := by rw [hrr]; unfold specErr; rw [if_neg (by omega)]
  have KA := Lib.hid (show rightLong prods = true → r = 2 from fun h => by rw [hspec, if_pos h])
  have KB := Lib.hid (show rightLong prods = false → lexErr lex ≠ 0 → r = lexErr lex from fun h h' => by rw [hspec, if_neg (by rw [h]; simp), if_neg h'])
  have KC := Lib.hid (show rightLong prods = false → lexErr lex = 0 → nameLong names = true → r = 2 from fun h h' h2 => by rw [hspec, if_neg (by rw [h]; simp), if_pos h', if_pos h2])
  have KD := Lib.hid (show rightLong prods = false → lexErr lex = 0 → nameLong names = false → (start < 0 ∨ (names.length : Int) ≤ start) → r = 70 from fun h h' h2 h3 => by rw [hspec, if_neg (by rw [h]; simp), if_pos h', if_neg (by rw [h2]; simp), if_pos h3])
  have KE := Lib.hid (show rightLong prods = false → lexErr lex = 0 → nameLong names = false → ¬ (start < 0 ∨ (names.length : Int) ≤ start) → prods.any (prodBad lex.length names.length) = true → r = 70 from fun h h' h2 h3 h4 => by rw [hspec, if_neg (by rw [h]; simp), if_pos h', if_neg (by rw [h2]; simp), if_neg h3, if_pos h4])
  have KF := Lib.hid (show rightLong prods = false → lexErr lex = 0 → nameLong names = false → ¬ (start < 0 ∨ (names.length : Int) ≤ start) → prods.any (prodBad lex.length names.length) = false → r = 0 from fun h h' h2 h3 h4 => by rw [hspec, if_neg (by rw [h]; simp), if_pos h', if_neg (by rw [h2]; simp), if_neg h3, if_neg (by rw [h4]; simp)])
  clear hspec hrr
  have b0 : decide ((64 : Int) < (lex.length : Int)) = false := decide_eq_false (by omega)
  have b1 : decide ((128 : Int) < (names.length : Int)) = false := decide_eq_false (by omega)
  have b3 : decide ((512 : Int) < (prods.length : Int)) = false := decide_eq_false (by omega)
  go_enter Tryz.func24, Tryz.ntmps24
  go_wp2
  go_loopw [33] (fun i wr => ∃ k : Nat, k ≤ prods.length ∧ i = .int .i64 k ∧ Aside0 (Box w w.heap.size #[.slice A0 lex.length c0, .slice A1 names.length c1, .int .i64 start, .slice A3 prods.length c3] 28 wr) ∧ Aside0 (rightLong (prods.drop k) = rightLong prods)) (fun i _ => prods.length - (intOf i).toNat)
  case atStart => exact ⟨0, Nat.zero_le _, rfl, HB, ⟨rfl⟩⟩
  case round =>
    obtain ⟨k, hk, rfl, hX, hI⟩ := hrel
    by_cases hlt : k < prods.length
    · obtain ⟨ad, cs, rfl, hK, hc0, hc1⟩ := C_at (Kd.C_below H3.out hX.out.1) k hlt
      obtain ⟨A1', c1', rfl, l1, g1⟩ := k67_open hK
      have d0 : wr.cell? (ad.add (k * 2)) = some (.int .i64 prods[k].f0) := hc0 _ rfl
      have d1 : wr.cell? ⟨(ad.add (k * 2)).block, (ad.add (k * 2)).off + 1, none⟩ = some (.slice A1' prods[k].f1.length c1') := hc1 1 _ (by decide) rfl
      have HD : Hid (rightLong (prods.drop k) = (decide (16 < prods[k].f1.length) || rightLong (prods.drop (k + 1)))) := Lib.hid (any_drop _ hlt)
      have hmx := Kd.C_max g1
      clear hK hc0 hc1 g1
      generalize prods[k] = x at *
      by_cases h16 : 16 < x.f1.length
      · have HR : Hid (r = 2) := Lib.hid (KA.out (by rw [← hI.out, HD.out, decide_eq_true h16]; rfl))
        go_wp2
        go_ret
        exact ⟨ret_of HR.out, (hX.out.alloc _).1⟩
      · have HN : Hid (rightLong (prods.drop (k + 1)) = rightLong prods) := Lib.hid (by rw [← hI.out, HD.out, decide_eq_false h16]; rfl)
        have bx : decide ((16 : Int) < (x.f1.length : Int)) = false := decide_eq_false (by omega)
        go_wp2
        go_roundw
        case rel => exact ⟨k + 1, by omega, by go_num, ⟨hX.out.alloc _⟩, ⟨HN.out⟩⟩
        case measure => simp [intOf]; omega
    · obtain rfl : k = prods.length := by omega
      have HA : Hid (rightLong prods = false) := Lib.hid (by rw [← hI.out, List.drop_length]; rfl)
      clear hI KA
      have p0 : wr.cell? ⟨w.heap.size, 0, none⟩ = some (.slice A0 lex.length c0) := (hX.out.cell 0).trans rfl
      go_wp2
      obtain ⟨w1, rfl⟩ : ∃ w1 : World, w1 = wr := ⟨_, rfl⟩
      go_loopw [45] (fun i wr => ∃ k : Nat, k ≤ lex.length ∧ i = .int .i64 k ∧ Aside0 (Box w w.heap.size #[.slice A0 lex.length c0, .slice A1 names.length c1, .int .i64 start, .slice A3 prods.length c3] 28 wr) ∧ Aside0 (lexErr (lex.drop k) = lexErr lex)) (fun i _ => lex.length - (intOf i).toNat)
      case atStart => exact ⟨0, Nat.zero_le _, rfl, hX, ⟨rfl⟩⟩
      case round =>
        obtain ⟨k, hk, rfl, hX, hI⟩ := hrel
        by_cases hlt : k < lex.length
        · obtain ⟨ad, cs, rfl, hK, hc0, hc1⟩ := C_at (Kd.C_below H0.out hX.out.1) k hlt
          obtain ⟨A7, c7, rfl, l7, g7⟩ := k42_open hK
          have d0 : wr.cell? (ad.add (k * 8)) = some (.string lex[k].f0) := hc0 _ rfl
          have d1 : wr.cell? ⟨(ad.add (k * 8)).block, (ad.add (k * 8)).off + 1, none⟩ = some (.bool lex[k].f1) := hc1 1 _ (by decide) rfl
          have d2 : wr.cell? ⟨(ad.add (k * 8)).block, (ad.add (k * 8)).off + 2, none⟩ = some (.int .i64 lex[k].f2.f0) := hc1 2 _ (by decide) rfl
          have d3 : wr.cell? ⟨(ad.add (k * 8)).block, (ad.add (k * 8)).off + 3, none⟩ = some (.int .i64 lex[k].f2.f1) := hc1 3 _ (by decide) rfl
          have d4 : wr.cell? ⟨(ad.add (k * 8)).block, (ad.add (k * 8)).off + 4, none⟩ = some (.int .i64 lex[k].f2.f2) := hc1 4 _ (by decide) rfl
          have d5 : wr.cell? ⟨(ad.add (k * 8)).block, (ad.add (k * 8)).off + 5, none⟩ = some (.int .i64 lex[k].f2.f3) := hc1 5 _ (by decide) rfl
          have d6 : wr.cell? ⟨(ad.add (k * 8)).block, (ad.add (k * 8)).off + 6, none⟩ = some (.int .i64 lex[k].f2.f4) := hc1 6 _ (by decide) rfl
          have d7 : wr.cell? ⟨(ad.add (k * 8)).block, (ad.add (k * 8)).off + 7, none⟩ = some (.slice A7 lex[k].f2.f5.length c7) := hc1 7 _ (by decide) rfl
          have HD : Hid (lexErr (lex.drop k) = if 64 < lex[k].f0.size then 2 else if chk lex[k].f2 = 0 then lexErr (lex.drop (k + 1)) else chk lex[k].f2) := Lib.hid (lexErr_drop hlt)
          have G7 := Aside0.mk g7
          clear hK hc0 hc1 g7
          generalize lex[k] = x at *
          by_cases h64 : 64 < x.f0.size
          · have HR : Hid (r = 2) := Lib.hid (by
              have e : lexErr lex = 2 := by rw [← hI.out, HD.out, if_pos h64]
              rw [KB.out HA.out (by rw [e]; decide), e])
            go_wp2
            go_ret
            exact ⟨ret_of HR.out, (hX.out.alloc _).1⟩
          · have bx : decide ((64 : Int) < (x.f0.size : Int)) = false := decide_eq_false (by omega)
            go_wp2_with (go_at_call 75; refine (check75 x.f2 A7 c7 _ (Kd.C_alloc G7.out _) l7).mono ?_)
            rintro e w2 ⟨rfl, k2⟩
            have hX2 := Aside0.mk ((hX.out.alloc _).then k2)
            clear k2
            by_cases hc : chk x.f2 = 0
            · have HN : Hid (lexErr (lex.drop (k + 1)) = lexErr lex) := Lib.hid (by rw [← hI.out, HD.out, if_neg h64, if_pos hc])
              rw [hc]
              go_wp2
              go_roundw
              case rel => exact ⟨k + 1, by omega, by go_num, hX2, ⟨HN.out⟩⟩
              case measure => simp [intOf]; omega
            · have HR : Hid (r = chk x.f2) := Lib.hid (by
                have e : lexErr lex = chk x.f2 := by rw [← hI.out, HD.out, if_neg h64, if_neg hc]
                rw [KB.out HA.out (by rw [e]; exact hc), e])
              have bc : (chk x.f2 == 0) = false := by simpa using hc
              have bc1 : (chk x.f2 != 0) = true := by simpa using hc
              clear hc
              generalize chk x.f2 = q at *
              go_wp2
              go_ret
              exact ⟨ret_of HR.out, hX2.out.1⟩
        · obtain rfl : k = lex.length := by omega
          have HL : Hid (lexErr lex = 0) := Lib.hid (by rw [← hI.out, List.drop_length]; rfl)
          clear hI KB
          have p1 : wr.cell? ⟨w.heap.size, 1, none⟩ = some (.slice A1 names.length c1) := (hX.out.cell 1).trans rfl
          go_wp2
          obtain ⟨w2, rfl⟩ : ∃ w2 : World, w2 = wr := ⟨_, rfl⟩
          go_loopw [63] (fun i wr => ∃ k : Nat, k ≤ names.length ∧ i = .int .i64 k ∧ Aside0 (Box w w.heap.size #[.slice A0 lex.length c0, .slice A1 names.length c1, .int .i64 start, .slice A3 prods.length c3] 28 wr) ∧ Aside0 (nameLong (names.drop k) = nameLong names)) (fun i _ => names.length - (intOf i).toNat)
          case atStart => exact ⟨0, Nat.zero_le _, rfl, hX, ⟨rfl⟩⟩
          case round =>
            obtain ⟨k, hk, rfl, hX, hI⟩ := hrel
            by_cases hlt : k < names.length
            · obtain ⟨ad, cs, rfl, hK, hc0, hc1⟩ := C_at (Kd.C_below H1.out hX.out.1) k hlt
              obtain rfl : cs = [.string names[k]] := hK
              have d0 : wr.cell? (ad.add k) = some (.string names[k]) := by have := hc0 _ rfl; rwa [show Kd.string.sz = 1 from rfl, Nat.mul_one] at this
              have HD : Hid (nameLong (names.drop k) = (decide (64 < names[k].size) || nameLong (names.drop (k + 1)))) := Lib.hid (any_drop _ hlt)
              clear hc0 hc1
              generalize names[k] = x at *
              by_cases h64 : 64 < x.size
              · have HR : Hid (r = 2) := Lib.hid (KC.out HA.out HL.out (by rw [← hI.out, HD.out, decide_eq_true h64]; rfl))
                go_wp2
                go_ret
                exact ⟨ret_of HR.out, hX.out.1⟩
              · have HN : Hid (nameLong (names.drop (k + 1)) = nameLong names) := Lib.hid (by rw [← hI.out, HD.out, decide_eq_false h64]; rfl)
                have bx : decide ((64 : Int) < (x.size : Int)) = false := decide_eq_false (by omega)
                go_wp2
                go_roundw
                case rel => exact ⟨k + 1, by omega, by go_num, hX, ⟨HN.out⟩⟩
                case measure => simp [intOf]; omega
            · obtain rfl : k = names.length := by omega
              have HM : Hid (nameLong names = false) := Lib.hid (by rw [← hI.out, List.drop_length]; rfl)
              clear hI KC
              have q1 : wr.cell? ⟨w.heap.size, 1, none⟩ = some (.slice A1 names.length c1) := (hX.out.cell 1).trans rfl
              have q2 : wr.cell? ⟨w.heap.size, 2, none⟩ = some (.int .i64 start) := (hX.out.cell 2).trans rfl
              have q3 : wr.cell? ⟨w.heap.size, 3, none⟩ = some (.slice A3 prods.length c3) := (hX.out.cell 3).trans rfl
              by_cases gs : start < 0
              · have HR : Hid (r = 70) := Lib.hid (KD.out HA.out HL.out HM.out (.inl gs))
                go_wp2
                go_ret
                exact ⟨ret_of HR.out, hX.out.1⟩
              by_cases gt : (names.length : Int) ≤ start
              · have HR : Hid (r = 70) := Lib.hid (KD.out HA.out HL.out HM.out (.inr gt))
                go_wp2
                go_ret
                exact ⟨ret_of HR.out, hX.out.1⟩
              have HG : Hid (¬ (start < 0 ∨ (names.length : Int) ≤ start)) := Lib.hid (by omega)
              have bs0 : decide (start < 0) = false := decide_eq_false gs
              have bs1 : decide ((names.length : Int) ≤ start) = false := decide_eq_false gt
              go_wp2
              obtain ⟨w3, rfl⟩ : ∃ w3 : World, w3 = wr := ⟨_, rfl⟩
              go_loopw [85] (fun i wr => ∃ k : Nat, k ≤ prods.length ∧ i = .int .i64 k ∧ Aside0 (Box w w.heap.size #[.slice A0 lex.length c0, .slice A1 names.length c1, .int .i64 start, .slice A3 prods.length c3] 28 wr) ∧ Aside0 ((prods.drop k).any (prodBad lex.length names.length) = prods.any (prodBad lex.length names.length))) (fun i _ => prods.length - (intOf i).toNat)
              case atStart => exact ⟨0, Nat.zero_le _, rfl, hX, ⟨rfl⟩⟩
              case round =>
                obtain ⟨k, hk, rfl, hX, hI⟩ := hrel
                by_cases hlt : k < prods.length
                · obtain ⟨ad, cs, rfl, hK, hc0, hc1⟩ := C_at (Kd.C_below H3.out hX.out.1) k hlt
                  obtain ⟨A1', c1', rfl, l1, g1⟩ := k67_open hK
                  have d0 : wr.cell? (ad.add (k * 2)) = some (.int .i64 prods[k].f0) := hc0 _ rfl
                  have d1 : wr.cell? ⟨(ad.add (k * 2)).block, (ad.add (k * 2)).off + 1, none⟩ = some (.slice A1' prods[k].f1.length c1') := hc1 1 _ (by decide) rfl
                  have HD : Hid ((prods.drop k).any (prodBad lex.length names.length) = (prodBad lex.length names.length prods[k] || (prods.drop (k + 1)).any (prodBad lex.length names.length))) := Lib.hid (any_drop _ hlt)
                  have hmx := Kd.C_max g1
                  have G1 := Aside0.mk g1
                  clear hK hc0 hc1 g1
                  generalize prods[k] = x at *
                  have hq1 : (wr.alloc (.cells #[.int .i64 x.f0, .slice A1' x.f1.length c1'] 67)).cell? ⟨w.heap.size, 1, none⟩ = some (.slice A1 names.length c1) := ((hX.out.alloc _).cell 1).trans rfl
                  by_cases gl : x.f0 < 0
                  · have HR : Hid (r = 70) := Lib.hid (KE.out HA.out HL.out HM.out HG.out (by
                      rw [← hI.out, HD.out]; unfold prodBad; rw [decide_eq_true (Or.inl gl)]; rfl))
                    go_wp2
                    go_ret
                    exact ⟨ret_of HR.out, (hX.out.alloc _).1⟩
                  by_cases gr : (names.length : Int) ≤ x.f0
                  · have HR : Hid (r = 70) := Lib.hid (KE.out HA.out HL.out HM.out HG.out (by
                      rw [← hI.out, HD.out]; unfold prodBad; rw [decide_eq_true (Or.inr gr)]; rfl))
                    go_wp2
                    go_ret
                    exact ⟨ret_of HR.out, (hX.out.alloc _).1⟩
                  have HP : Hid (prodBad lex.length names.length x = x.f1.any fun y => !symOk y lex.length names.length) := Lib.hid (by unfold prodBad; rw [decide_eq_false (by omega)]; rfl)
                  have bl0 : decide (x.f0 < 0) = false := decide_eq_false gl
                  have bl1 : decide ((names.length : Int) ≤ x.f0) = false := decide_eq_false gr
                  have hin := Box.start wr #[.int .i64 x.f0, .slice A1' x.f1.length c1'] 67
                  have HIN := Aside0.mk hin
                  have HX2 := Aside0.mk (hX.out.alloc (.cells #[.int .i64 x.f0, .slice A1' x.f1.length c1'] 67))
                  clear hin
                  go_wp2
                  obtain ⟨w4, rfl⟩ : ∃ w4 : World, w4 = wr := ⟨_, rfl⟩
                  go_loopw [103] (fun i wr => ∃ m : Nat, m ≤ x.f1.length ∧ i = .int .i64 m ∧ Aside0 (Box w w.heap.size #[.slice A0 lex.length c0, .slice A1 names.length c1, .int .i64 start, .slice (some ad) prods.length c3] 28 wr) ∧ Aside0 (Box w4 w4.heap.size #[.int .i64 x.f0, .slice A1' x.f1.length c1'] 67 wr) ∧ Aside0 ((x.f1.drop m).any (fun y => !symOk y lex.length names.length) = x.f1.any fun y => !symOk y lex.length names.length)) (fun i _ => x.f1.length - (intOf i).toNat)
                  case atStart => exact ⟨0, Nat.zero_le _, rfl, HX2, HIN, ⟨rfl⟩⟩
                  case round =>
                    obtain ⟨m, hm, rfl, hY, hZ, hJ⟩ := hrel
                    by_cases hlt2 : m < x.f1.length
                    · obtain ⟨ad2, cs2, rfl, hK2, hc02, hc12⟩ := C_at (Kd.C_below G1.out hZ.out.1) m hlt2
                      obtain rfl := k85_open hK2
                      have d20 : wr.cell? (ad2.add (m * 2)) = some (.int .i64 x.f1[m].f0) := hc02 _ rfl
                      have d21 : wr.cell? ⟨(ad2.add (m * 2)).block, (ad2.add (m * 2)).off + 1, none⟩ = some (.int .i64 x.f1[m].f1) := hc12 1 _ (by decide) rfl
                      have HD2 : Hid ((x.f1.drop m).any (fun y => !symOk y lex.length names.length) = (!symOk x.f1[m] lex.length names.length || (x.f1.drop (m + 1)).any fun y => !symOk y lex.length names.length)) := Lib.hid (any_drop _ hlt2)
                      clear hK2 hc02 hc12
                      generalize x.f1[m] = y at *
                      have e0 : (wr.alloc (.cells #[.int .i64 y.f0, .int .i64 y.f1] 85)).cell? ⟨w.heap.size, 0, none⟩ = some (.slice A0 lex.length c0) := ((hY.out.alloc _).cell 0).trans rfl
                      have e1 : (wr.alloc (.cells #[.int .i64 y.f0, .int .i64 y.f1] 85)).cell? ⟨w.heap.size, 1, none⟩ = some (.slice A1 names.length c1) := ((hY.out.alloc _).cell 1).trans rfl
                      have HS := Aside0.mk (symbol76 y lex.length names.length (wr.alloc (.cells #[.int .i64 y.f0, .int .i64 y.f1] 85)) hm0 hm1)
                      cases hs : symOk y lex.length names.length
                      · have HR : Hid (r = 70) := Lib.hid (KE.out HA.out HL.out HM.out HG.out (by rw [← hI.out, HD.out, HP.out, ← hJ.out, HD2.out, hs]; rfl))
                        rw [hs] at HS
                        clear hs
                        go_wp2_with (go_at_call 76; refine HS.out.mono ?_)
                        rintro e w5 ⟨rfl, k5⟩
                        have hY5 := (hY.out.alloc _).then k5
                        have HY5 := Aside0.mk hY5.1
                        clear k5 hY5
                        go_wp2
                        go_ret
                        exact ⟨ret_of HR.out, HY5.out⟩
                      · have HN : Hid ((x.f1.drop (m + 1)).any (fun y => !symOk y lex.length names.length) = x.f1.any fun y => !symOk y lex.length names.length) := Lib.hid (by rw [← hJ.out, HD2.out, hs]; rfl)
                        rw [hs] at HS
                        clear hs
                        go_wp2_with (go_at_call 76; refine HS.out.mono ?_)
                        rintro e w5 ⟨rfl, k5⟩
                        have HY5 := Aside0.mk ((hY.out.alloc _).then k5)
                        have HZ5 := Aside0.mk ((hZ.out.alloc _).then k5)
                        clear k5
                        go_wp2
                        go_roundw
                        case rel => exact ⟨m + 1, by omega, by go_num, HY5, HZ5, ⟨HN.out⟩⟩
                        case measure => simp [intOf]; omega
                    · obtain rfl : m = x.f1.length := by omega
                      have HN : Hid ((prods.drop (k + 1)).any (prodBad lex.length names.length) = prods.any (prodBad lex.length names.length)) := Lib.hid (by
                        rw [← hI.out, HD.out, HP.out, ← hJ.out, List.drop_length]; rfl)
                      go_wp2
                      go_roundw
                      case rel => exact ⟨k + 1, by omega, by go_num, hY, ⟨HN.out⟩⟩
                      case measure => simp [intOf]; omega
                · obtain rfl : k = prods.length := by omega
                  have HR : Hid (r = 0) := Lib.hid (KF.out HA.out HL.out HM.out HG.out (by rw [← hI.out, List.drop_length]; rfl))
                  go_wp2
                  go_ret
                  exact ⟨ret_of HR.out, hX.out.1⟩
end Go.Proofs.YtpnkifincadakaaGreatDoor.Wr
end
