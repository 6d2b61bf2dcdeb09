/- Proved: part 15 of the proof of PackReads (Ck, PPackSpecsx5, Pl6). Conditions: each theorem states its own. -/
import Derived.Test.YtpnkifincadakaaGreatDoorP13
import Derived.Test.YtpnkifincadakaaGreatDoorP14
set_option linter.unusedVariables false
set_option linter.unusedSimpArgs false
section
namespace Go.Proofs.YtpnkifincadakaaGreatDoor.Wr
open Go.RowKit Go.Pk Go.Proofs.YtpnkifincadakaaGreatDoorW.PrintWords Go.Proofs.YtpnkifincadakaaGreatDoor.PPackSpecs
set_option maxHeartbeats 16000000 in
set_option maxRecDepth 100000 in
theorem rright147 (n : Nat) : ∀ (e : S40), sizeE e ≤ n → ∀ (A : Option Addr) (c : Nat) (w : World), k40.C w A e.f5.length e.f5 →
    Calls Tryz.prog 147 #[.agg #[.int .i64 e.f0, .int .i64 e.f1, .int .i64 e.f2, .int .i64 e.f3, .int .i64 e.f4, .slice A e.f5.length c]] w fun r w' => r = .returned (.bool (rightE e)) ∧ Below w.heap.size w w' := by
  induction n with
  | zero => intro e h; have := sizeE_pos e; omega
  | succ n ih =>
    intro e hn A c w hC
    have hE := rightE_eq e
    rw [sizeE_eq] at hn
    obtain ⟨r, hr⟩ : ∃ r, r = rightE e := ⟨_, rfl⟩
    rw [← hr] at hE ⊢
    clear hr
    obtain ⟨a, b, d, f, g, l⟩ := e
    dsimp only at hn hC hE ⊢
    have hm := Kd.C_max hC
    have HC := Aside0.mk hC
    have IH := Aside0.mk ih
    have HN := Aside0.mk hn
    clear hC ih hn
    have HB := Aside0.mk (Bx.start w a b d f g A l.length c)
    cases ho : ownOk ⟨a, b, d, f, g, l⟩ with
    | false =>
      have HR : Hid (r = false) := Lib.hid (by rw [hE, ho]; rfl)
      have F : (a ≠ 1 ∧ a ≠ 2 ∧ a ≠ 3 ∧ a ≠ 4) ∨
          (a = 1 ∧ ((l.length : Int) ≠ 0 ∨ (l.length : Int) = 0 ∧ (f ≠ 0 ∨ f = 0 ∧ (g ≠ 0 ∨ g = 0 ∧ (¬ 0 ≤ b ∨ 0 ≤ b ∧ (¬ b ≤ d ∨ b ≤ d ∧ ¬ d ≤ 255)))))) ∨
          (a = 2 ∧ (b ≠ 0 ∨ b = 0 ∧ (d ≠ 0 ∨ d = 0 ∧ (f ≠ 0 ∨ f = 0 ∧ (g ≠ 0 ∨ g = 0 ∧ (l.length : Int) = 1))))) ∨
          (a = 3 ∧ (b ≠ 0 ∨ b = 0 ∧ (d ≠ 0 ∨ d = 0 ∧ (f ≠ 0 ∨ f = 0 ∧ (g ≠ 0 ∨ g = 0 ∧ ((l.length : Int) = 1 ∨ (l.length : Int) ≠ 1 ∧ (l.length : Int) = 0)))))) ∨
          (a = 4 ∧ (b ≠ 0 ∨ b = 0 ∧ (d ≠ 0 ∨ d = 0 ∧ ((l.length : Int) ≠ 1 ∨ (l.length : Int) = 1 ∧ (f < 0 ∨ ¬ f < 0 ∧ (1000 < f ∨ ¬ 1000 < f ∧ (g ≠ -1 ∧ (g < f ∨ ¬ g < f ∧ 1000 < g)))))))) := by
        clear HB HC HN IH
        unfold ownOk at ho
        dsimp only at ho
        repeat' split at ho
        all_goals (simp only [decide_eq_false_iff_not] at ho; omega)
      clear hE ho
      rcases F with ⟨h, k1, k2, k3⟩ | ⟨rfl, h | ⟨k1, h | ⟨rfl, h | ⟨rfl, h | ⟨k2, h | ⟨k3, h⟩⟩⟩⟩⟩⟩ | ⟨rfl, h | ⟨rfl, h | ⟨rfl, h | ⟨rfl, h | ⟨rfl, h⟩⟩⟩⟩⟩ |
        ⟨rfl, h | ⟨rfl, h | ⟨rfl, h | ⟨rfl, h | ⟨rfl, h | ⟨h, k1⟩⟩⟩⟩⟩⟩ | ⟨rfl, h | ⟨rfl, h | ⟨rfl, h | ⟨k1, h | ⟨k2, h | ⟨k3, h, h1 | ⟨k4, h1⟩⟩⟩⟩⟩⟩⟩
      all_goals
        try (first | replace h := bf h | replace h := df h | replace h := bt h); obtain ⟨h, h'⟩ := h
        try (first | replace k1 := bf k1 | replace k1 := df k1 | replace k1 := bt k1); obtain ⟨k1, k1'⟩ := k1
        try (first | replace k2 := bf k2 | replace k2 := df k2); obtain ⟨k2, k2'⟩ := k2
        try (first | replace k3 := bf k3 | replace k3 := df k3); obtain ⟨k3, k3'⟩ := k3
        try (first | replace k4 := df k4); obtain ⟨k4, k4'⟩ := k4
        go_enter Tryz.func147, Tryz.ntmps147
        go_wp2
        go_ret
        exact ⟨by rw [HR.out]; rfl, HB.out.below⟩
    | true =>
      rw [ho, Bool.true_and] at hE
      have T : (a = 1 ∧ (l.length : Int) = 0 ∧ f = 0 ∧ g = 0 ∧ 0 ≤ b ∧ b ≤ d ∧ d ≤ 255) ∨
          (a = 2 ∧ b = 0 ∧ d = 0 ∧ f = 0 ∧ g = 0 ∧ (l.length : Int) ≠ 1) ∨ (a = 3 ∧ b = 0 ∧ d = 0 ∧ f = 0 ∧ g = 0 ∧ (l.length : Int) ≠ 1 ∧ (l.length : Int) ≠ 0) ∨
          (a = 4 ∧ b = 0 ∧ d = 0 ∧ (l.length : Int) = 1 ∧ ¬ f < 0 ∧ ¬ 1000 < f ∧ (g = -1 ∨ g ≠ -1 ∧ ¬ g < f ∧ ¬ 1000 < g)) := by
        clear HB HC HN IH
        unfold ownOk at ho
        dsimp only at ho
        repeat' split at ho
        all_goals (simp only [decide_eq_true_eq, Bool.false_eq_true] at ho; try omega)
      clear ho
      rcases T with ⟨rfl, k1, rfl, rfl, h1, h2, h3⟩ | T
      · have HR : Hid (r = true) := Lib.hid (by rw [hE, List.eq_nil_of_length_eq_zero (by omega : l.length = 0)]; rfl)
        replace k1 := bt k1
        obtain ⟨k1, k1'⟩ := k1
        clear hE
        go_enter Tryz.func147, Tryz.ntmps147
        go_wp2
        go_ret
        exact ⟨by rw [HR.out]; rfl, HB.out.below⟩
      have HE := Aside0.mk hE
      clear hE
      rcases T with ⟨rfl, rfl, rfl, rfl, rfl, k1⟩ | ⟨rfl, rfl, rfl, rfl, rfl, k1, k2⟩ | ⟨rfl, rfl, rfl, k1, k2, k3, rfl | ⟨k4, k5, k6⟩⟩
      all_goals
        try (first | replace k1 := bf k1 | replace k1 := bt k1); obtain ⟨k1, k1'⟩ := k1
        try (first | replace k2 := bf k2 | replace k2 := df k2); obtain ⟨k2, k2'⟩ := k2
        try (first | replace k3 := df k3); obtain ⟨k3, k3'⟩ := k3
        try (first | replace k4 := bf k4); obtain ⟨k4, k4'⟩ := k4
        try (first | replace k5 := df k5); obtain ⟨k5, k5'⟩ := k5
        try (first | replace k6 := df k6); obtain ⟨k6, k6'⟩ := k6
        go_enter Tryz.func147, Tryz.ntmps147
        go_wp2
        clear k1 k1'
        go_loopw [4] (fun i wr => ∃ k : Nat, k ≤ l.length ∧ i = .int .i64 k ∧ Aside0 (Bx w A l.length c wr) ∧ Aside0 (rightL (l.drop k) = r)) (fun i _ => l.length - (intOf i).toNat)
        case atStart => exact ⟨0, Nat.zero_le _, rfl, HB, ⟨HE.out.symm⟩⟩
        case round =>
          obtain ⟨k, hk, rfl, hX, hI⟩ := hrel
          have p5 : wr.cell? ⟨w.heap.size, 5, none⟩ = some (.slice A l.length c) := hX.out.cell
          by_cases hlt : k < l.length
          · obtain ⟨ad, cs, rfl, hK, hc0, hc1⟩ := C_at (Kd.C_below HC.out hX.out.below) k hlt
            obtain ⟨A7, c7, rfl, l7, g7⟩ := k40_open hK
            have d0 : wr.cell? (ad.add (k * 6)) = some (.int .i64 l[k].f0) := hc0 _ rfl
            have d1 : wr.cell? ⟨(ad.add (k * 6)).block, (ad.add (k * 6)).off + 1, none⟩ = some (.int .i64 l[k].f1) := hc1 1 _ (by decide) rfl
            have d2 : wr.cell? ⟨(ad.add (k * 6)).block, (ad.add (k * 6)).off + 2, none⟩ = some (.int .i64 l[k].f2) := hc1 2 _ (by decide) rfl
            have d3 : wr.cell? ⟨(ad.add (k * 6)).block, (ad.add (k * 6)).off + 3, none⟩ = some (.int .i64 l[k].f3) := hc1 3 _ (by decide) rfl
            have d4 : wr.cell? ⟨(ad.add (k * 6)).block, (ad.add (k * 6)).off + 4, none⟩ = some (.int .i64 l[k].f4) := hc1 4 _ (by decide) rfl
            have d5 : wr.cell? ⟨(ad.add (k * 6)).block, (ad.add (k * 6)).off + 5, none⟩ = some (.slice A7 l[k].f5.length c7) := hc1 5 _ (by decide) rfl
            have hsz : sizeE l[k] ≤ n := by
              have := mem_size _ _ (List.getElem_mem hlt)
              have := HN.out
              omega
            have HS := Aside0.mk (IH.out l[k] hsz A7 c7 wr g7)
            have HD : Hid (rightL (l.drop k) = (rightE l[k] && rightL (l.drop (k + 1)))) := Lib.hid (rightL_drop hlt)
            clear hK hc0 hc1 g7 hsz
            generalize l[k] = x at *
            cases hs : rightE x
            · have HR : Hid (r = false) := Lib.hid (by rw [← hI.out, HD.out, hs]; rfl)
              rw [hs] at HS
              clear hs
              go_wp2_with (go_at_call 147; refine HS.out.mono ?_)
              first | rintro e w2 rfl k2 | rintro e w2 ⟨rfl, k2⟩
              have hX2 := Aside0.mk (hX.out.then k2)
              clear k2
              go_wp2
              go_ret
              exact ⟨by rw [HR.out]; rfl, hX2.out.below⟩
            · have HN : Hid (rightL (l.drop (k + 1)) = r) := Lib.hid (by rw [← hI.out, HD.out, hs]; rfl)
              rw [hs] at HS
              clear hs
              go_wp2_with (go_at_call 147; refine HS.out.mono ?_)
              first | rintro e w2 rfl k2 | rintro e w2 ⟨rfl, k2⟩
              have hX2 := Aside0.mk (hX.out.then k2)
              clear k2
              go_wp2
              go_roundw
              case rel => exact ⟨k + 1, by omega, by go_num, hX2, ⟨HN.out⟩⟩
              case measure => simp [intOf]; omega
          · obtain rfl : k = l.length := by omega
            have HR : Hid (r = true) := Lib.hid (by rw [← hI.out, List.drop_length]; rfl)
            go_wp2
            go_ret
            exact ⟨by rw [HR.out]; rfl, hX.out.below⟩
set_option maxHeartbeats 16000000 in
set_option maxRecDepth 100000 in
theorem rpos148 (n : Nat) : ∀ (e : S40), sizeE e ≤ n → rightE e = true → ∀ (A : Option Addr) (c : Nat) (w : World), k40.C w A e.f5.length e.f5 →
    Calls Tryz.prog 148 #[.agg #[.int .i64 e.f0, .int .i64 e.f1, .int .i64 e.f2, .int .i64 e.f3, .int .i64 e.f4, .slice A e.f5.length c]] w fun r w' => r = .returned (.int .i64 (posE e)) ∧ Below w.heap.size w w' := by
  induction n with
  | zero => intro e h; have := sizeE_pos e; omega
  | succ n ih =>
    intro e hn hr A c w hC
    have hE := posE_eq e
    have hcb : e.f0 = 4 → 0 ≤ copiesOf e ∧ copiesOf e ≤ 1000 ∧ e.f5.length = 1 := copies_bound hr
    rw [rightE_eq, Bool.and_eq_true] at hr
    obtain ⟨ho, hrl⟩ := hr
    rw [sizeE_eq] at hn
    have hpl := (pos_bound (sizeL e.f5)).2 e.f5 (Nat.le_refl _) hrl
    obtain ⟨r, hr⟩ : ∃ r, r = posE e := ⟨_, rfl⟩
    rw [← hr] at hE ⊢
    clear hr ho
    obtain ⟨a, b, d, f, g, l⟩ := e
    unfold copiesOf at hE hcb
    dsimp only at hn hC hE hrl hcb hpl ⊢
    have hm := Kd.C_max hC
    have HC := Aside0.mk hC
    have IH := Aside0.mk ih
    have HN := Aside0.mk hn
    have HE := Aside0.mk hE
    have HRL := Aside0.mk hrl
    have HCB := Aside0.mk hcb
    have HPL := Aside0.mk hpl
    clear hC ih hn hE hrl hcb hpl
    have HB := Aside0.mk (Box.start w #[.int .i64 a, .int .i64 b, .int .i64 d, .int .i64 f, .int .i64 g, .slice A l.length c] 40)
    go_enter Tryz.func148, Tryz.ntmps148
    go_wp2
    go_loopw [3, 4] (fun v i wr => ∃ (k : Nat) (s : Int), k ≤ l.length ∧ v = .int .i64 s ∧ i = .int .i64 k ∧ 0 ≤ s ∧ s ≤ 4097 ∧ Aside0 (Box w w.heap.size #[.int .i64 a, .int .i64 b, .int .i64 d, .int .i64 f, .int .i64 g, .slice A l.length c] 40 wr) ∧ Aside0 (rightL (l.drop k) = true) ∧ Aside0 (min (s + posL (l.drop k)) 4097 = min (posL l) 4097)) (fun _ i _ => l.length - (intOf i).toNat)
    case atStart => exact ⟨0, 0, Nat.zero_le _, rfl, rfl, by omega, by omega, HB, HRL, ⟨by rw [Int.zero_add]; rfl⟩⟩
    case round =>
      obtain ⟨k, s, hk, rfl, rfl, hs0, hs1, hX, hY, hI⟩ := hrel
      have p5 : wr.cell? ⟨w.heap.size, 5, none⟩ = some (.slice A l.length c) := (hX.out.cell 5).trans rfl
      by_cases hlt : k < l.length
      · obtain ⟨ad, cs, rfl, hK, hc0, hc1⟩ := C_at (Kd.C_below HC.out hX.out.1) k hlt
        obtain ⟨A7, c7, rfl, l7, g7⟩ := k40_open hK
        have d0 : wr.cell? (ad.add (k * 6)) = some (.int .i64 l[k].f0) := hc0 _ rfl
        have d1 : wr.cell? ⟨(ad.add (k * 6)).block, (ad.add (k * 6)).off + 1, none⟩ = some (.int .i64 l[k].f1) := hc1 1 _ (by decide) rfl
        have d2 : wr.cell? ⟨(ad.add (k * 6)).block, (ad.add (k * 6)).off + 2, none⟩ = some (.int .i64 l[k].f2) := hc1 2 _ (by decide) rfl
        have d3 : wr.cell? ⟨(ad.add (k * 6)).block, (ad.add (k * 6)).off + 3, none⟩ = some (.int .i64 l[k].f3) := hc1 3 _ (by decide) rfl
        have d4 : wr.cell? ⟨(ad.add (k * 6)).block, (ad.add (k * 6)).off + 4, none⟩ = some (.int .i64 l[k].f4) := hc1 4 _ (by decide) rfl
        have d5 : wr.cell? ⟨(ad.add (k * 6)).block, (ad.add (k * 6)).off + 5, none⟩ = some (.slice A7 l[k].f5.length c7) := hc1 5 _ (by decide) rfl
        have hsz : sizeE l[k] ≤ n := by
          have := mem_size _ _ (List.getElem_mem hlt)
          have := HN.out
          omega
        have hy := hY.out
        rw [rightL_drop hlt, Bool.and_eq_true] at hy
        have hq := (pos_bound n).1 l[k] hsz hy.1
        have hpd := (pos_bound _).2 (l.drop (k + 1)) (Nat.le_refl _) hy.2
        have HS := Aside0.mk (IH.out l[k] hsz hy.1 A7 c7 wr g7)
        have HD := Aside0.mk (posL_drop hlt)
        have HY2 := Aside0.mk hy.2
        have HPD := Aside0.mk hpd.1
        obtain ⟨hq0, hq1⟩ := hq
        clear hK hc0 hc1 g7 hsz hy hpd
        generalize l[k] = x at *
        generalize posE x = q at *
        by_cases hb : 4096 < s + q
        · have HM := Aside0.mk (show min (4097 + posL (l.drop (k + 1))) 4097 = min (posL l) 4097 by
            have := hI.out
            rw [HD.out] at this
            have := HPD.out
            omega)
          go_wp2_with (go_at_call 148; refine HS.out.mono ?_)
          first | rintro e w2 rfl k2 | rintro e w2 ⟨rfl, k2⟩
          have hX2 := Aside0.mk (hX.out.then k2)
          clear k2
          go_wp2
          go_roundw
          case rel => exact ⟨k + 1, 4097, by omega, rfl, by go_num, by omega, by omega, hX2, HY2, HM⟩
          case measure => simp [intOf]; omega
        · have HM := Aside0.mk (show min (s + q + posL (l.drop (k + 1))) 4097 = min (posL l) 4097 by
            have := hI.out
            rw [HD.out] at this
            omega)
          have hb' : decide (4096 < s + q) = false := decide_eq_false hb
          go_wp2_with (go_at_call 148; refine HS.out.mono ?_)
          first | rintro e w2 rfl k2 | rintro e w2 ⟨rfl, k2⟩
          have hX2 := Aside0.mk (hX.out.then k2)
          clear k2
          go_wp2
          go_roundw
          case rel => exact ⟨k + 1, s + q, by omega, by go_num, by go_num, by omega, by omega, hX2, HY2, HM⟩
          case measure => simp [intOf]; omega
      · obtain rfl : k = l.length := by omega
        have hs : s = min (posL l) 4097 := by
          have := hI.out
          rw [List.drop_length] at this
          simp only [posL] at this
          omega
        have e0 : wr.cell? ⟨w.heap.size, 0, none⟩ = some (.int .i64 a) := (hX.out.cell 0).trans rfl
        have e3 : wr.cell? ⟨w.heap.size, 3, none⟩ = some (.int .i64 f) := (hX.out.cell 3).trans rfl
        have e4 : wr.cell? ⟨w.heap.size, 4, none⟩ = some (.int .i64 g) := (hX.out.cell 4).trans rfl
        have hE := HE.out
        by_cases h1 : a = 1
        · have HR : Hid (r = 1) := Lib.hid (by rw [hE, if_pos h1])
          subst h1
          clear hs hE
          go_wp2
          go_ret
          exact ⟨ret_of HR.out, hX.out.1⟩
        rw [if_neg h1] at hE
        obtain ⟨h1, h1'⟩ := bf h1
        by_cases h4 : a = 4
        · subst h4
          obtain ⟨c1, c2, c3⟩ := HCB.out rfl
          have hpl := HPL.out
          rw [c3] at hpl
          have hsp : s = posL l := by omega
          rw [if_pos rfl, ← hsp] at hE
          clear hs hsp hpl c3
          by_cases hg : g < 0
          · rw [if_pos hg] at hE c1 c2
            have hg' : decide (0 ≤ g) = false := decide_eq_false (by omega)
            by_cases hf : 1 < f
            · rw [show max f 1 = f by omega] at hE c1 c2
              obtain ⟨m0, m1⟩ : 0 ≤ s * f ∧ s * f ≤ 4097 * 1000 := ⟨Int.mul_nonneg hs0 c1, Int.le_trans (Int.mul_le_mul_of_nonneg_right hs1 c1) (Int.mul_le_mul_of_nonneg_left c2 (by omega))⟩
              by_cases hb : 4096 < s * f
              · have HR : Hid (r = 4097) := Lib.hid (by omega)
                clear hE
                go_wp2
                go_ret
                exact ⟨ret_of HR.out, hX.out.1⟩
              · have HR : Hid (r = s * f) := Lib.hid (by omega)
                have hb' : decide (4096 < s * f) = false := decide_eq_false hb
                clear hE
                go_wp2
                go_ret
                exact ⟨ret_of HR.out, hX.out.1⟩
            · rw [show max f 1 = 1 by omega, Int.mul_one] at hE
              have HR : Hid (r = s) := Lib.hid (by omega)
              have hf' : decide (1 < f) = false := decide_eq_false hf
              clear hE c1 c2
              by_cases hb : 4096 < s
              · obtain rfl : s = 4097 := by omega
                go_wp2
                go_ret
                exact ⟨ret_of HR.out, hX.out.1⟩
              · have hb' : decide (4096 < s) = false := decide_eq_false hb
                go_wp2
                go_ret
                exact ⟨ret_of HR.out, hX.out.1⟩
          · rw [if_neg hg] at hE c1 c2
            obtain ⟨m0, m1⟩ : 0 ≤ s * g ∧ s * g ≤ 4097 * 1000 := ⟨Int.mul_nonneg hs0 c1, Int.le_trans (Int.mul_le_mul_of_nonneg_right hs1 c1) (Int.mul_le_mul_of_nonneg_left c2 (by omega))⟩
            by_cases hb : 4096 < s * g
            · have HR : Hid (r = 4097) := Lib.hid (by omega)
              clear hE
              go_wp2
              go_ret
              exact ⟨ret_of HR.out, hX.out.1⟩
            · have HR : Hid (r = s * g) := Lib.hid (by omega)
              have hb' : decide (4096 < s * g) = false := decide_eq_false hb
              clear hE
              go_wp2
              go_ret
              exact ⟨ret_of HR.out, hX.out.1⟩
        · rw [if_neg h4] at hE
          obtain ⟨h4, h4'⟩ := bf h4
          have HR : Hid (r = s) := Lib.hid (by rw [hE, hs])
          clear hE hs
          by_cases hb : 4096 < s
          · obtain rfl : s = 4097 := by omega
            go_wp2
            go_ret
            exact ⟨ret_of HR.out, hX.out.1⟩
          · have hb' : decide (4096 < s) = false := decide_eq_false hb
            go_wp2
            go_ret
            exact ⟨ret_of HR.out, hX.out.1⟩
theorem guard146 (e : S40) (hl : limE e) (A : Option Addr) (c : Nat) (w : World) (h : k40.C w A e.f5.length e.f5) (hc : e.f5.length ≤ c) :
    Calls Tryz.prog 146 #[.agg #[.int .i64 e.f0, .int .i64 e.f1, .int .i64 e.f2, .int .i64 e.f3, .int .i64 e.f4, .slice A e.f5.length c]] w fun r w' => r = .returned (.int .i64 (if 4096 < sizeE e then 2 else if 64 < depE e then 5 else 0)) ∧ Below w.heap.size w w' :=
  graftref2_Guard.calls _ e.f0 e.f1 e.f2 e.f3 e.f4 (fun k => k < w.heap.size) A c e.f5 _ w (Kd.V_mk hc (Kd.C_F k40_heap h)) (guard_any e hl _ (Nat.le_refl _))
set_option maxHeartbeats 16000000 in
set_option maxRecDepth 100000 in
theorem check82 (x : S40) (hl : limE x) (A : Option Addr) (c : Nat) (w : World) (h : k40.C w A x.f5.length x.f5) (hc : x.f5.length ≤ c) :
    Calls Tryz.prog 82 #[.agg #[.int .i64 x.f0, .int .i64 x.f1, .int .i64 x.f2, .int .i64 x.f3, .int .i64 x.f4, .slice A x.f5.length c]] w fun e w' => e = .returned (.int .i64 (chk x)) ∧ Below w.heap.size w w' := by
  have hG := fun o => guard146 x hl A c (w.alloc o) (Kd.C_alloc h o) hc
  have HQ := Aside0.mk fun w' (hb : Below w.heap.size w w') => rright147 (sizeE x) x (Nat.le_refl _) A c w' (Kd.C_below h hb)
  have HP := Aside0.mk fun (hr : rightE x = true) w' (hb : Below w.heap.size w w') => rpos148 (sizeE x) x (Nat.le_refl _) hr A c w' (Kd.C_below h hb)
  have HB := Aside0.mk (Box.start w #[.int .i64 x.f0, .int .i64 x.f1, .int .i64 x.f2, .int .i64 x.f3, .int .i64 x.f4, .slice A x.f5.length c] 40)
  have hcx : chk x = if 4096 < sizeE x then 2 else if 64 < depE x then 5 else if rightE x = false then 20 else if 4096 < posE x then 21 else 0 := rfl
  obtain ⟨r, hr⟩ : ∃ r, r = chk x := ⟨_, rfl⟩
  rw [← hr] at hcx ⊢
  have HE := Aside0.mk hcx
  clear hr hcx h
  obtain ⟨f, hf⟩ : ∃ f : Int, f = if 4096 < sizeE x then 2 else if 64 < depE x then 5 else 0 := ⟨_, rfl⟩
  rw [← hf] at hG
  have HG := Aside0.mk hG
  have HF := Aside0.mk hf
  clear hG hf
  by_cases h0 : f = 0
  rotate_left
  · have HR : Hid (r = f) := Lib.hid (by
      rw [HE.out]
      have := HF.out
      by_cases h1 : 4096 < sizeE x
      · rw [if_pos h1] at this ⊢; exact this.symm
      · rw [if_neg h1] at this ⊢
        by_cases h2 : 64 < depE x
        · rw [if_pos h2] at this ⊢; exact this.symm
        · rw [if_neg h2] at this; exact absurd this h0)
    obtain ⟨h0, h0'⟩ := bf h0
    go_enter Tryz.func82, Tryz.ntmps82
    go_wp2_with (go_at_call 146; refine (HG.out _).mono ?_)
    first | rintro e w1 rfl k1 | rintro e w1 ⟨rfl, k1⟩
    have HB1 := Aside0.mk (HB.out.then k1)
    clear k1
    go_wp2
    go_ret
    exact ⟨ret_of HR.out, HB1.out.1⟩
  have hE : r = if rightE x = false then 20 else if 4096 < posE x then 21 else 0 := by
    have := HF.out
    rw [h0] at this
    rw [HE.out]
    by_cases h1 : 4096 < sizeE x
    · rw [if_pos h1] at this; exact absurd this (by decide)
    · rw [if_neg h1] at this ⊢
      by_cases h2 : 64 < depE x
      · rw [if_pos h2] at this; exact absurd this (by decide)
      · rw [if_neg h2]
  subst h0
  clear HF HE
  go_enter Tryz.func82, Tryz.ntmps82
  have HE := Aside0.mk hE
  clear hE
  go_wp2_with (go_at_call 146; refine (HG.out _).mono ?_)
  first | rintro e w1 rfl k1 | rintro e w1 ⟨rfl, k1⟩
  have HB1 := Aside0.mk (HB.out.then k1)
  clear k1
  have f0 : w1.cell? ⟨w.heap.size, 0, none⟩ = some (.int .i64 x.f0) := (HB1.out.cell 0).trans rfl
  have f1 : w1.cell? ⟨w.heap.size, 1, none⟩ = some (.int .i64 x.f1) := (HB1.out.cell 1).trans rfl
  have f2 : w1.cell? ⟨w.heap.size, 2, none⟩ = some (.int .i64 x.f2) := (HB1.out.cell 2).trans rfl
  have f3 : w1.cell? ⟨w.heap.size, 3, none⟩ = some (.int .i64 x.f3) := (HB1.out.cell 3).trans rfl
  have f4 : w1.cell? ⟨w.heap.size, 4, none⟩ = some (.int .i64 x.f4) := (HB1.out.cell 4).trans rfl
  have f5 : w1.cell? ⟨w.heap.size, 5, none⟩ = some (.slice A x.f5.length c) := (HB1.out.cell 5).trans rfl
  cases hq : rightE x
  · have HR : Hid (r = 20) := Lib.hid (by rw [HE.out, if_pos hq])
    rw [hq] at HQ
    clear hq
    go_wp2_with (go_at_call 147; refine (HQ.out _ HB1.out.1).mono ?_)
    first | rintro e w2 rfl k2 | rintro e w2 ⟨rfl, k2⟩
    have HB2 := Aside0.mk (HB1.out.then k2)
    clear k2
    go_wp2
    go_ret
    exact ⟨ret_of HR.out, HB2.out.1⟩
  have hE := HE.out
  rw [if_neg (by rw [hq]; simp)] at hE
  have HP2 := Aside0.mk (HP.out hq)
  rw [hq] at HQ
  clear hq HE
  have HE := Aside0.mk hE
  clear hE
  go_wp2_with (go_at_call 147; refine (HQ.out _ HB1.out.1).mono ?_)
  first | rintro e w2 rfl k2 | rintro e w2 ⟨rfl, k2⟩
  have HB2 := Aside0.mk (HB1.out.then k2)
  clear k2
  have f0 : w2.cell? ⟨w.heap.size, 0, none⟩ = some (.int .i64 x.f0) := (HB2.out.cell 0).trans rfl
  have f1 : w2.cell? ⟨w.heap.size, 1, none⟩ = some (.int .i64 x.f1) := (HB2.out.cell 1).trans rfl
  have f2 : w2.cell? ⟨w.heap.size, 2, none⟩ = some (.int .i64 x.f2) := (HB2.out.cell 2).trans rfl
  have f3 : w2.cell? ⟨w.heap.size, 3, none⟩ = some (.int .i64 x.f3) := (HB2.out.cell 3).trans rfl
  have f4 : w2.cell? ⟨w.heap.size, 4, none⟩ = some (.int .i64 x.f4) := (HB2.out.cell 4).trans rfl
  have f5 : w2.cell? ⟨w.heap.size, 5, none⟩ = some (.slice A x.f5.length c) := (HB2.out.cell 5).trans rfl
  generalize posE x = q at *
  by_cases h3 : 4096 < q
  · have HR : Hid (r = 21) := Lib.hid (by rw [HE.out, if_pos h3])
    go_wp2_with (go_at_call 148; refine (HP2.out _ HB2.out.1).mono ?_)
    first | rintro e w3 rfl k3 | rintro e w3 ⟨rfl, k3⟩
    have HB3 := Aside0.mk (HB2.out.then k3)
    clear k3
    go_wp2
    go_ret
    exact ⟨ret_of HR.out, HB3.out.1⟩
  · have HR : Hid (r = 0) := Lib.hid (by rw [HE.out, if_neg h3])
    have h3' : decide (4096 < q) = false := decide_eq_false h3
    go_wp2_with (go_at_call 148; refine (HP2.out _ HB2.out.1).mono ?_)
    first | rintro e w3 rfl k3 | rintro e w3 ⟨rfl, k3⟩
    have HB3 := Aside0.mk (HB2.out.then k3)
    clear k3
    go_wp2
    go_ret
    exact ⟨ret_of HR.out, HB3.out.1⟩
end Go.Proofs.YtpnkifincadakaaGreatDoor.Wr
end
section
namespace Go.Proofs.YtpnkifincadakaaGreatDoor.PPackSpecs
open Go.RowKit Go.Proofs.YtpnkifincadakaaGreatDoorW.PrintWords Go.Proofs.YtpnkifincadakaaGreatDoorW.PrintLast Go.Proofs.YtpnkifincadakaaGreatDoorW.PrintMore
attribute [local go_sem] max2_int min2_int max_two min_two
mutual
def graftlaw18_count.l0 : Nat → Int → Int → Int → Int → Int → Int → Int → Int → Int → List (S40) → Option (Int × Int)
  | 0, _, _, _, _, _, _, _, _, _, _ => none
  | k + 1, x1, x2, x8, x9, x147000, x147001, x147002, x147003, x147004, x147005 => if x9 < (x147005.length : Int) then (if x2 < 5000 then (if x1 < 100 then (if 0 ≤ x9 then ((graftlaw18_count.f k ((rd_T40 x147005 x9).f0) ((rd_T40 x147005 x9).f1) ((rd_T40 x147005 x9).f2) ((rd_T40 x147005 x9).f3) ((rd_T40 x147005 x9).f4) ((rd_T40 x147005 x9).f5) (wrap64 (x1 + 1)) x2).bind fun bt148 => (graftlaw18_count.l0 k x1 bt148.1 (mx x8 bt148.2) (wrap64 (x9 + 1)) x147000 x147001 x147002 x147003 x147004 x147005)) else (none)) else (some (x2, x8))) else (some (x2, x8))) else (some (x2, x8))
def graftlaw18_count.f : Nat → Int → Int → Int → Int → Int → List (S40) → Int → Int → Option (Int × Int)
  | 0, _, _, _, _, _, _, _, _ => none
  | k + 1, a0_0, a0_1, a0_2, a0_3, a0_4, l0_5, a1, a2 => graftlaw18_count.l0 k a1 (wrap64 (a2 + 1)) a1 0 a0_0 a0_1 a0_2 a0_3 a0_4 l0_5
end
theorem graftlaw18_count.mono_l : ∀ k, (∀ y0 y1 y2 y3 y4 y5 y6 y7, LeO (graftlaw18_count.f k y0 y1 y2 y3 y4 y5 y6 y7) (graftlaw18_count.f (k + 1) y0 y1 y2 y3 y4 y5 y6 y7)) ∧ (∀ y0 y1 y2 y3 y4 y5 y6 y7 y8 y9, LeO (graftlaw18_count.l0 k y0 y1 y2 y3 y4 y5 y6 y7 y8 y9) (graftlaw18_count.l0 (k + 1) y0 y1 y2 y3 y4 y5 y6 y7 y8 y9))
  | 0 => ⟨fun _ _ _ _ _ _ _ _ r h => by simp [graftlaw18_count.f] at h, fun _ _ _ _ _ _ _ _ _ _ r h => by simp [graftlaw18_count.l0] at h⟩
  | k + 1 => by
    obtain ⟨ih0, ih1⟩ := graftlaw18_count.mono_l k
    refine ⟨?_, ?_⟩
    · intro y0 y1 y2 y3 y4 y5 y6 y7
      unfold graftlaw18_count.f
      repeat' first
      | (with_reducible exact ih0 _ _ _ _ _ _ _ _)
      | (with_reducible exact ih1 _ _ _ _ _ _ _ _ _ _)
      | (with_reducible exact LeO.refl _)
      | (with_reducible exact LeO.none _)
      | (with_reducible refine LeO.ite ?_ ?_)
      | (with_reducible refine LeO.bind ?_ (fun _ => ?_))
      | exact ih0 _ _ _ _ _ _ _ _
      | exact ih1 _ _ _ _ _ _ _ _ _ _
      | exact LeO.none _
      | refine LeO.ite ?_ ?_
      | refine LeO.bind ?_ (fun _ => ?_)
    · intro y0 y1 y2 y3 y4 y5 y6 y7 y8 y9
      unfold graftlaw18_count.l0
      repeat' first
      | (with_reducible exact ih0 _ _ _ _ _ _ _ _)
      | (with_reducible exact ih1 _ _ _ _ _ _ _ _ _ _)
      | (with_reducible exact LeO.refl _)
      | (with_reducible exact LeO.none _)
      | (with_reducible refine LeO.ite ?_ ?_)
      | (with_reducible refine LeO.bind ?_ (fun _ => ?_))
      | exact ih0 _ _ _ _ _ _ _ _
      | exact ih1 _ _ _ _ _ _ _ _ _ _
      | exact LeO.none _
      | refine LeO.ite ?_ ?_
      | refine LeO.bind ?_ (fun _ => ?_)
theorem graftlaw18_count.mono : ∀ a0 a1 a2 a3 a4 a5 a6 a7 k, LeO (graftlaw18_count.f k a0 a1 a2 a3 a4 a5 a6 a7) (graftlaw18_count.f (k + 1) a0 a1 a2 a3 a4 a5 a6 a7) := by
  intro a0 a1 a2 a3 a4 a5 a6 a7 k
  obtain ⟨ih0, ih1⟩ := graftlaw18_count.mono_l k
  exact ih0 a0 a1 a2 a3 a4 a5 a6 a7
set_option maxHeartbeats 8000000 in
set_option maxRecDepth 100000 in
theorem graftlaw18_count.calls (k : Nat) : ∀ (a0_0 : Int) (a0_1 : Int) (a0_2 : Int) (a0_3 : Int) (a0_4 : Int) (A0_5 : Option Addr) (c0_5 : Nat) (l0_5 : List (S40)) (a1 : Int) (a2 : Int) (r1 : Int) (r2 : Int) (w : World) (hr0_5 : Kd.C k40 w A0_5 l0_5.length l0_5) (hc0_5 : l0_5.length ≤ c0_5) (h : graftlaw18_count.f k a0_0 a0_1 a0_2 a0_3 a0_4 l0_5 a1 a2 = some (r1, r2)),
    Calls Tryz.prog 74 #[.agg #[.int .i64 a0_0, .int .i64 a0_1, .int .i64 a0_2, .int .i64 a0_3, .int .i64 a0_4, .slice A0_5 l0_5.length c0_5], .int .i64 a1, .int .i64 a2] w fun e w' => e = .returned (.tuple #[.int .i64 r1, .int .i64 r2]) ∧ Below w.heap.size w w' := by
  induction k using Nat.strongRecOn with
  | _ k ih =>
  intro a0_0 a0_1 a0_2 a0_3 a0_4 A0_5 c0_5 l0_5 a1 a2 r1 r2 w hr0_5 hc0_5 h
  cases k with
  | zero => exact absurd h (by simp [graftlaw18_count.f])
  | succ k =>
  simp only [graftlaw18_count.f] at h
  have hu40 := Tryz.underlying40
  have HR0_5 := Aside0.mk hr0_5
  have HC0_5 := Aside0.mk hc0_5
  clear hr0_5 hc0_5
  have HB := Aside0.mk (Below.refl w.heap.size w)
  have H : (graftlaw18_count.l0 k a1 (wrap64 (a2 + 1)) a1 0 a0_0 a0_1 a0_2 a0_3 a0_4 l0_5) = some (r1, r2) := h
  clear h
  have H' := Aside0.mk H
  clear H
  go_enter Tryz.func74, Tryz.ntmps74
  go_wp2_with (first | ((with_reducible refine gate_dst (N := 3) rfl ?_); refine box_event ?hg (N := 3) ?hd (cs := #[.int .i64 a0_0, .int .i64 a0_1, .int .i64 a0_2, .int .i64 a0_3, .int .i64 a0_4, .slice A0_5 l0_5.length c0_5]) (t := 40) ?hr ?_; (case hd => rfl); (case hg => rfl); (case hr => first | (go_simp; done) | (go_simp; rfl)); intro gb146 hg w4 hbox hb; have n0_ := Aside0.mk (below_step (by repeat (first | (with_reducible first | exact HB.out | apply below_alloc | apply pw_below_drewN | apply below_drew1) | exact HB.out)) hb); have n1_ := Aside0.mk (hbox); have n2_ := Aside0.mk ((by rw [hg]; exact (below_size (by repeat (first | (with_reducible first | exact HB.out | apply below_alloc | apply pw_below_drewN | apply below_drew1) | exact HB.out))) : w.heap.size ≤ gb146)); have n3_ := Aside0.mk ((by rw [hg]; exact (below_size (by repeat (first | (with_reducible first | exact HB.out | apply below_alloc | apply pw_below_drewN | apply below_drew1) | exact HB.out))) : w.heap.size ≤ gb146)); clear HB; have HB := n0_; have BK146 := n1_; have GW146 := n2_; have GE146 := n3_; clear n0_ n1_ n2_ n3_; clear hb hbox hg))
  go_loopg [2, 8, 9] k (fun kq v2 v8 v9 w' => ∃ (x2_1 : Int) (x8_1 : Int) (x9_1 : Int), v2 = .int .i64 x2_1 ∧ v8 = .int .i64 x8_1 ∧ v9 = .int .i64 x9_1 ∧ Aside0 (graftlaw18_count.l0 kq a1 x2_1 x8_1 x9_1 a0_0 a0_1 a0_2 a0_3 a0_4 l0_5 = some (r1, r2)) ∧ Aside0 (kq ≤ k) ∧ Aside0 (w'.heap[gb146]? = some (.cells #[.int .i64 a0_0, .int .i64 a0_1, .int .i64 a0_2, .int .i64 a0_3, .int .i64 a0_4, (.slice A0_5 l0_5.length c0_5)] 40 (0, 0))) ∧ Aside0 (Below w.heap.size w w'))
  case atStart => exact ⟨(wrap64 (a2 + 1)), (a1), (0), (by first | rfl | (simp; done) | (simp [*]; done)), (by first | rfl | (simp; done) | (simp [*]; done)), (by first | rfl | (simp; done) | (simp [*]; done)), H', ⟨Nat.le_refl _⟩, ⟨by (with_reducible repeat (first | refine blk_drewN ?_ _ | refine blk_drew ?_ | refine blk_alloc ?_ _)); exact BK146.out⟩, ⟨by repeat (first | (with_reducible first | exact HB.out | apply below_alloc | apply pw_below_drewN | apply below_drew1 | refine below_set ?_ GE146.out) | exact HB.out)⟩⟩
  case round =>
    clear H'
    try clear p2
    obtain ⟨x2_1, x8_1, x9_1, rfl, rfl, rfl, HA, HK1, BK146, HB⟩ := hrel
    cases gk with
    | zero => exact absurd HA.out (by simp [graftlaw18_count.l0])
    | succ k1 =>
      have H := HA.out
      clear HA
      simp only [graftlaw18_count.l0] at H
      by_cases c5 : x9_1 < (l0_5.length : Int)
      · rw [if_pos c5] at H
        have c5b0 : decide (x9_1 < (l0_5.length : Int)) = true := decide_eq_true c5
        clear c5
        by_cases c6 : x2_1 < 5000
        · rw [if_pos c6] at H
          have c6b0 : decide (x2_1 < 5000) = true := decide_eq_true c6
          clear c6
          by_cases c7 : a1 < 100
          · rw [if_pos c7] at H
            have c7b0 : decide (a1 < 100) = true := decide_eq_true c7
            clear c7
            by_cases c8 : 0 ≤ x9_1
            · rw [if_pos c8] at H
              have c8b0 : decide (0 ≤ x9_1) = true := decide_eq_true c8
              clear c8
              replace H := Option.bind_eq_some_iff.mp H
              obtain ⟨⟨t148, t149⟩, A90, H⟩ := H
              replace H : (graftlaw18_count.l0 k1 a1 t148 (mx x8_1 t149) (wrap64 (x9_1 + 1)) a0_0 a0_1 a0_2 a0_3 a0_4 l0_5) = some (r1, r2) := H
              have A9 := Aside0.mk A90
              clear A90
              obtain ⟨ji10, hji10⟩ : ∃ j_ : Int, (mx x8_1 t149) = j_ := ⟨_, rfl⟩
              replace H : (graftlaw18_count.l0 k1 a1 t148 ji10 (wrap64 (x9_1 + 1)) a0_0 a0_1 a0_2 a0_3 a0_4 l0_5) = some (r1, r2) := by first | (rw [hji10] at H; exact H) | (simp only [hji10] at H ⊢; exact H)
              (try rw [hji10] at A9)
              have hji10_ : (if x8_1 < t149 then t149 else x8_1) = ji10 := hji10
              have H' := Aside0.mk H
              clear H
              have hcz11_0 : wr.cell? ⟨gb146, 0, none⟩ = some (.int .i64 a0_0) := (blk_cell BK146.out 0).trans rfl
              have hcz11_1 : wr.cell? ⟨gb146, 1, none⟩ = some (.int .i64 a0_1) := (blk_cell BK146.out 1).trans rfl
              have hcz11_2 : wr.cell? ⟨gb146, 2, none⟩ = some (.int .i64 a0_2) := (blk_cell BK146.out 2).trans rfl
              have hcz11_3 : wr.cell? ⟨gb146, 3, none⟩ = some (.int .i64 a0_3) := (blk_cell BK146.out 3).trans rfl
              have hcz11_4 : wr.cell? ⟨gb146, 4, none⟩ = some (.int .i64 a0_4) := (blk_cell BK146.out 4).trans rfl
              have hcz11_5 : wr.cell? ⟨gb146, 5, none⟩ = some (.slice A0_5 l0_5.length c0_5) := (blk_cell BK146.out 5).trans rfl
              have hfz11_0 := blk_frozen BK146.out 0
              have hfz11_1 := blk_frozen BK146.out 1
              have hfz11_2 := blk_frozen BK146.out 2
              have hfz11_3 := blk_frozen BK146.out 3
              have hfz11_4 := blk_frozen BK146.out 4
              have hfz11_5 := blk_frozen BK146.out 5
              have p147 : 0 ≤ (x9_1 : Int) := of_decide_eq_true (by first | (with_reducible assumption) | assumption)
              have q147 : x9_1 < (l0_5.length : Int) := of_decide_eq_true (by first | (with_reducible assumption) | assumption)
              obtain ⟨ad147, A147_5, c147_5, e147, hx147_0, hx147_1, hx147_2, hx147_3, hx147_4, hx147_5, hl147_5, hi147_5⟩ := at_T40 HR0_5.out x9_1 p147 q147
              cases e147
              replace hx147_0 := (HB.out.cell (World.block_lt_of_cell? w _ hx147_0)).trans hx147_0
              replace hx147_1 := (HB.out.cell (World.block_lt_of_cell? w _ hx147_1)).trans hx147_1
              replace hx147_2 := (HB.out.cell (World.block_lt_of_cell? w _ hx147_2)).trans hx147_2
              replace hx147_3 := (HB.out.cell (World.block_lt_of_cell? w _ hx147_3)).trans hx147_3
              replace hx147_4 := (HB.out.cell (World.block_lt_of_cell? w _ hx147_4)).trans hx147_4
              replace hx147_5 := (HB.out.cell (World.block_lt_of_cell? w _ hx147_5)).trans hx147_5
              have HR147_5 := Aside0.mk hi147_5
              have HC147_5 := Aside0.mk hl147_5
              clear hi147_5 hl147_5
              replace p147 := eq_true p147
              replace q147 := eq_true q147
              go_wp2_with (first | ((with_reducible refine gate_callee (f := 74) rfl ?_); refine goesL_ (some 39) rfl rfl Tryz.func74 (by kernel_rfl) rfl #[.agg #[.int .i64 ((rd_T40 l0_5 x9_1).f0), .int .i64 ((rd_T40 l0_5 x9_1).f1), .int .i64 ((rd_T40 l0_5 x9_1).f2), .int .i64 ((rd_T40 l0_5 x9_1).f3), .int .i64 ((rd_T40 l0_5 x9_1).f4), .slice A147_5 ((rd_T40 l0_5 x9_1).f5).length c147_5], .int .i64 (wrap64 (a1 + 1)), .int .i64 x2_1] rfl (by (try simp only [List.map_toArray, List.map_cons, List.map_nil]); first | done | rfl | (simp only [List.length_drop, List.length_take]; rfl)) ?_; (with_reducible refine (ih k1 (by have := HK1.out; omega) ((rd_T40 l0_5 x9_1).f0) ((rd_T40 l0_5 x9_1).f1) ((rd_T40 l0_5 x9_1).f2) ((rd_T40 l0_5 x9_1).f3) ((rd_T40 l0_5 x9_1).f4) _ _ ((rd_T40 l0_5 x9_1).f5) (wrap64 (a1 + 1)) x2_1 t148 t149 _ ?side1 ?side2 A9.out).mono ?_); (case side1 => repeat (first | exact (Kd.C_below HR147_5.out HB.out) | (with_reducible refine Kd.C_alloc ?_ _) | (with_reducible refine Kd.C_drewN ?_ _) | (with_reducible refine Kd.C_drew ?_))); (case side2 => exact HC147_5.out); rintro e w12 ⟨rfl, hb⟩; refine ⟨_, rfl, ?_⟩; have n0_ := Aside0.mk (blk_below (g := gb146) (o := .cells #[.int .i64 a0_0, .int .i64 a0_1, .int .i64 a0_2, .int .i64 a0_3, .int .i64 a0_4, .slice (some ad147) l0_5.length c0_5] 40 (0, 0)) (by (with_reducible repeat (first | refine blk_drewN ?_ _ | refine blk_drew ?_ | refine blk_alloc ?_ _)); exact BK146.out) hb); have n1_ := Aside0.mk (below_step (by repeat (first | (with_reducible first | exact HB.out | apply below_alloc | apply pw_below_drewN | apply below_drew1 | refine below_set ?_ GE146.out) | exact HB.out)) hb); clear BK146; clear HB; have BK146 := n0_; have HB := n1_; clear n0_ n1_; (try clear hb); (try clear hb2); (try clear hk); (try clear hi)))
              go_roundg k1
              case measure => have := HK1.out; omega
              case rel => exact ⟨(t148), (ji10), (wrap64 (x9_1 + 1)), (by first | rfl | (simp; done) | (simp [*]; done)), (by first | rfl | (simp; done) | (simp only [← hji10] <;> (first | rfl | simp)) | (simp [*]; done)), (by first | rfl | (simp; done) | (simp [*]; done)), H', ⟨by have := HK1.out; omega⟩, ⟨by (with_reducible repeat (first | refine blk_drewN ?_ _ | refine blk_drew ?_ | refine blk_alloc ?_ _)); exact BK146.out⟩, ⟨by repeat (first | (with_reducible first | exact HB.out | apply below_alloc | apply pw_below_drewN | apply below_drew1 | refine below_set ?_ GE146.out) | exact HB.out)⟩⟩
            · rw [if_neg c8] at H
              exact absurd H (by simp)
          · rw [if_neg c7] at H
            have c7b0 : decide (a1 < 100) = false := decide_eq_false c7
            clear c7
            simp only [Option.some.injEq, Prod.mk.injEq] at H
            obtain ⟨rfl, rfl⟩ := H
            have hcz13_0 : wr.cell? ⟨gb146, 0, none⟩ = some (.int .i64 a0_0) := (blk_cell BK146.out 0).trans rfl
            have hcz13_1 : wr.cell? ⟨gb146, 1, none⟩ = some (.int .i64 a0_1) := (blk_cell BK146.out 1).trans rfl
            have hcz13_2 : wr.cell? ⟨gb146, 2, none⟩ = some (.int .i64 a0_2) := (blk_cell BK146.out 2).trans rfl
            have hcz13_3 : wr.cell? ⟨gb146, 3, none⟩ = some (.int .i64 a0_3) := (blk_cell BK146.out 3).trans rfl
            have hcz13_4 : wr.cell? ⟨gb146, 4, none⟩ = some (.int .i64 a0_4) := (blk_cell BK146.out 4).trans rfl
            have hcz13_5 : wr.cell? ⟨gb146, 5, none⟩ = some (.slice A0_5 l0_5.length c0_5) := (blk_cell BK146.out 5).trans rfl
            have hfz13_0 := blk_frozen BK146.out 0
            have hfz13_1 := blk_frozen BK146.out 1
            have hfz13_2 := blk_frozen BK146.out 2
            have hfz13_3 := blk_frozen BK146.out 3
            have hfz13_4 := blk_frozen BK146.out 4
            have hfz13_5 := blk_frozen BK146.out 5
            go_wp2
            go_ret2
            exact ⟨by first | rfl | (simp [errW_none, errW_some] <;> rfl) | (simp [*, errW_none, errW_some] <;> rfl), by repeat (first | (with_reducible first | exact HB.out | apply below_alloc | apply pw_below_drewN | apply below_drew1 | refine below_set ?_ GE146.out) | exact HB.out)⟩
        · rw [if_neg c6] at H
          have c6b0 : decide (x2_1 < 5000) = false := decide_eq_false c6
          clear c6
          simp only [Option.some.injEq, Prod.mk.injEq] at H
          obtain ⟨rfl, rfl⟩ := H
          have hcz14_0 : wr.cell? ⟨gb146, 0, none⟩ = some (.int .i64 a0_0) := (blk_cell BK146.out 0).trans rfl
          have hcz14_1 : wr.cell? ⟨gb146, 1, none⟩ = some (.int .i64 a0_1) := (blk_cell BK146.out 1).trans rfl
          have hcz14_2 : wr.cell? ⟨gb146, 2, none⟩ = some (.int .i64 a0_2) := (blk_cell BK146.out 2).trans rfl
          have hcz14_3 : wr.cell? ⟨gb146, 3, none⟩ = some (.int .i64 a0_3) := (blk_cell BK146.out 3).trans rfl
          have hcz14_4 : wr.cell? ⟨gb146, 4, none⟩ = some (.int .i64 a0_4) := (blk_cell BK146.out 4).trans rfl
          have hcz14_5 : wr.cell? ⟨gb146, 5, none⟩ = some (.slice A0_5 l0_5.length c0_5) := (blk_cell BK146.out 5).trans rfl
          have hfz14_0 := blk_frozen BK146.out 0
          have hfz14_1 := blk_frozen BK146.out 1
          have hfz14_2 := blk_frozen BK146.out 2
          have hfz14_3 := blk_frozen BK146.out 3
          have hfz14_4 := blk_frozen BK146.out 4
          have hfz14_5 := blk_frozen BK146.out 5
          go_wp2
          go_ret2
          exact ⟨by first | rfl | (simp [errW_none, errW_some] <;> rfl) | (simp [*, errW_none, errW_some] <;> rfl), by repeat (first | (with_reducible first | exact HB.out | apply below_alloc | apply pw_below_drewN | apply below_drew1 | refine below_set ?_ GE146.out) | exact HB.out)⟩
      · rw [if_neg c5] at H
        have c5b0 : decide (x9_1 < (l0_5.length : Int)) = false := decide_eq_false c5
        clear c5
        simp only [Option.some.injEq, Prod.mk.injEq] at H
        obtain ⟨rfl, rfl⟩ := H
        have hcz15_0 : wr.cell? ⟨gb146, 0, none⟩ = some (.int .i64 a0_0) := (blk_cell BK146.out 0).trans rfl
        have hcz15_1 : wr.cell? ⟨gb146, 1, none⟩ = some (.int .i64 a0_1) := (blk_cell BK146.out 1).trans rfl
        have hcz15_2 : wr.cell? ⟨gb146, 2, none⟩ = some (.int .i64 a0_2) := (blk_cell BK146.out 2).trans rfl
        have hcz15_3 : wr.cell? ⟨gb146, 3, none⟩ = some (.int .i64 a0_3) := (blk_cell BK146.out 3).trans rfl
        have hcz15_4 : wr.cell? ⟨gb146, 4, none⟩ = some (.int .i64 a0_4) := (blk_cell BK146.out 4).trans rfl
        have hcz15_5 : wr.cell? ⟨gb146, 5, none⟩ = some (.slice A0_5 l0_5.length c0_5) := (blk_cell BK146.out 5).trans rfl
        have hfz15_0 := blk_frozen BK146.out 0
        have hfz15_1 := blk_frozen BK146.out 1
        have hfz15_2 := blk_frozen BK146.out 2
        have hfz15_3 := blk_frozen BK146.out 3
        have hfz15_4 := blk_frozen BK146.out 4
        have hfz15_5 := blk_frozen BK146.out 5
        go_wp2
        go_ret2
        exact ⟨by first | rfl | (simp [errW_none, errW_some] <;> rfl) | (simp [*, errW_none, errW_some] <;> rfl), by repeat (first | (with_reducible first | exact HB.out | apply below_alloc | apply pw_below_drewN | apply below_drew1 | refine below_set ?_ GE146.out) | exact HB.out)⟩
def graftlaw18_small.f (k : Nat) (a0_0 : Int) (a0_1 : Int) (a0_2 : Int) (a0_3 : Int) (a0_4 : Int) (l0_5 : List (S40)) : Option (Bool) := (graftlaw18_count.f k a0_0 a0_1 a0_2 a0_3 a0_4 l0_5 1 0).bind fun bt151 => (if bt151.1 ≤ 4500 then (some (decide (bt151.2 ≤ 90))) else (some false))
theorem graftlaw18_small.mono : ∀ a0 a1 a2 a3 a4 a5 k, LeO (graftlaw18_small.f k a0 a1 a2 a3 a4 a5) (graftlaw18_small.f (k + 1) a0 a1 a2 a3 a4 a5) := by
  intro a0 a1 a2 a3 a4 a5 k
  unfold graftlaw18_small.f
  repeat' first
      | (with_reducible exact graftlaw18_count.mono _ _ _ _ _ _ _ _ _)
      | (with_reducible exact LeO.refl _)
      | (with_reducible exact LeO.none _)
      | (with_reducible refine LeO.ite ?_ ?_)
      | (with_reducible refine LeO.bind ?_ (fun _ => ?_))
      | exact graftlaw18_count.mono _ _ _ _ _ _ _ _ _
      | exact LeO.none _
      | refine LeO.ite ?_ ?_
      | refine LeO.bind ?_ (fun _ => ?_)
set_option maxHeartbeats 8000000 in
set_option maxRecDepth 100000 in
theorem graftlaw18_small.calls (k : Nat) (a0_0 : Int) (a0_1 : Int) (a0_2 : Int) (a0_3 : Int) (a0_4 : Int) (A0_5 : Option Addr) (c0_5 : Nat) (l0_5 : List (S40)) (r : Bool) (w : World) (hr0_5 : Kd.C k40 w A0_5 l0_5.length l0_5) (hc0_5 : l0_5.length ≤ c0_5) (h : graftlaw18_small.f k a0_0 a0_1 a0_2 a0_3 a0_4 l0_5 = some r) :
    Calls Tryz.prog 22 #[.agg #[.int .i64 a0_0, .int .i64 a0_1, .int .i64 a0_2, .int .i64 a0_3, .int .i64 a0_4, .slice A0_5 l0_5.length c0_5]] w fun e w' => e = .returned (.bool r) ∧ Below w.heap.size w w' := by
  have hu40 := Tryz.underlying40
  have HR0_5 := Aside0.mk hr0_5
  have HC0_5 := Aside0.mk hc0_5
  clear hr0_5 hc0_5
  have HB := Aside0.mk (Below.refl w.heap.size w)
  have H : ((graftlaw18_count.f k a0_0 a0_1 a0_2 a0_3 a0_4 l0_5 1 0).bind fun bt151 => (if bt151.1 ≤ 4500 then (some (decide (bt151.2 ≤ 90))) else (some false))) = some r := h
  clear h
  replace H := Option.bind_eq_some_iff.mp H
  obtain ⟨⟨t151, t152⟩, A20, H⟩ := H
  replace H : (if t151 ≤ 4500 then (some (decide (t152 ≤ 90))) else (some false)) = some r := H
  have A2 := Aside0.mk A20
  clear A20
  by_cases c3 : t151 ≤ 4500
  · rw [if_pos c3] at H
    have c3b0 : decide (t151 ≤ 4500) = true := decide_eq_true c3
    clear c3
    obtain rfl := Option.some.inj H
    go_enter Tryz.func22, Tryz.ntmps22
    go_wp2_with (first | ((with_reducible refine gate_dst (N := 1) rfl ?_); refine box_event ?hg (N := 1) ?hd (cs := #[.int .i64 a0_0, .int .i64 a0_1, .int .i64 a0_2, .int .i64 a0_3, .int .i64 a0_4, .slice A0_5 l0_5.length c0_5]) (t := 40) ?hr ?_; (case hd => rfl); (case hg => rfl); (case hr => first | (go_simp; done) | (go_simp; rfl)); intro gb150 hg w4 hbox hb; have n0_ := Aside0.mk (below_step (by repeat (first | (with_reducible first | exact HB.out | apply below_alloc | apply pw_below_drewN | apply below_drew1) | exact HB.out)) hb); have n1_ := Aside0.mk (hbox); have n2_ := Aside0.mk ((by rw [hg]; exact (below_size (by repeat (first | (with_reducible first | exact HB.out | apply below_alloc | apply pw_below_drewN | apply below_drew1) | exact HB.out))) : w.heap.size ≤ gb150)); have n3_ := Aside0.mk ((by rw [hg]; exact (below_size (by repeat (first | (with_reducible first | exact HB.out | apply below_alloc | apply pw_below_drewN | apply below_drew1) | exact HB.out))) : w.heap.size ≤ gb150)); clear HB; have HB := n0_; have BK150 := n1_; have GW150 := n2_; have GE150 := n3_; clear n0_ n1_ n2_ n3_; clear hb hbox hg; have hcz5_0 : w4.cell? ⟨gb150, 0, none⟩ = some (.int .i64 a0_0) := (blk_cell BK150.out 0).trans rfl; have hcz5_1 : w4.cell? ⟨gb150, 1, none⟩ = some (.int .i64 a0_1) := (blk_cell BK150.out 1).trans rfl; have hcz5_2 : w4.cell? ⟨gb150, 2, none⟩ = some (.int .i64 a0_2) := (blk_cell BK150.out 2).trans rfl; have hcz5_3 : w4.cell? ⟨gb150, 3, none⟩ = some (.int .i64 a0_3) := (blk_cell BK150.out 3).trans rfl; have hcz5_4 : w4.cell? ⟨gb150, 4, none⟩ = some (.int .i64 a0_4) := (blk_cell BK150.out 4).trans rfl; have hcz5_5 : w4.cell? ⟨gb150, 5, none⟩ = some (.slice A0_5 l0_5.length c0_5) := (blk_cell BK150.out 5).trans rfl; have hfz5_0 := blk_frozen BK150.out 0; have hfz5_1 := blk_frozen BK150.out 1; have hfz5_2 := blk_frozen BK150.out 2; have hfz5_3 := blk_frozen BK150.out 3; have hfz5_4 := blk_frozen BK150.out 4; have hfz5_5 := blk_frozen BK150.out 5) | ((with_reducible refine gate_callee (f := 74) rfl ?_); refine goesL_ (some 7) rfl rfl Tryz.func74 (by kernel_rfl) rfl #[.agg #[.int .i64 a0_0, .int .i64 a0_1, .int .i64 a0_2, .int .i64 a0_3, .int .i64 a0_4, .slice A0_5 l0_5.length c0_5], .int .i64 1, .int .i64 0] rfl (by (try simp only [List.map_toArray, List.map_cons, List.map_nil]); first | done | rfl | (simp only [List.length_drop, List.length_take]; rfl)) ?_; (with_reducible refine (graftlaw18_count.calls k a0_0 a0_1 a0_2 a0_3 a0_4 _ _ l0_5 1 0 t151 t152 _ ?side1 ?side2 A2.out).mono ?_); (case side1 => repeat (first | exact (Kd.C_below HR0_5.out HB.out) | (with_reducible refine Kd.C_alloc ?_ _) | (with_reducible refine Kd.C_drewN ?_ _) | (with_reducible refine Kd.C_drew ?_))); (case side2 => exact HC0_5.out); rintro e w6 ⟨rfl, hb⟩; refine ⟨_, rfl, ?_⟩; have n0_ := Aside0.mk (blk_below (g := gb150) (o := .cells #[.int .i64 a0_0, .int .i64 a0_1, .int .i64 a0_2, .int .i64 a0_3, .int .i64 a0_4, .slice A0_5 l0_5.length c0_5] 40 (0, 0)) (by (with_reducible repeat (first | refine blk_drewN ?_ _ | refine blk_drew ?_ | refine blk_alloc ?_ _)); exact BK150.out) hb); have n1_ := Aside0.mk (below_step (by repeat (first | (with_reducible first | exact HB.out | apply below_alloc | apply pw_below_drewN | apply below_drew1 | refine below_set ?_ GE150.out) | exact HB.out)) hb); clear BK150; clear HB; have BK150 := n0_; have HB := n1_; clear n0_ n1_; (try clear hb); (try clear hb2); (try clear hk); (try clear hi)))
    go_ret
    exact ⟨by first | rfl | (simp [errW_none, errW_some] <;> rfl) | (simp [*, errW_none, errW_some] <;> rfl), by repeat (first | (with_reducible first | exact HB.out | apply below_alloc | apply pw_below_drewN | apply below_drew1 | refine below_set ?_ GE150.out) | exact HB.out)⟩
  · rw [if_neg c3] at H
    have c3b0 : decide (t151 ≤ 4500) = false := decide_eq_false c3
    clear c3
    obtain rfl := Option.some.inj H
    go_enter Tryz.func22, Tryz.ntmps22
    go_wp2_with (first | ((with_reducible refine gate_dst (N := 1) rfl ?_); refine box_event ?hg (N := 1) ?hd (cs := #[.int .i64 a0_0, .int .i64 a0_1, .int .i64 a0_2, .int .i64 a0_3, .int .i64 a0_4, .slice A0_5 l0_5.length c0_5]) (t := 40) ?hr ?_; (case hd => rfl); (case hg => rfl); (case hr => first | (go_simp; done) | (go_simp; rfl)); intro gb150 hg w7 hbox hb; have n0_ := Aside0.mk (below_step (by repeat (first | (with_reducible first | exact HB.out | apply below_alloc | apply pw_below_drewN | apply below_drew1) | exact HB.out)) hb); have n1_ := Aside0.mk (hbox); have n2_ := Aside0.mk ((by rw [hg]; exact (below_size (by repeat (first | (with_reducible first | exact HB.out | apply below_alloc | apply pw_below_drewN | apply below_drew1) | exact HB.out))) : w.heap.size ≤ gb150)); have n3_ := Aside0.mk ((by rw [hg]; exact (below_size (by repeat (first | (with_reducible first | exact HB.out | apply below_alloc | apply pw_below_drewN | apply below_drew1) | exact HB.out))) : w.heap.size ≤ gb150)); clear HB; have HB := n0_; have BK150 := n1_; have GW150 := n2_; have GE150 := n3_; clear n0_ n1_ n2_ n3_; clear hb hbox hg; have hcz8_0 : w7.cell? ⟨gb150, 0, none⟩ = some (.int .i64 a0_0) := (blk_cell BK150.out 0).trans rfl; have hcz8_1 : w7.cell? ⟨gb150, 1, none⟩ = some (.int .i64 a0_1) := (blk_cell BK150.out 1).trans rfl; have hcz8_2 : w7.cell? ⟨gb150, 2, none⟩ = some (.int .i64 a0_2) := (blk_cell BK150.out 2).trans rfl; have hcz8_3 : w7.cell? ⟨gb150, 3, none⟩ = some (.int .i64 a0_3) := (blk_cell BK150.out 3).trans rfl; have hcz8_4 : w7.cell? ⟨gb150, 4, none⟩ = some (.int .i64 a0_4) := (blk_cell BK150.out 4).trans rfl; have hcz8_5 : w7.cell? ⟨gb150, 5, none⟩ = some (.slice A0_5 l0_5.length c0_5) := (blk_cell BK150.out 5).trans rfl; have hfz8_0 := blk_frozen BK150.out 0; have hfz8_1 := blk_frozen BK150.out 1; have hfz8_2 := blk_frozen BK150.out 2; have hfz8_3 := blk_frozen BK150.out 3; have hfz8_4 := blk_frozen BK150.out 4; have hfz8_5 := blk_frozen BK150.out 5) | ((with_reducible refine gate_callee (f := 74) rfl ?_); refine goesL_ (some 7) rfl rfl Tryz.func74 (by kernel_rfl) rfl #[.agg #[.int .i64 a0_0, .int .i64 a0_1, .int .i64 a0_2, .int .i64 a0_3, .int .i64 a0_4, .slice A0_5 l0_5.length c0_5], .int .i64 1, .int .i64 0] rfl (by (try simp only [List.map_toArray, List.map_cons, List.map_nil]); first | done | rfl | (simp only [List.length_drop, List.length_take]; rfl)) ?_; (with_reducible refine (graftlaw18_count.calls k a0_0 a0_1 a0_2 a0_3 a0_4 _ _ l0_5 1 0 t151 t152 _ ?side1 ?side2 A2.out).mono ?_); (case side1 => repeat (first | exact (Kd.C_below HR0_5.out HB.out) | (with_reducible refine Kd.C_alloc ?_ _) | (with_reducible refine Kd.C_drewN ?_ _) | (with_reducible refine Kd.C_drew ?_))); (case side2 => exact HC0_5.out); rintro e w9 ⟨rfl, hb⟩; refine ⟨_, rfl, ?_⟩; have n0_ := Aside0.mk (blk_below (g := gb150) (o := .cells #[.int .i64 a0_0, .int .i64 a0_1, .int .i64 a0_2, .int .i64 a0_3, .int .i64 a0_4, .slice A0_5 l0_5.length c0_5] 40 (0, 0)) (by (with_reducible repeat (first | refine blk_drewN ?_ _ | refine blk_drew ?_ | refine blk_alloc ?_ _)); exact BK150.out) hb); have n1_ := Aside0.mk (below_step (by repeat (first | (with_reducible first | exact HB.out | apply below_alloc | apply pw_below_drewN | apply below_drew1 | refine below_set ?_ GE150.out) | exact HB.out)) hb); clear BK150; clear HB; have BK150 := n0_; have HB := n1_; clear n0_ n1_; (try clear hb); (try clear hb2); (try clear hk); (try clear hi)))
    go_ret
    exact ⟨by first | rfl | (simp [errW_none, errW_some] <;> rfl) | (simp [*, errW_none, errW_some] <;> rfl), by repeat (first | (with_reducible first | exact HB.out | apply below_alloc | apply pw_below_drewN | apply below_drew1 | refine below_set ?_ GE150.out) | exact HB.out)⟩
end Go.Proofs.YtpnkifincadakaaGreatDoor.PPackSpecs
end
section
namespace Go.Pk
open Go.RowKit Go.Proofs.YtpnkifincadakaaGreatDoorW.PrintWords Go.Proofs.YtpnkifincadakaaGreatDoor.PPackSpecs Go.Proofs.YtpnkifincadakaaGreatDoor.Wr
theorem mx_eq (a b : Int) : mx a b = max a b := by unfold mx; omega
theorem count_any (n : Nat) : ∀ (e : S40) (deep so : Int), sizeE e ≤ n → 0 ≤ so → so ≤ 4999 → 0 ≤ deep → deep ≤ 100 →
    ∃ m d : Int, Ev (fun k => graftlaw18_count.f k e.f0 e.f1 e.f2 e.f3 e.f4 e.f5 deep so) (m, d) ∧ so + 1 ≤ m ∧ m ≤ 5000 ∧ deep ≤ d ∧ (m ≤ 4500 → d ≤ 90 → m = so + sizeE e) := by
  induction n with
  | zero => intro e deep so h; have := sizeE_pos e; omega
  | succ n ih =>
    intro e deep so hn h0 h1 h2 h3
    have hE := sizeE_eq e
    have hL : ∀ (dd i : Nat) (so most : Int), e.f5.length - i = dd → i ≤ e.f5.length → (i : Int) ≤ so → so ≤ 5000 → deep ≤ most →
        ∃ m d : Int, Ev (fun k => graftlaw18_count.l0 k deep so most i e.f0 e.f1 e.f2 e.f3 e.f4 e.f5) (m, d) ∧ so ≤ m ∧ m ≤ 5000 ∧ most ≤ d ∧ (m ≤ 4500 → d ≤ 90 → m = so + sizeL (e.f5.drop i)) := by
      intro dd
      induction dd with
      | zero =>
        intro i so most hd hi his hs hm
        obtain rfl : i = e.f5.length := by omega
        refine ⟨so, most, ⟨1, fun k hk => ?_⟩, by omega, by omega, by omega, fun _ _ => by rw [List.drop_length]; simp [sizeL]⟩
        obtain ⟨k, rfl⟩ : ∃ m, k = m + 1 := ⟨k - 1, by omega⟩
        simp only [graftlaw18_count.l0]
        rw [if_neg (by omega)]
      | succ dd ihd =>
        intro i so most hd hi his hs hm
        have hlt : i < e.f5.length := by omega
        have hms := mem_size _ _ (List.getElem_mem hlt)
        by_cases g1 : so < 5000
        · by_cases g2 : deep < 100
          · obtain ⟨m1, d1, hev, a1, a2, a3, a4⟩ := ih e.f5[i] (deep + 1) so (by omega) (by omega) (by omega) (by omega) (by omega)
            obtain ⟨m2, d2, hev2, c1, c2, c3, c4⟩ := ihd (i + 1) m1 (max most d1) (by omega) (by omega) (by omega) (by omega) (by omega)
            obtain ⟨K1, hK1⟩ := hev; dsimp only at hK1
            obtain ⟨K2, hK2⟩ := hev2; dsimp only at hK2
            refine ⟨m2, d2, ⟨K1 + K2 + 1, fun k hk => ?_⟩, by omega, by omega, by omega, fun x1 x2 => ?_⟩
            · obtain ⟨k, rfl⟩ : ∃ m, k = m + 1 := ⟨k - 1, by omega⟩
              simp only [graftlaw18_count.l0]
              rw [if_pos (by omega), if_pos g1, if_pos g2, if_pos (by omega), rd40 hlt, w64 (by omega) (by omega), hK1 k (by omega)]
              simp only [Option.bind_some]
              rw [mx_eq, w64 (by omega) (by omega), show ((i : Int) + 1) = ((i + 1 : Nat) : Int) by omega]
              exact hK2 k (by omega)
            · rw [sizeL_drop hlt, c4 x1 x2, a4 (by omega) (by omega)]
              omega
          · refine ⟨so, most, ⟨1, fun k hk => ?_⟩, by omega, by omega, by omega, fun _ _ => by omega⟩
            obtain ⟨k, rfl⟩ : ∃ m, k = m + 1 := ⟨k - 1, by omega⟩
            simp only [graftlaw18_count.l0]
            rw [if_pos (by omega), if_pos g1, if_neg g2]
        · refine ⟨so, most, ⟨1, fun k hk => ?_⟩, by omega, by omega, by omega, fun _ _ => by omega⟩
          obtain ⟨k, rfl⟩ : ∃ m, k = m + 1 := ⟨k - 1, by omega⟩
          simp only [graftlaw18_count.l0]
          rw [if_pos (by omega), if_neg g1]
    obtain ⟨m, d, hev, a1, a2, a3, a4⟩ := hL e.f5.length 0 (so + 1) deep (by omega) (by omega) (by omega) (by omega) (by omega)
    obtain ⟨K, hK⟩ := hev; dsimp only at hK
    refine ⟨m, d, ⟨K + 1, fun k hk => ?_⟩, by omega, by omega, by omega, fun x1 x2 => ?_⟩
    · obtain ⟨k, rfl⟩ : ∃ m, k = m + 1 := ⟨k - 1, by omega⟩
      simp only [graftlaw18_count.f]
      rw [w64 (by omega) (by omega)]
      exact hK k (by omega)
    · have := a4 x1 x2
      rw [List.drop_zero] at this
      omega
theorem small_any (e : S40) : ∃ b : Bool, Ev (fun k => graftlaw18_small.f k e.f0 e.f1 e.f2 e.f3 e.f4 e.f5) b ∧ (b = true → sizeE e ≤ 4500) := by
  obtain ⟨m, d, ⟨K, hK⟩, a1, a2, a3, a4⟩ := count_any (sizeE e) e 1 0 (Nat.le_refl _) (by omega) (by omega) (by omega) (by omega)
  dsimp only at hK
  by_cases h : m ≤ 4500
  · refine ⟨decide (d ≤ 90), ⟨K, fun k hk => ?_⟩, fun hd => ?_⟩
    · unfold graftlaw18_small.f
      dsimp only
      rw [hK k hk]
      simp only [Option.bind_some]
      rw [if_pos h]
    · have := a4 h (by simpa using hd)
      omega
  · refine ⟨false, ⟨K, fun k hk => ?_⟩, fun hd => by cases hd⟩
    unfold graftlaw18_small.f
    dsimp only
    rw [hK k hk]
    simp only [Option.bind_some]
    rw [if_neg h]
theorem same_any (l : List Int) (h : l.length ≤ 140737488355328) : ∃ k, graftlaw18_same.f k l l = some true := by
  have hL : ∀ (d i k : Nat), l.length - i = d → i ≤ l.length → d + 1 ≤ k → graftlaw18_same.l0 k l l i = some true := by
    intro d
    induction d with
    | zero =>
      intro i k hd hi hk
      obtain ⟨k, rfl⟩ : ∃ m, k = m + 1 := ⟨k - 1, by omega⟩
      simp only [graftlaw18_same.l0]
      rw [if_neg (by omega)]
    | succ d ihd =>
      intro i k hd hi hk
      obtain ⟨k, rfl⟩ : ∃ m, k = m + 1 := ⟨k - 1, by omega⟩
      simp only [graftlaw18_same.l0]
      rw [if_pos (by omega), if_pos (by omega), if_pos (by omega), if_pos trivial, w64 (by omega) (by omega), show ((i : Int) + 1) = ((i + 1 : Nat) : Int) by omega]
      exact ihd (i + 1) k (by omega) (by omega) (by omega)
  refine ⟨l.length + 1, ?_⟩
  unfold graftlaw18_same.f
  rw [if_pos rfl]
  exact hL l.length 0 _ (by omega) (by omega) (by omega)
end Go.Pk
end
