/- Proved: part 16 of the proof of PackRound (Ce, Sy). Conditions: each theorem states its own. -/
import Derived.Test.YtpnkifincadakaaGreatDoorR15
set_option linter.unusedVariables false
set_option linter.unusedSimpArgs false
section
namespace Go.Proofs.YtpnkifincadakaaGreatDoor.Wr
open Go.RowKit Go.Pk Go.Proofs.YtpnkifincadakaaGreatDoorW.PrintWords Go.Proofs.YtpnkifincadakaaGreatDoorW.PrintLast Go.Proofs.YtpnkifincadakaaGreatDoorW.PrintMore Go.Proofs.YtpnkifincadakaaGreatDoor.PPackSpecs
attribute [local go_sem] max2_int min2_int max_two min_two
theorem copies219 (e : S40) (A : Option Addr) (c : Nat) (w : World) :
    Calls Tryz.prog 219 #[.agg #[.int .i64 e.f0, .int .i64 e.f1, .int .i64 e.f2, .int .i64 e.f3, .int .i64 e.f4, .slice A e.f5.length c]] w fun r w' => r = .returned (.int .i64 (copiesOf e)) ∧ Below w.heap.size w w' := by
  have HE : copiesOf e = if e.f4 < 0 then max e.f3 1 else e.f4 := rfl
  obtain ⟨r, hr⟩ : ∃ r, r = copiesOf e := ⟨_, rfl⟩
  rw [← hr] at HE ⊢
  clear hr
  obtain ⟨a, b, d, f, g, l⟩ := e
  dsimp only at HE ⊢
  have HB := Aside0.mk (Bx.start w a b d f g A l.length c)
  by_cases h : g < 0
  · rw [if_pos h] at HE
    have HR := Lib.hid HE
    clear HE
    go_enter Tryz.func219, Tryz.ntmps219
    go_wp2
    all_goals
      go_ret
      exact ⟨ret_of (by rw [HR.out]; omega), HB.out.below⟩
  · rw [if_neg h] at HE
    have HR := Lib.hid HE
    have h' : decide (g < 0) = false := decide_eq_false h
    clear HE
    go_enter Tryz.func219, Tryz.ntmps219
    go_wp2
    go_ret
    exact ⟨ret_of HR.out, HB.out.below⟩
set_option maxHeartbeats 16000000 in
set_option maxRecDepth 100000 in
theorem right143 (n : Nat) : ∀ (e : S40), sizeE e ≤ n → ∀ (A : Option Addr) (c : Nat) (w : World), k40.C w A e.f5.length e.f5 →
    Calls Tryz.prog 143 #[.agg #[.int .i64 e.f0, .int .i64 e.f1, .int .i64 e.f2, .int .i64 e.f3, .int .i64 e.f4, .slice A e.f5.length c]] w fun r w' => r = .returned (.bool (rightE e)) ∧ Below w.heap.size w w' := by
  induction n with
  | zero => intro e h; have := sizeE_pos e; omega
  | succ n ih =>
    intro e hn A c w hC
    have hE := rightE_eq e
    rw [sizeE_eq] at hn
    obtain ⟨r, hr⟩ : ∃ r, r = rightE e := ⟨_, rfl⟩
    rw [← hr] at hE ⊢
    clear hr
    obtain ⟨o, ho⟩ : ∃ o, o = ownOk e := ⟨_, rfl⟩
    rw [← ho] at hE
    obtain ⟨a, b, d, f, g, l⟩ := e
    dsimp only at hn hC hE ⊢
    have HO := Aside0.mk ho
    obtain ⟨p, hp⟩ : ∃ p, p = decide (b = 0 ∧ d = 0) := ⟨_, rfl⟩
    have HP := Aside0.mk hp
    have hm := Kd.C_max hC
    have HC := Aside0.mk hC
    have IH := Aside0.mk ih
    have HN := Aside0.mk hn
    have HE := Aside0.mk hE
    clear hC ih hn hE ho hp
    have HB := Aside0.mk (Bx.start w a b d f g A l.length c)
    go_enter Tryz.func143, Tryz.ntmps143
    go_upto_region 1 with (fail)
    go_cut [3] (fun v wx => v = .bool p ∧ wx = w.alloc (.cells #[.int .i64 a, .int .i64 b, .int .i64 d, .int .i64 f, .int .i64 g, .slice A l.length c] 40))
    case first =>
      have D : (p = false ∧ (b ≠ 0 ∨ b = 0 ∧ d ≠ 0)) ∨ (p = true ∧ b = 0 ∧ d = 0) := by
        rw [HP.out]
        simp only [decide_eq_false_iff_not, decide_eq_true_eq]
        omega
      rcases D with ⟨rfl, h | ⟨rfl, h⟩⟩ | ⟨rfl, rfl, rfl⟩
      all_goals
        try (replace h := bf h); obtain ⟨h, h'⟩ := h
        go_wp2_with fail
        go_meet
        exact ⟨rfl, rfl⟩
    case rest =>
      obtain ⟨rfl, rfl⟩ := hcut
      go_upto_block 0 with (fail)
      go_cut [4] (fun v wx => v = .bool o ∧ wx = w.alloc (.cells #[.int .i64 a, .int .i64 b, .int .i64 d, .int .i64 f, .int .i64 g, .slice A l.length c] 40))
      case first =>
        have F : (o = false ∧ a ≠ 1 ∧ a ≠ 2 ∧ a ≠ 3 ∧ a ≠ 4) ∨
            (a = 1 ∧ (o = false ∧ (¬ 0 ≤ b ∨ 0 ≤ b ∧ (¬ b ≤ d ∨ b ≤ d ∧ (¬ d ≤ 255 ∨ d ≤ 255 ∧ (f ≠ 0 ∨ f = 0 ∧ (g ≠ 0 ∨ g = 0 ∧ (l.length : Int) ≠ 0))))) ∨ o = true ∧ 0 ≤ b ∧ b ≤ d ∧ d ≤ 255 ∧ f = 0 ∧ g = 0 ∧ (l.length : Int) = 0)) ∨
            (a = 2 ∧ (o = false ∧ (p = false ∨ p = true ∧ (f ≠ 0 ∨ f = 0 ∧ (g ≠ 0 ∨ g = 0 ∧ (l.length : Int) = 1))) ∨ o = true ∧ p = true ∧ f = 0 ∧ g = 0 ∧ (l.length : Int) ≠ 1)) ∨
            (a = 3 ∧ (o = false ∧ (p = false ∨ p = true ∧ (f ≠ 0 ∨ f = 0 ∧ (g ≠ 0 ∨ g = 0 ∧ ¬ 1 < (l.length : Int)))) ∨ o = true ∧ p = true ∧ f = 0 ∧ g = 0 ∧ 1 < (l.length : Int))) ∨
            (a = 4 ∧ (o = false ∧ (p = false ∨ p = true ∧ ((l.length : Int) ≠ 1 ∨ (l.length : Int) = 1 ∧ (¬ 0 ≤ f ∨ 0 ≤ f ∧ (¬ f ≤ 1000 ∨ f ≤ 1000 ∧ (g ≠ -1 ∧ (¬ f ≤ g ∨ f ≤ g ∧ ¬ g ≤ 1000)))))) ∨
              o = true ∧ p = true ∧ (l.length : Int) = 1 ∧ 0 ≤ f ∧ f ≤ 1000 ∧ (g = -1 ∨ g ≠ -1 ∧ f ≤ g ∧ g ≤ 1000))) := by
          rw [HO.out, HP.out]
          unfold ownOk
          dsimp only
          repeat' split
          all_goals (simp only [decide_eq_false_iff_not, decide_eq_true_eq, Bool.false_eq_true, false_and, or_false, true_and]; omega)
        rcases F with ⟨rfl, h, k1, k2, k3⟩ | ⟨rfl, ⟨rfl, h | ⟨k1, h | ⟨k2, h | ⟨k3, h | ⟨rfl, h | ⟨rfl, h⟩⟩⟩⟩⟩⟩ | ⟨rfl, k1, k2, k3, rfl, rfl, h⟩⟩ |
          ⟨rfl, ⟨rfl, rfl | ⟨rfl, h | ⟨rfl, h | ⟨rfl, h⟩⟩⟩⟩ | ⟨rfl, rfl, rfl, rfl, h⟩⟩ | ⟨rfl, ⟨rfl, rfl | ⟨rfl, h | ⟨rfl, h | ⟨rfl, h⟩⟩⟩⟩ | ⟨rfl, rfl, rfl, rfl, h⟩⟩ |
          ⟨rfl, ⟨rfl, rfl | ⟨rfl, h | ⟨h, k1 | ⟨k1, k2 | ⟨k2, k3, k4 | ⟨k4, k5⟩⟩⟩⟩⟩⟩ | ⟨rfl, rfl, h, k1, k2, rfl | ⟨k3, k4, k5⟩⟩⟩
        all_goals
          try (first | replace h := bf h | replace h := df h | replace h := bt h); obtain ⟨h, h'⟩ := h
          try (first | replace k1 := bf k1 | replace k1 := df k1); obtain ⟨k1, k1'⟩ := k1
          try (first | replace k2 := bf k2 | replace k2 := df k2); obtain ⟨k2, k2'⟩ := k2
          try (first | replace k3 := bf k3 | replace k3 := df k3); obtain ⟨k3, k3'⟩ := k3
          try (replace k4 := df k4); obtain ⟨k4, k4'⟩ := k4
          try (replace k5 := df k5); obtain ⟨k5, k5'⟩ := k5
          go_wp2_with fail
          go_meet
          exact ⟨rfl, rfl⟩
      case rest =>
        obtain ⟨rfl, rfl⟩ := hcut
        go_wp2
        go_loopw [4, 127] (fun v i wr => ∃ (k : Nat) (q : Bool), k ≤ l.length ∧ v = .bool q ∧ i = .int .i64 k ∧ Aside0 (Bx w A l.length c wr) ∧ Aside0 ((q && rightL (l.drop k)) = r)) (fun _ i _ => l.length - (intOf i).toNat)
        case atStart => exact ⟨0, o, Nat.zero_le _, rfl, rfl, HB, ⟨HE.out.symm⟩⟩
        case round =>
          obtain ⟨k, q, hk, rfl, rfl, hX, hI⟩ := hrel
          by_cases hlt : k < l.length
          · obtain ⟨ad, cs, rfl, hK, hc0, hc1⟩ := C_at (Kd.C_below HC.out hX.out.below) k hlt
            obtain ⟨A7, c7, rfl, l7, g7⟩ := k40_open hK
            have d0 : wr.cell? (ad.add (k * 6)) = some (.int .i64 l[k].f0) := hc0 _ rfl
            have d1 : wr.cell? ⟨(ad.add (k * 6)).block, (ad.add (k * 6)).off + 1, none⟩ = some (.int .i64 l[k].f1) := hc1 1 _ (by decide) rfl
            have d2 : wr.cell? ⟨(ad.add (k * 6)).block, (ad.add (k * 6)).off + 2, none⟩ = some (.int .i64 l[k].f2) := hc1 2 _ (by decide) rfl
            have d3 : wr.cell? ⟨(ad.add (k * 6)).block, (ad.add (k * 6)).off + 3, none⟩ = some (.int .i64 l[k].f3) := hc1 3 _ (by decide) rfl
            have d4 : wr.cell? ⟨(ad.add (k * 6)).block, (ad.add (k * 6)).off + 4, none⟩ = some (.int .i64 l[k].f4) := hc1 4 _ (by decide) rfl
            have d5 : wr.cell? ⟨(ad.add (k * 6)).block, (ad.add (k * 6)).off + 5, none⟩ = some (.slice A7 l[k].f5.length c7) := hc1 5 _ (by decide) rfl
            have hsz : sizeE l[k] ≤ n := by
              have := mem_size _ _ (List.getElem_mem hlt)
              have := HN.out
              omega
            have HS := Aside0.mk fun o => IH.out l[k] hsz A7 c7 (wr.alloc o) (Kd.C_alloc g7 o)
            have HD : Hid (rightL (l.drop k) = (rightE l[k] && rightL (l.drop (k + 1)))) := Lib.hid (rightL_drop hlt)
            clear hK hc0 hc1 g7 hsz
            generalize l[k] = x at *
            cases q
            · have HF : Hid ((false && rightL (l.drop (k + 1))) = r) := Lib.hid hI.out
              go_wp2
              go_roundw
              case rel => exact ⟨k + 1, false, by omega, rfl, by go_num, ⟨hX.out.alloc _⟩, ⟨HF.out⟩⟩
              case measure => simp [intOf]; omega
            · have HF : Hid ((rightE x && rightL (l.drop (k + 1))) = r) := Lib.hid (by rw [← hI.out, HD.out]; rfl)
              go_wp2_with (go_at_call 143; refine (HS.out _).mono ?_)
              first | rintro e w2 rfl k2 | rintro e w2 ⟨rfl, k2⟩
              have hX2 := Aside0.mk ((hX.out.alloc _).then k2)
              clear k2
              go_wp2
              go_roundw
              case rel => exact ⟨k + 1, rightE x, by omega, rfl, by go_num, hX2, ⟨HF.out⟩⟩
              case measure => simp [intOf]; omega
          · obtain rfl : k = l.length := by omega
            have HR : Hid (q = r) := Lib.hid (by rw [← hI.out, List.drop_length, rightL, Bool.and_true])
            go_wp2
            go_ret
            exact ⟨by rw [HR.out]; rfl, hX.out.below⟩
set_option maxHeartbeats 16000000 in
set_option maxRecDepth 100000 in
theorem pos144 (n : Nat) : ∀ (e : S40), sizeE e ≤ n → sizeE e ≤ 4096 → rightE e = true → ∀ (A : Option Addr) (c : Nat) (w : World), k40.C w A e.f5.length e.f5 →
    Calls Tryz.prog 144 #[.agg #[.int .i64 e.f0, .int .i64 e.f1, .int .i64 e.f2, .int .i64 e.f3, .int .i64 e.f4, .slice A e.f5.length c]] w fun r w' => r = .returned (.int .i64 (posE e)) ∧ Below w.heap.size w w' := by
  induction n with
  | zero => intro e h; have := sizeE_pos e; omega
  | succ n ih =>
    intro e hn hb hr A c w hC
    have hE := posE_eq e
    have hcb := copies_bound hr
    rw [rightE_eq, Bool.and_eq_true] at hr
    obtain ⟨ho, hrl⟩ := hr
    rw [sizeE_eq] at hn hb
    have hCO := fun w => copies219 e A c w
    obtain ⟨r, hr⟩ : ∃ r, r = posE e := ⟨_, rfl⟩
    rw [← hr] at hE ⊢
    clear hr ho
    generalize copiesOf e = cp at *
    obtain ⟨a, b, d, f, g, l⟩ := e
    dsimp only at hn hb hC hE hrl hcb hCO ⊢
    have hm := Kd.C_max hC
    have hl : l.length ≤ 4096 := by have := length_le_sizeL l; omega
    have HC := Aside0.mk hC
    have IH := Aside0.mk ih
    have HN := Aside0.mk hn
    have HN2 := Aside0.mk hb
    have HE := Aside0.mk hE
    have HRL := Aside0.mk hrl
    have HCB := Aside0.mk hcb
    have HCO := Aside0.mk hCO
    clear hC ih hn hE hrl hcb hCO hb
    have HB := Aside0.mk (Box.start w #[.int .i64 a, .int .i64 b, .int .i64 d, .int .i64 f, .int .i64 g, .slice A l.length c] 40)
    by_cases h1 : a = 1
    · have HR : Hid (r = 1) := Lib.hid (by rw [HE.out, if_pos h1])
      subst h1
      go_enter Tryz.func144, Tryz.ntmps144
      go_wp2
      go_ret
      exact ⟨ret_of HR.out, HB.out.1⟩
    have hE := HE.out
    rw [if_neg h1] at hE
    have HE := Aside0.mk hE
    clear hE
    obtain ⟨h1, h1'⟩ := bf h1
    go_enter Tryz.func144, Tryz.ntmps144
    go_wp2
    go_loopw [3, 12] (fun v i wr => ∃ (k : Nat) (s : Int), k ≤ l.length ∧ v = .int .i64 s ∧ i = .int .i64 k ∧ 0 ≤ s ∧ s ≤ 4097 * k ∧ Aside0 (Box w w.heap.size #[.int .i64 a, .int .i64 b, .int .i64 d, .int .i64 f, .int .i64 g, .slice A l.length c] 40 wr) ∧ Aside0 (rightL (l.drop k) = true) ∧ Aside0 (s + posL (l.drop k) = posL l)) (fun _ i _ => l.length - (intOf i).toNat)
    case atStart => exact ⟨0, 0, Nat.zero_le _, rfl, rfl, by omega, by omega, HB, HRL, ⟨by rw [Int.zero_add]; rfl⟩⟩
    case round =>
      obtain ⟨k, s, hk, rfl, rfl, hs0, hs1, hX, hY, hI⟩ := hrel
      by_cases hlt : k < l.length
      · obtain ⟨ad, cs, rfl, hK, hc0, hc1⟩ := C_at (Kd.C_below HC.out hX.out.1) k hlt
        obtain ⟨A7, c7, rfl, l7, g7⟩ := k40_open hK
        have d0 : wr.cell? (ad.add (k * 6)) = some (.int .i64 l[k].f0) := hc0 _ rfl
        have d1 : wr.cell? ⟨(ad.add (k * 6)).block, (ad.add (k * 6)).off + 1, none⟩ = some (.int .i64 l[k].f1) := hc1 1 _ (by decide) rfl
        have d2 : wr.cell? ⟨(ad.add (k * 6)).block, (ad.add (k * 6)).off + 2, none⟩ = some (.int .i64 l[k].f2) := hc1 2 _ (by decide) rfl
        have d3 : wr.cell? ⟨(ad.add (k * 6)).block, (ad.add (k * 6)).off + 3, none⟩ = some (.int .i64 l[k].f3) := hc1 3 _ (by decide) rfl
        have d4 : wr.cell? ⟨(ad.add (k * 6)).block, (ad.add (k * 6)).off + 4, none⟩ = some (.int .i64 l[k].f4) := hc1 4 _ (by decide) rfl
        have d5 : wr.cell? ⟨(ad.add (k * 6)).block, (ad.add (k * 6)).off + 5, none⟩ = some (.slice A7 l[k].f5.length c7) := hc1 5 _ (by decide) rfl
        have hsz : sizeE l[k] ≤ n ∧ sizeE l[k] ≤ 4096 := by
          have := mem_size _ _ (List.getElem_mem hlt)
          have := HN.out
          have := HN2.out
          omega
        have hy := hY.out
        rw [rightL_drop hlt, Bool.and_eq_true] at hy
        obtain ⟨hq0, hq1⟩ := (pos_bound n).1 l[k] hsz.1 hy.1
        have HS := Aside0.mk fun o => IH.out l[k] hsz.1 hsz.2 hy.1 A7 c7 (wr.alloc o) (Kd.C_alloc g7 o)
        have HD := Aside0.mk (posL_drop hlt)
        have HY2 := Aside0.mk hy.2
        clear hK hc0 hc1 g7 hsz hy
        generalize l[k] = x at *
        generalize posE x = q at *
        have HM := Aside0.mk (show s + q + posL (l.drop (k + 1)) = posL l by rw [← hI.out, HD.out]; omega)
        go_wp2_with (go_at_call 144; refine (HS.out _).mono ?_)
        first | rintro e w2 rfl k2 | rintro e w2 ⟨rfl, k2⟩
        have hX2 := Aside0.mk ((hX.out.alloc _).then k2)
        clear k2
        go_wp2
        go_roundw
        case rel => exact ⟨k + 1, s + q, by omega, by go_num, by go_num, by omega, by omega, hX2, HY2, HM⟩
        case measure => simp [intOf]; omega
      · obtain rfl : k = l.length := by omega
        have hs : s = posL l := by
          have := hI.out
          rw [List.drop_length] at this
          simp only [posL] at this
          omega
        have hE := HE.out
        rw [← hs] at hE
        clear hs
        have e0 : wr.cell? ⟨w.heap.size, 0, none⟩ = some (.int .i64 a) := (hX.out.cell 0).trans rfl
        have e1 : wr.cell? ⟨w.heap.size, 1, none⟩ = some (.int .i64 b) := (hX.out.cell 1).trans rfl
        have e2 : wr.cell? ⟨w.heap.size, 2, none⟩ = some (.int .i64 d) := (hX.out.cell 2).trans rfl
        have e3 : wr.cell? ⟨w.heap.size, 3, none⟩ = some (.int .i64 f) := (hX.out.cell 3).trans rfl
        have e4 : wr.cell? ⟨w.heap.size, 4, none⟩ = some (.int .i64 g) := (hX.out.cell 4).trans rfl
        have e5 : wr.cell? ⟨w.heap.size, 5, none⟩ = some (.slice A l.length c) := (hX.out.cell 5).trans rfl
        by_cases h4 : a = 4
        · subst h4
          obtain ⟨c1, c2, c3⟩ := HCB.out rfl
          rw [c3] at hs1
          obtain ⟨m0, m1⟩ : 0 ≤ s * cp ∧ s * cp ≤ 4097 * 1000 := ⟨Int.mul_nonneg hs0 c1, Int.le_trans (Int.mul_le_mul_of_nonneg_right (by omega) c1) (Int.mul_le_mul_of_nonneg_left c2 (by omega))⟩
          rw [if_pos rfl] at hE
          have HR := Aside0.mk hE
          clear hE c3
          go_wp2_with (go_at_call 219; refine (HCO.out _).mono ?_)
          first | rintro e w2 rfl k2 | rintro e w2 ⟨rfl, k2⟩
          have hX2 := Aside0.mk (hX.out.then k2)
          clear k2
          go_wp2
          all_goals
            go_ret
            exact ⟨ret_of (by rw [HR.out]; omega), hX2.out.1⟩
        · rw [if_neg h4] at hE
          have HR := Aside0.mk hE
          obtain ⟨h4, h4'⟩ := bf h4
          clear hE
          go_wp2
          all_goals
            go_ret
            exact ⟨ret_of (by rw [HR.out]; omega), hX.out.1⟩
theorem chk75 (e : S40) (A : Option Addr) (c : Nat) (w : World) (h : k40.C w A e.f5.length e.f5) : Calls Tryz.prog 142 #[.agg #[.int .i64 e.f0, .int .i64 e.f1, .int .i64 e.f2, .int .i64 e.f3, .int .i64 e.f4, .slice A e.f5.length c], .int .i64 1, .int .i64 0] w fun r w' =>
    ∃ (n d : Int), r = .returned (.tuple #[.int .i64 n, .int .i64 d]) ∧ Below w.heap.size w w' ∧ Aside0 ((4096 < sizeE e ∧ n = 4097) ∨ (sizeE e ≤ 4096 ∧ n = sizeE e ∧ d = depE e)) := by
  refine (walked142 (sizeE e) e (Nat.le_refl _) 1 0 (by omega) (by omega) (by omega) (by omega) A c w h).mono ?_
  rintro r w' ⟨n, d, rfl, hb, hq⟩
  refine ⟨n, d, rfl, hb, ⟨?_⟩⟩
  have := hq.out
  unfold Wk at this
  omega
set_option maxHeartbeats 16000000 in
set_option maxRecDepth 100000 in
theorem check75 (x : S40) (A : Option Addr) (c : Nat) (w : World) (h : k40.C w A x.f5.length x.f5) (hc : x.f5.length ≤ c) :
    Calls Tryz.prog 75 #[.agg #[.int .i64 x.f0, .int .i64 x.f1, .int .i64 x.f2, .int .i64 x.f3, .int .i64 x.f4, .slice A x.f5.length c]] w fun e w' => e = .returned (.int .i64 (chk x)) ∧ Below w.heap.size w w' := by
  have HW := Aside0.mk fun o => chk75 x A c (w.alloc o) (Kd.C_alloc h o)
  have HQ := Aside0.mk fun w' (hb : Below w.heap.size w w') => right143 (sizeE x) x (Nat.le_refl _) A c w' (Kd.C_below h hb)
  have HP := Aside0.mk fun (hs : sizeE x ≤ 4096) (hr : rightE x = true) w' (hb : Below w.heap.size w w') => pos144 (sizeE x) x (Nat.le_refl _) hs hr A c w' (Kd.C_below h hb)
  have HB := Aside0.mk (Box.start w #[.int .i64 x.f0, .int .i64 x.f1, .int .i64 x.f2, .int .i64 x.f3, .int .i64 x.f4, .slice A x.f5.length c] 40)
  have hcx : chk x = if 4096 < sizeE x then 2 else if 64 < depE x then 5 else if rightE x = false then 20 else if 4096 < posE x then 21 else 0 := rfl
  obtain ⟨r, hr⟩ : ∃ r, r = chk x := ⟨_, rfl⟩
  rw [← hr] at hcx ⊢
  have HE := Aside0.mk hcx
  clear hr hcx h
  go_enter Tryz.func75, Tryz.ntmps75
  go_wp2_with (go_at_call 142; refine (HW.out _).mono ?_)
  rintro e w1 ⟨n, d, rfl, k1, HN⟩
  have HB1 := Aside0.mk (HB.out.then k1)
  clear k1
  have f0 : w1.cell? ⟨w.heap.size, 0, none⟩ = some (.int .i64 x.f0) := (HB1.out.cell 0).trans rfl
  have f1 : w1.cell? ⟨w.heap.size, 1, none⟩ = some (.int .i64 x.f1) := (HB1.out.cell 1).trans rfl
  have f2 : w1.cell? ⟨w.heap.size, 2, none⟩ = some (.int .i64 x.f2) := (HB1.out.cell 2).trans rfl
  have f3 : w1.cell? ⟨w.heap.size, 3, none⟩ = some (.int .i64 x.f3) := (HB1.out.cell 3).trans rfl
  have f4 : w1.cell? ⟨w.heap.size, 4, none⟩ = some (.int .i64 x.f4) := (HB1.out.cell 4).trans rfl
  have f5 : w1.cell? ⟨w.heap.size, 5, none⟩ = some (.slice A x.f5.length c) := (HB1.out.cell 5).trans rfl
  by_cases h1 : 4096 < n
  · have HR : Hid (r = 2) := Lib.hid (by rw [HE.out, if_pos (by have := HN.out; omega)])
    go_wp2
    go_ret
    exact ⟨ret_of HR.out, HB1.out.1⟩
  obtain ⟨hs, rfl, rfl⟩ : sizeE x ≤ 4096 ∧ n = sizeE x ∧ d = depE x := by have := HN.out; omega
  have hE := HE.out
  rw [if_neg (by omega)] at hE
  have h1' : decide ((4096 : Int) < (sizeE x : Int)) = false := decide_eq_false h1
  by_cases h2 : 64 < depE x
  · have HR : Hid (r = 5) := Lib.hid (by rw [hE, if_pos h2])
    clear hE
    go_wp2
    go_ret
    exact ⟨ret_of HR.out, HB1.out.1⟩
  rw [if_neg h2] at hE
  have h2' : decide ((64 : Int) < (depE x : Int)) = false := decide_eq_false (by omega)
  have HS := Aside0.mk hs
  clear hs
  cases hq : rightE x
  · have HR : Hid (r = 20) := Lib.hid (by rw [hE, if_pos hq])
    rw [hq] at HQ
    clear hE hq
    go_wp2_with (go_at_call 143; refine (HQ.out _ HB1.out.1).mono ?_)
    first | rintro e w2 rfl k2 | rintro e w2 ⟨rfl, k2⟩
    have HB2 := Aside0.mk (HB1.out.then k2)
    clear k2
    go_wp2
    go_ret
    exact ⟨ret_of HR.out, HB2.out.1⟩
  rw [if_neg (by rw [hq]; simp)] at hE
  have HP2 := Aside0.mk (HP.out HS.out hq)
  rw [hq] at HQ
  clear hq
  have HE2 := Aside0.mk hE
  clear hE
  go_wp2_with (go_at_call 143; refine (HQ.out _ HB1.out.1).mono ?_)
  first | rintro e w2 rfl k2 | rintro e w2 ⟨rfl, k2⟩
  have HB2 := Aside0.mk (HB1.out.then k2)
  clear k2
  have f0 : w2.cell? ⟨w.heap.size, 0, none⟩ = some (.int .i64 x.f0) := (HB2.out.cell 0).trans rfl
  have f1 : w2.cell? ⟨w.heap.size, 1, none⟩ = some (.int .i64 x.f1) := (HB2.out.cell 1).trans rfl
  have f2 : w2.cell? ⟨w.heap.size, 2, none⟩ = some (.int .i64 x.f2) := (HB2.out.cell 2).trans rfl
  have f3 : w2.cell? ⟨w.heap.size, 3, none⟩ = some (.int .i64 x.f3) := (HB2.out.cell 3).trans rfl
  have f4 : w2.cell? ⟨w.heap.size, 4, none⟩ = some (.int .i64 x.f4) := (HB2.out.cell 4).trans rfl
  have f5 : w2.cell? ⟨w.heap.size, 5, none⟩ = some (.slice A x.f5.length c) := (HB2.out.cell 5).trans rfl
  generalize posE x = q at *
  by_cases h3 : 4096 < q
  · have HR : Hid (r = 21) := Lib.hid (by rw [HE2.out, if_pos h3])
    go_wp2_with (go_at_call 144; refine (HP2.out _ HB2.out.1).mono ?_)
    first | rintro e w3 rfl k3 | rintro e w3 ⟨rfl, k3⟩
    have HB3 := Aside0.mk (HB2.out.then k3)
    clear k3
    go_wp2
    go_ret
    exact ⟨ret_of HR.out, HB3.out.1⟩
  · have HR : Hid (r = 0) := Lib.hid (by rw [HE2.out, if_neg h3])
    have h3' : decide (4096 < q) = false := decide_eq_false h3
    go_wp2_with (go_at_call 144; refine (HP2.out _ HB2.out.1).mono ?_)
    first | rintro e w3 rfl k3 | rintro e w3 ⟨rfl, k3⟩
    have HB3 := Aside0.mk (HB2.out.then k3)
    clear k3
    go_wp2
    go_ret
    exact ⟨ret_of HR.out, HB3.out.1⟩
end Go.Proofs.YtpnkifincadakaaGreatDoor.Wr
end
section
namespace Go.Proofs.YtpnkifincadakaaGreatDoor.Wr
open Go.RowKit Go.Pk Go.Proofs.YtpnkifincadakaaGreatDoorW.PrintWords Go.Proofs.YtpnkifincadakaaGreatDoor.PPackSpecs
theorem sym_ways (a b : Int) (nl nn : Nat) (r : Bool) (h : r = symOk ⟨a, b⟩ nl nn) : (r = false ∧ a ≠ 1 ∧ a ≠ 2 ∧ a ≠ 3) ∨ (a = 1 ∧ (r = false ∧ (¬ 0 ≤ b ∨ 0 ≤ b ∧ ¬ b < (nl : Int)) ∨ r = true ∧ 0 ≤ b ∧ b < (nl : Int))) ∨
    (a = 2 ∧ (r = false ∧ b ≠ 0 ∨ r = true ∧ b = 0)) ∨ (a = 3 ∧ (r = false ∧ (¬ 0 ≤ b ∨ 0 ≤ b ∧ ¬ b < (nn : Int)) ∨ r = true ∧ 0 ≤ b ∧ b < (nn : Int))) := by
  rw [h]
  unfold symOk
  dsimp only
  repeat' split
  all_goals (simp only [decide_eq_false_iff_not, decide_eq_true_eq, Bool.false_eq_true, false_and, or_false, true_and]; omega)
set_option maxHeartbeats 4000000 in
theorem symbol76 (x : S85) (nl nn : Nat) (w : World) (hl : nl ≤ 9223372036854775807) (hn : nn ≤ 9223372036854775807) :
    Calls Tryz.prog 76 #[.agg #[.int .i64 x.f0, .int .i64 x.f1], .int .i64 nl, .int .i64 nn] w fun e w' => e = .returned (.bool (symOk x nl nn)) ∧ Below w.heap.size w w' := by
  obtain ⟨a, b⟩ := x
  dsimp only
  obtain ⟨r, hr⟩ : ∃ r, r = symOk ⟨a, b⟩ nl nn := ⟨_, rfl⟩
  rw [← hr]
  have D := sym_ways a b nl nn r hr
  have HB := Aside0.mk (Box.start w #[.int .i64 a, .int .i64 b] 85)
  clear hr
  rcases D with ⟨rfl, h, k1, k2⟩ | ⟨rfl, ⟨rfl, h | ⟨k1, h⟩⟩ | ⟨rfl, k1, k2⟩⟩ | ⟨rfl, ⟨rfl, h⟩ | ⟨rfl, rfl⟩⟩ | ⟨rfl, ⟨rfl, h | ⟨k1, h⟩⟩ | ⟨rfl, k1, k2⟩⟩
  all_goals
    try (first | replace h := bf h | replace h := df h); obtain ⟨h, h'⟩ := h
    try (replace k1 := bf k1); obtain ⟨k1, k1'⟩ := k1
    try (replace k2 := bf k2); obtain ⟨k2, k2'⟩ := k2
    go_enter Tryz.func76, Tryz.ntmps76
    go_wp2
    go_ret
    exact ⟨rfl, HB.out.1⟩
end Go.Proofs.YtpnkifincadakaaGreatDoor.Wr
end
