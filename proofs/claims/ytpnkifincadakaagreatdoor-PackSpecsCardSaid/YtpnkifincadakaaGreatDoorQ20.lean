/- Proved: part 20 of the proof of PackSpecs (Mh, Ck, Mh4, Ps1). Conditions: each theorem states its own. -/
import Derived.Test.YtpnkifincadakaaGreatDoorQ15
import Derived.Test.YtpnkifincadakaaGreatDoorQ16
import Derived.Test.YtpnkifincadakaaGreatDoorQ18
import Derived.Test.YtpnkifincadakaaGreatDoorQ19
set_option linter.unusedVariables false
set_option linter.unusedSimpArgs false
section
namespace Go.Proofs.YtpnkifincadakaaGreatDoor.Wr
open Go.RowKit Go.Pk Go.Proofs.YtpnkifincadakaaGreatDoorW.PrintWords Go.Proofs.YtpnkifincadakaaGreatDoor.PPackSpecs
def longOf (lex : List S42) (names : List ByteArray) (prods : List S67) : Bool := decide (64 < lex.length ∨ 128 < names.length ∨ 512 < prods.length) || rightLong prods
set_option maxHeartbeats 8000000 in
set_option maxRecDepth 100000 in
theorem long81 (lex : List S42) (names : List ByteArray) (start : Int) (prods : List S67) (A0 A1 A3 : Option Addr) (c0 c1 c3 : Nat) (w : World)
    (hm0 : lex.length ≤ 9223372036854775807) (hm1 : names.length ≤ 9223372036854775807) (h3 : Kd.C k67 w A3 prods.length prods) :
    Calls Tryz.prog 81 #[.agg #[.slice A0 lex.length c0, .slice A1 names.length c1, .int .i64 start, .slice A3 prods.length c3]] w fun e w' => e = .returned (.bool (longOf lex names prods)) ∧ Below w.heap.size w w' := by
  have hm3 := Kd.C_max h3
  have H3 := Aside0.mk h3
  clear h3
  have HB := Aside0.mk (Box.start w #[.slice A0 lex.length c0, .slice A1 names.length c1, .int .i64 start, .slice A3 prods.length c3] 28)
  by_cases hg : 64 < lex.length ∨ 128 < names.length ∨ 512 < prods.length
  · have HE : Hid (longOf lex names prods = true) := Lib.hid (by unfold longOf; rw [decide_eq_true hg]; rfl)
    rw [HE.out]
    by_cases g0 : 64 < lex.length
    · go_enter Tryz.func81, Tryz.ntmps81
      go_wp2
      go_ret
      exact ⟨rfl, HB.out.1⟩
    by_cases g1 : 128 < names.length
    · go_enter Tryz.func81, Tryz.ntmps81
      go_wp2
      go_ret
      exact ⟨rfl, HB.out.1⟩
    have g3 : 512 < prods.length := by omega
    go_enter Tryz.func81, Tryz.ntmps81
    go_wp2
    go_ret
    exact ⟨rfl, HB.out.1⟩
  have HE : Hid (longOf lex names prods = rightLong prods) := Lib.hid (by unfold longOf; rw [decide_eq_false hg]; rfl)
  rw [HE.out]
  have b0 : decide ((64 : Int) < (lex.length : Int)) = false := decide_eq_false (by omega)
  have b1 : decide ((128 : Int) < (names.length : Int)) = false := decide_eq_false (by omega)
  have b3 : decide ((512 : Int) < (prods.length : Int)) = false := decide_eq_false (by omega)
  go_enter Tryz.func81, Tryz.ntmps81
  go_wp2
  go_loopw [3] (fun i wr => ∃ k : Nat, k ≤ prods.length ∧ i = .int .i64 k ∧ Aside0 (Box w w.heap.size #[.slice A0 lex.length c0, .slice A1 names.length c1, .int .i64 start, .slice A3 prods.length c3] 28 wr) ∧ Aside0 (rightLong (prods.drop k) = rightLong prods)) (fun i _ => prods.length - (intOf i).toNat)
  case atStart => exact ⟨0, Nat.zero_le _, rfl, HB, ⟨rfl⟩⟩
  case round =>
    obtain ⟨k, hk, rfl, hX, hI⟩ := hrel
    have q3 : wr.cell? ⟨w.heap.size, 3, none⟩ = some (.slice A3 prods.length c3) := (hX.out.cell 3).trans rfl
    by_cases hlt : k < prods.length
    · obtain ⟨ad, cs, rfl, hK, hc0, hc1⟩ := C_at (Kd.C_below H3.out hX.out.1) k hlt
      obtain ⟨A1', c1', rfl, l1, g1⟩ := k67_open hK
      have d1 : wr.cell? ⟨(ad.add (k * 2)).block, (ad.add (k * 2)).off + 1, none⟩ = some (.slice A1' prods[k].f1.length c1') := hc1 1 _ (by decide) rfl
      have HD : Hid (rightLong (prods.drop k) = (decide (16 < prods[k].f1.length) || rightLong (prods.drop (k + 1)))) := Lib.hid (any_drop _ hlt)
      clear hK hc0 hc1 g1
      generalize prods[k] = x at *
      by_cases h16 : 16 < x.f1.length
      · have HR : Hid (rightLong prods = true) := Lib.hid (by rw [← hI.out, HD.out, decide_eq_true h16]; rfl)
        go_wp2
        go_ret
        exact ⟨by rw [HR.out]; rfl, hX.out.1⟩
      · have HN : Hid (rightLong (prods.drop (k + 1)) = rightLong prods) := Lib.hid (by rw [← hI.out, HD.out, decide_eq_false h16]; rfl)
        have bx : decide ((16 : Int) < (x.f1.length : Int)) = false := decide_eq_false (by omega)
        go_wp2
        go_roundw
        case rel => exact ⟨k + 1, by omega, by go_num, hX, ⟨HN.out⟩⟩
        case measure => simp [intOf]; omega
    · obtain rfl : k = prods.length := by omega
      have HR : Hid (rightLong prods = false) := Lib.hid (by rw [← hI.out, List.drop_length]; rfl)
      go_wp2
      go_ret
      exact ⟨by rw [HR.out]; rfl, hX.out.1⟩
end Go.Proofs.YtpnkifincadakaaGreatDoor.Wr
end
section
namespace Go.Proofs.YtpnkifincadakaaGreatDoor.Wr
open Go.RowKit Go.Pk Go.Proofs.YtpnkifincadakaaGreatDoorW.PrintWords Go.Proofs.YtpnkifincadakaaGreatDoor.PPackSpecs
set_option maxHeartbeats 16000000 in
set_option maxRecDepth 100000 in
theorem rright147 (n : Nat) : ∀ (e : S40), sizeE e ≤ n → ∀ (A : Option Addr) (c : Nat) (w : World), k40.C w A e.f5.length e.f5 →
    Calls Tryz.prog 147 #[.agg #[.int .i64 e.f0, .int .i64 e.f1, .int .i64 e.f2, .int .i64 e.f3, .int .i64 e.f4, .slice A e.f5.length c]] w fun r w' => r = .returned (.bool (rightE e)) ∧ Below w.heap.size w w' := by
  induction n with
  | zero => intro e h; have := sizeE_pos e; omega
  | succ n ih =>
    intro e hn A c w hC
    have hE := rightE_eq e
    rw [sizeE_eq] at hn
    obtain ⟨r, hr⟩ : ∃ r, r = rightE e := ⟨_, rfl⟩
    rw [← hr] at hE ⊢
    clear hr
    obtain ⟨a, b, d, f, g, l⟩ := e
    dsimp only at hn hC hE ⊢
    have hm := Kd.C_max hC
    have HC := Aside0.mk hC
    have IH := Aside0.mk ih
    have HN := Aside0.mk hn
    clear hC ih hn
    have HB := Aside0.mk (Bx.start w a b d f g A l.length c)
    cases ho : ownOk ⟨a, b, d, f, g, l⟩ with
    | false =>
      have HR : Hid (r = false) := Lib.hid (by rw [hE, ho]; rfl)
      have F : (a ≠ 1 ∧ a ≠ 2 ∧ a ≠ 3 ∧ a ≠ 4) ∨
          (a = 1 ∧ ((l.length : Int) ≠ 0 ∨ (l.length : Int) = 0 ∧ (f ≠ 0 ∨ f = 0 ∧ (g ≠ 0 ∨ g = 0 ∧ (¬ 0 ≤ b ∨ 0 ≤ b ∧ (¬ b ≤ d ∨ b ≤ d ∧ ¬ d ≤ 255)))))) ∨
          (a = 2 ∧ (b ≠ 0 ∨ b = 0 ∧ (d ≠ 0 ∨ d = 0 ∧ (f ≠ 0 ∨ f = 0 ∧ (g ≠ 0 ∨ g = 0 ∧ (l.length : Int) = 1))))) ∨
          (a = 3 ∧ (b ≠ 0 ∨ b = 0 ∧ (d ≠ 0 ∨ d = 0 ∧ (f ≠ 0 ∨ f = 0 ∧ (g ≠ 0 ∨ g = 0 ∧ ((l.length : Int) = 1 ∨ (l.length : Int) ≠ 1 ∧ (l.length : Int) = 0)))))) ∨
          (a = 4 ∧ (b ≠ 0 ∨ b = 0 ∧ (d ≠ 0 ∨ d = 0 ∧ ((l.length : Int) ≠ 1 ∨ (l.length : Int) = 1 ∧ (f < 0 ∨ ¬ f < 0 ∧ (1000 < f ∨ ¬ 1000 < f ∧ (g ≠ -1 ∧ (g < f ∨ ¬ g < f ∧ 1000 < g)))))))) := by
        clear HB HC HN IH
        unfold ownOk at ho
        dsimp only at ho
        repeat' split at ho
        all_goals (simp only [decide_eq_false_iff_not] at ho; omega)
      clear hE ho
      rcases F with ⟨h, k1, k2, k3⟩ | ⟨rfl, h | ⟨k1, h | ⟨rfl, h | ⟨rfl, h | ⟨k2, h | ⟨k3, h⟩⟩⟩⟩⟩⟩ | ⟨rfl, h | ⟨rfl, h | ⟨rfl, h | ⟨rfl, h | ⟨rfl, h⟩⟩⟩⟩⟩ |
        ⟨rfl, h | ⟨rfl, h | ⟨rfl, h | ⟨rfl, h | ⟨rfl, h | ⟨h, k1⟩⟩⟩⟩⟩⟩ | ⟨rfl, h | ⟨rfl, h | ⟨rfl, h | ⟨k1, h | ⟨k2, h | ⟨k3, h, h1 | ⟨k4, h1⟩⟩⟩⟩⟩⟩⟩
      all_goals
        try (first | replace h := bf h | replace h := df h | replace h := bt h); obtain ⟨h, h'⟩ := h
        try (first | replace k1 := bf k1 | replace k1 := df k1 | replace k1 := bt k1); obtain ⟨k1, k1'⟩ := k1
        try (first | replace k2 := bf k2 | replace k2 := df k2); obtain ⟨k2, k2'⟩ := k2
        try (first | replace k3 := bf k3 | replace k3 := df k3); obtain ⟨k3, k3'⟩ := k3
        try (first | replace k4 := df k4); obtain ⟨k4, k4'⟩ := k4
        go_enter Tryz.func147, Tryz.ntmps147
        go_wp2
        go_ret
        exact ⟨by rw [HR.out]; rfl, HB.out.below⟩
    | true =>
      rw [ho, Bool.true_and] at hE
      have T : (a = 1 ∧ (l.length : Int) = 0 ∧ f = 0 ∧ g = 0 ∧ 0 ≤ b ∧ b ≤ d ∧ d ≤ 255) ∨
          (a = 2 ∧ b = 0 ∧ d = 0 ∧ f = 0 ∧ g = 0 ∧ (l.length : Int) ≠ 1) ∨ (a = 3 ∧ b = 0 ∧ d = 0 ∧ f = 0 ∧ g = 0 ∧ (l.length : Int) ≠ 1 ∧ (l.length : Int) ≠ 0) ∨
          (a = 4 ∧ b = 0 ∧ d = 0 ∧ (l.length : Int) = 1 ∧ ¬ f < 0 ∧ ¬ 1000 < f ∧ (g = -1 ∨ g ≠ -1 ∧ ¬ g < f ∧ ¬ 1000 < g)) := by
        clear HB HC HN IH
        unfold ownOk at ho
        dsimp only at ho
        repeat' split at ho
        all_goals (simp only [decide_eq_true_eq, Bool.false_eq_true] at ho; try omega)
      clear ho
      rcases T with ⟨rfl, k1, rfl, rfl, h1, h2, h3⟩ | T
      · have HR : Hid (r = true) := Lib.hid (by rw [hE, List.eq_nil_of_length_eq_zero (by omega : l.length = 0)]; rfl)
        replace k1 := bt k1
        obtain ⟨k1, k1'⟩ := k1
        clear hE
        go_enter Tryz.func147, Tryz.ntmps147
        go_wp2
        go_ret
        exact ⟨by rw [HR.out]; rfl, HB.out.below⟩
      have HE := Aside0.mk hE
      clear hE
      rcases T with ⟨rfl, rfl, rfl, rfl, rfl, k1⟩ | ⟨rfl, rfl, rfl, rfl, rfl, k1, k2⟩ | ⟨rfl, rfl, rfl, k1, k2, k3, rfl | ⟨k4, k5, k6⟩⟩
      all_goals
        try (first | replace k1 := bf k1 | replace k1 := bt k1); obtain ⟨k1, k1'⟩ := k1
        try (first | replace k2 := bf k2 | replace k2 := df k2); obtain ⟨k2, k2'⟩ := k2
        try (first | replace k3 := df k3); obtain ⟨k3, k3'⟩ := k3
        try (first | replace k4 := bf k4); obtain ⟨k4, k4'⟩ := k4
        try (first | replace k5 := df k5); obtain ⟨k5, k5'⟩ := k5
        try (first | replace k6 := df k6); obtain ⟨k6, k6'⟩ := k6
        go_enter Tryz.func147, Tryz.ntmps147
        go_wp2
        clear k1 k1'
        go_loopw [4] (fun i wr => ∃ k : Nat, k ≤ l.length ∧ i = .int .i64 k ∧ Aside0 (Bx w A l.length c wr) ∧ Aside0 (rightL (l.drop k) = r)) (fun i _ => l.length - (intOf i).toNat)
        case atStart => exact ⟨0, Nat.zero_le _, rfl, HB, ⟨HE.out.symm⟩⟩
        case round =>
          obtain ⟨k, hk, rfl, hX, hI⟩ := hrel
          have p5 : wr.cell? ⟨w.heap.size, 5, none⟩ = some (.slice A l.length c) := hX.out.cell
          by_cases hlt : k < l.length
          · obtain ⟨ad, cs, rfl, hK, hc0, hc1⟩ := C_at (Kd.C_below HC.out hX.out.below) k hlt
            obtain ⟨A7, c7, rfl, l7, g7⟩ := k40_open hK
            have d0 : wr.cell? (ad.add (k * 6)) = some (.int .i64 l[k].f0) := hc0 _ rfl
            have d1 : wr.cell? ⟨(ad.add (k * 6)).block, (ad.add (k * 6)).off + 1, none⟩ = some (.int .i64 l[k].f1) := hc1 1 _ (by decide) rfl
            have d2 : wr.cell? ⟨(ad.add (k * 6)).block, (ad.add (k * 6)).off + 2, none⟩ = some (.int .i64 l[k].f2) := hc1 2 _ (by decide) rfl
            have d3 : wr.cell? ⟨(ad.add (k * 6)).block, (ad.add (k * 6)).off + 3, none⟩ = some (.int .i64 l[k].f3) := hc1 3 _ (by decide) rfl
            have d4 : wr.cell? ⟨(ad.add (k * 6)).block, (ad.add (k * 6)).off + 4, none⟩ = some (.int .i64 l[k].f4) := hc1 4 _ (by decide) rfl
            have d5 : wr.cell? ⟨(ad.add (k * 6)).block, (ad.add (k * 6)).off + 5, none⟩ = some (.slice A7 l[k].f5.length c7) := hc1 5 _ (by decide) rfl
            have hsz : sizeE l[k] ≤ n := by
              have := mem_size _ _ (List.getElem_mem hlt)
              have := HN.out
              omega
            have HS := Aside0.mk (IH.out l[k] hsz A7 c7 wr g7)
            have HD : Hid (rightL (l.drop k) = (rightE l[k] && rightL (l.drop (k + 1)))) := Lib.hid (rightL_drop hlt)
            clear hK hc0 hc1 g7 hsz
            generalize l[k] = x at *
            cases hs : rightE x
            · have HR : Hid (r = false) := Lib.hid (by rw [← hI.out, HD.out, hs]; rfl)
              rw [hs] at HS
              clear hs
              go_wp2_with (go_at_call 147; refine HS.out.mono ?_)
              first | rintro e w2 rfl k2 | rintro e w2 ⟨rfl, k2⟩
              have hX2 := Aside0.mk (hX.out.then k2)
              clear k2
              go_wp2
              go_ret
              exact ⟨by rw [HR.out]; rfl, hX2.out.below⟩
            · have HN : Hid (rightL (l.drop (k + 1)) = r) := Lib.hid (by rw [← hI.out, HD.out, hs]; rfl)
              rw [hs] at HS
              clear hs
              go_wp2_with (go_at_call 147; refine HS.out.mono ?_)
              first | rintro e w2 rfl k2 | rintro e w2 ⟨rfl, k2⟩
              have hX2 := Aside0.mk (hX.out.then k2)
              clear k2
              go_wp2
              go_roundw
              case rel => exact ⟨k + 1, by omega, by go_num, hX2, ⟨HN.out⟩⟩
              case measure => simp [intOf]; omega
          · obtain rfl : k = l.length := by omega
            have HR : Hid (r = true) := Lib.hid (by rw [← hI.out, List.drop_length]; rfl)
            go_wp2
            go_ret
            exact ⟨by rw [HR.out]; rfl, hX.out.below⟩
set_option maxHeartbeats 16000000 in
set_option maxRecDepth 100000 in
theorem rpos148 (n : Nat) : ∀ (e : S40), sizeE e ≤ n → rightE e = true → ∀ (A : Option Addr) (c : Nat) (w : World), k40.C w A e.f5.length e.f5 →
    Calls Tryz.prog 148 #[.agg #[.int .i64 e.f0, .int .i64 e.f1, .int .i64 e.f2, .int .i64 e.f3, .int .i64 e.f4, .slice A e.f5.length c]] w fun r w' => r = .returned (.int .i64 (posE e)) ∧ Below w.heap.size w w' := by
  induction n with
  | zero => intro e h; have := sizeE_pos e; omega
  | succ n ih =>
    intro e hn hr A c w hC
    have hE := posE_eq e
    have hcb : e.f0 = 4 → 0 ≤ copiesOf e ∧ copiesOf e ≤ 1000 ∧ e.f5.length = 1 := copies_bound hr
    rw [rightE_eq, Bool.and_eq_true] at hr
    obtain ⟨ho, hrl⟩ := hr
    rw [sizeE_eq] at hn
    have hpl := (pos_bound (sizeL e.f5)).2 e.f5 (Nat.le_refl _) hrl
    obtain ⟨r, hr⟩ : ∃ r, r = posE e := ⟨_, rfl⟩
    rw [← hr] at hE ⊢
    clear hr ho
    obtain ⟨a, b, d, f, g, l⟩ := e
    unfold copiesOf at hE hcb
    dsimp only at hn hC hE hrl hcb hpl ⊢
    have hm := Kd.C_max hC
    have HC := Aside0.mk hC
    have IH := Aside0.mk ih
    have HN := Aside0.mk hn
    have HE := Aside0.mk hE
    have HRL := Aside0.mk hrl
    have HCB := Aside0.mk hcb
    have HPL := Aside0.mk hpl
    clear hC ih hn hE hrl hcb hpl
    have HB := Aside0.mk (Box.start w #[.int .i64 a, .int .i64 b, .int .i64 d, .int .i64 f, .int .i64 g, .slice A l.length c] 40)
    go_enter Tryz.func148, Tryz.ntmps148
    go_wp2
    go_loopw [3, 4] (fun v i wr => ∃ (k : Nat) (s : Int), k ≤ l.length ∧ v = .int .i64 s ∧ i = .int .i64 k ∧ 0 ≤ s ∧ s ≤ 4097 ∧ Aside0 (Box w w.heap.size #[.int .i64 a, .int .i64 b, .int .i64 d, .int .i64 f, .int .i64 g, .slice A l.length c] 40 wr) ∧ Aside0 (rightL (l.drop k) = true) ∧ Aside0 (min (s + posL (l.drop k)) 4097 = min (posL l) 4097)) (fun _ i _ => l.length - (intOf i).toNat)
    case atStart => exact ⟨0, 0, Nat.zero_le _, rfl, rfl, by omega, by omega, HB, HRL, ⟨by rw [Int.zero_add]; rfl⟩⟩
    case round =>
      obtain ⟨k, s, hk, rfl, rfl, hs0, hs1, hX, hY, hI⟩ := hrel
      have p5 : wr.cell? ⟨w.heap.size, 5, none⟩ = some (.slice A l.length c) := (hX.out.cell 5).trans rfl
      by_cases hlt : k < l.length
      · obtain ⟨ad, cs, rfl, hK, hc0, hc1⟩ := C_at (Kd.C_below HC.out hX.out.1) k hlt
        obtain ⟨A7, c7, rfl, l7, g7⟩ := k40_open hK
        have d0 : wr.cell? (ad.add (k * 6)) = some (.int .i64 l[k].f0) := hc0 _ rfl
        have d1 : wr.cell? ⟨(ad.add (k * 6)).block, (ad.add (k * 6)).off + 1, none⟩ = some (.int .i64 l[k].f1) := hc1 1 _ (by decide) rfl
        have d2 : wr.cell? ⟨(ad.add (k * 6)).block, (ad.add (k * 6)).off + 2, none⟩ = some (.int .i64 l[k].f2) := hc1 2 _ (by decide) rfl
        have d3 : wr.cell? ⟨(ad.add (k * 6)).block, (ad.add (k * 6)).off + 3, none⟩ = some (.int .i64 l[k].f3) := hc1 3 _ (by decide) rfl
        have d4 : wr.cell? ⟨(ad.add (k * 6)).block, (ad.add (k * 6)).off + 4, none⟩ = some (.int .i64 l[k].f4) := hc1 4 _ (by decide) rfl
        have d5 : wr.cell? ⟨(ad.add (k * 6)).block, (ad.add (k * 6)).off + 5, none⟩ = some (.slice A7 l[k].f5.length c7) := hc1 5 _ (by decide) rfl
        have hsz : sizeE l[k] ≤ n := by
          have := mem_size _ _ (List.getElem_mem hlt)
          have := HN.out
          omega
        have hy := hY.out
        rw [rightL_drop hlt, Bool.and_eq_true] at hy
        have hq := (pos_bound n).1 l[k] hsz hy.1
        have hpd := (pos_bound _).2 (l.drop (k + 1)) (Nat.le_refl _) hy.2
        have HS := Aside0.mk (IH.out l[k] hsz hy.1 A7 c7 wr g7)
        have HD := Aside0.mk (posL_drop hlt)
        have HY2 := Aside0.mk hy.2
        have HPD := Aside0.mk hpd.1
        obtain ⟨hq0, hq1⟩ := hq
        clear hK hc0 hc1 g7 hsz hy hpd
        generalize l[k] = x at *
        generalize posE x = q at *
        by_cases hb : 4096 < s + q
        · have HM := Aside0.mk (show min (4097 + posL (l.drop (k + 1))) 4097 = min (posL l) 4097 by
            have := hI.out
            rw [HD.out] at this
            have := HPD.out
            omega)
          go_wp2_with (go_at_call 148; refine HS.out.mono ?_)
          first | rintro e w2 rfl k2 | rintro e w2 ⟨rfl, k2⟩
          have hX2 := Aside0.mk (hX.out.then k2)
          clear k2
          go_wp2
          go_roundw
          case rel => exact ⟨k + 1, 4097, by omega, rfl, by go_num, by omega, by omega, hX2, HY2, HM⟩
          case measure => simp [intOf]; omega
        · have HM := Aside0.mk (show min (s + q + posL (l.drop (k + 1))) 4097 = min (posL l) 4097 by
            have := hI.out
            rw [HD.out] at this
            omega)
          have hb' : decide (4096 < s + q) = false := decide_eq_false hb
          go_wp2_with (go_at_call 148; refine HS.out.mono ?_)
          first | rintro e w2 rfl k2 | rintro e w2 ⟨rfl, k2⟩
          have hX2 := Aside0.mk (hX.out.then k2)
          clear k2
          go_wp2
          go_roundw
          case rel => exact ⟨k + 1, s + q, by omega, by go_num, by go_num, by omega, by omega, hX2, HY2, HM⟩
          case measure => simp [intOf]; omega
      · obtain rfl : k = l.length := by omega
        have hs : s = min (posL l) 4097 := by
          have := hI.out
          rw [List.drop_length] at this
          simp only [posL] at this
          omega
        have e0 : wr.cell? ⟨w.heap.size, 0, none⟩ = some (.int .i64 a) := (hX.out.cell 0).trans rfl
        have e3 : wr.cell? ⟨w.heap.size, 3, none⟩ = some (.int .i64 f) := (hX.out.cell 3).trans rfl
        have e4 : wr.cell? ⟨w.heap.size, 4, none⟩ = some (.int .i64 g) := (hX.out.cell 4).trans rfl
        have hE := HE.out
        by_cases h1 : a = 1
        · have HR : Hid (r = 1) := Lib.hid (by rw [hE, if_pos h1])
          subst h1
          clear hs hE
          go_wp2
          go_ret
          exact ⟨ret_of HR.out, hX.out.1⟩
        rw [if_neg h1] at hE
        obtain ⟨h1, h1'⟩ := bf h1
        by_cases h4 : a = 4
        · subst h4
          obtain ⟨c1, c2, c3⟩ := HCB.out rfl
          have hpl := HPL.out
          rw [c3] at hpl
          have hsp : s = posL l := by omega
          rw [if_pos rfl, ← hsp] at hE
          clear hs hsp hpl c3
          by_cases hg : g < 0
          · rw [if_pos hg] at hE c1 c2
            have hg' : decide (0 ≤ g) = false := decide_eq_false (by omega)
            by_cases hf : 1 < f
            · rw [show max f 1 = f by omega] at hE c1 c2
              obtain ⟨m0, m1⟩ : 0 ≤ s * f ∧ s * f ≤ 4097 * 1000 := ⟨Int.mul_nonneg hs0 c1, Int.le_trans (Int.mul_le_mul_of_nonneg_right hs1 c1) (Int.mul_le_mul_of_nonneg_left c2 (by omega))⟩
              by_cases hb : 4096 < s * f
              · have HR : Hid (r = 4097) := Lib.hid (by omega)
                clear hE
                go_wp2
                go_ret
                exact ⟨ret_of HR.out, hX.out.1⟩
              · have HR : Hid (r = s * f) := Lib.hid (by omega)
                have hb' : decide (4096 < s * f) = false := decide_eq_false hb
                clear hE
                go_wp2
                go_ret
                exact ⟨ret_of HR.out, hX.out.1⟩
            · rw [show max f 1 = 1 by omega, Int.mul_one] at hE
              have HR : Hid (r = s) := Lib.hid (by omega)
              have hf' : decide (1 < f) = false := decide_eq_false hf
              clear hE c1 c2
              by_cases hb : 4096 < s
              · obtain rfl : s = 4097 := by omega
                go_wp2
                go_ret
                exact ⟨ret_of HR.out, hX.out.1⟩
              · have hb' : decide (4096 < s) = false := decide_eq_false hb
                go_wp2
                go_ret
                exact ⟨ret_of HR.out, hX.out.1⟩
          · rw [if_neg hg] at hE c1 c2
            obtain ⟨m0, m1⟩ : 0 ≤ s * g ∧ s * g ≤ 4097 * 1000 := ⟨Int.mul_nonneg hs0 c1, Int.le_trans (Int.mul_le_mul_of_nonneg_right hs1 c1) (Int.mul_le_mul_of_nonneg_left c2 (by omega))⟩
            by_cases hb : 4096 < s * g
            · have HR : Hid (r = 4097) := Lib.hid (by omega)
              clear hE
              go_wp2
              go_ret
              exact ⟨ret_of HR.out, hX.out.1⟩
            · have HR : Hid (r = s * g) := Lib.hid (by omega)
              have hb' : decide (4096 < s * g) = false := decide_eq_false hb
              clear hE
              go_wp2
              go_ret
              exact ⟨ret_of HR.out, hX.out.1⟩
        · rw [if_neg h4] at hE
          obtain ⟨h4, h4'⟩ := bf h4
          have HR : Hid (r = s) := Lib.hid (by rw [hE, hs])
          clear hE hs
          by_cases hb : 4096 < s
          · obtain rfl : s = 4097 := by omega
            go_wp2
            go_ret
            exact ⟨ret_of HR.out, hX.out.1⟩
          · have hb' : decide (4096 < s) = false := decide_eq_false hb
            go_wp2
            go_ret
            exact ⟨ret_of HR.out, hX.out.1⟩
theorem guard146 (e : S40) (hl : limE e) (A : Option Addr) (c : Nat) (w : World) (h : k40.C w A e.f5.length e.f5) (hc : e.f5.length ≤ c) :
    Calls Tryz.prog 146 #[.agg #[.int .i64 e.f0, .int .i64 e.f1, .int .i64 e.f2, .int .i64 e.f3, .int .i64 e.f4, .slice A e.f5.length c]] w fun r w' => r = .returned (.int .i64 (if 4096 < sizeE e then 2 else if 64 < depE e then 5 else 0)) ∧ Below w.heap.size w w' :=
  graftref2_Guard.calls _ e.f0 e.f1 e.f2 e.f3 e.f4 (fun k => k < w.heap.size) A c e.f5 _ w (Kd.V_mk hc (Kd.C_F k40_heap h)) (guard_any e hl _ (Nat.le_refl _))
set_option maxHeartbeats 16000000 in
set_option maxRecDepth 100000 in
theorem check82 (x : S40) (hl : limE x) (A : Option Addr) (c : Nat) (w : World) (h : k40.C w A x.f5.length x.f5) (hc : x.f5.length ≤ c) :
    Calls Tryz.prog 82 #[.agg #[.int .i64 x.f0, .int .i64 x.f1, .int .i64 x.f2, .int .i64 x.f3, .int .i64 x.f4, .slice A x.f5.length c]] w fun e w' => e = .returned (.int .i64 (chk x)) ∧ Below w.heap.size w w' := by
  have hG := fun o => guard146 x hl A c (w.alloc o) (Kd.C_alloc h o) hc
  have HQ := Aside0.mk fun w' (hb : Below w.heap.size w w') => rright147 (sizeE x) x (Nat.le_refl _) A c w' (Kd.C_below h hb)
  have HP := Aside0.mk fun (hr : rightE x = true) w' (hb : Below w.heap.size w w') => rpos148 (sizeE x) x (Nat.le_refl _) hr A c w' (Kd.C_below h hb)
  have HB := Aside0.mk (Box.start w #[.int .i64 x.f0, .int .i64 x.f1, .int .i64 x.f2, .int .i64 x.f3, .int .i64 x.f4, .slice A x.f5.length c] 40)
  have hcx : chk x = if 4096 < sizeE x then 2 else if 64 < depE x then 5 else if rightE x = false then 20 else if 4096 < posE x then 21 else 0 := rfl
  obtain ⟨r, hr⟩ : ∃ r, r = chk x := ⟨_, rfl⟩
  rw [← hr] at hcx ⊢
  have HE := Aside0.mk hcx
  clear hr hcx h
  obtain ⟨f, hf⟩ : ∃ f : Int, f = if 4096 < sizeE x then 2 else if 64 < depE x then 5 else 0 := ⟨_, rfl⟩
  rw [← hf] at hG
  have HG := Aside0.mk hG
  have HF := Aside0.mk hf
  clear hG hf
  by_cases h0 : f = 0
  rotate_left
  · have HR : Hid (r = f) := Lib.hid (by
      rw [HE.out]
      have := HF.out
      by_cases h1 : 4096 < sizeE x
      · rw [if_pos h1] at this ⊢; exact this.symm
      · rw [if_neg h1] at this ⊢
        by_cases h2 : 64 < depE x
        · rw [if_pos h2] at this ⊢; exact this.symm
        · rw [if_neg h2] at this; exact absurd this h0)
    obtain ⟨h0, h0'⟩ := bf h0
    go_enter Tryz.func82, Tryz.ntmps82
    go_wp2_with (go_at_call 146; refine (HG.out _).mono ?_)
    first | rintro e w1 rfl k1 | rintro e w1 ⟨rfl, k1⟩
    have HB1 := Aside0.mk (HB.out.then k1)
    clear k1
    go_wp2
    go_ret
    exact ⟨ret_of HR.out, HB1.out.1⟩
  have hE : r = if rightE x = false then 20 else if 4096 < posE x then 21 else 0 := by
    have := HF.out
    rw [h0] at this
    rw [HE.out]
    by_cases h1 : 4096 < sizeE x
    · rw [if_pos h1] at this; exact absurd this (by decide)
    · rw [if_neg h1] at this ⊢
      by_cases h2 : 64 < depE x
      · rw [if_pos h2] at this; exact absurd this (by decide)
      · rw [if_neg h2]
  subst h0
  clear HF HE
  go_enter Tryz.func82, Tryz.ntmps82
  have HE := Aside0.mk hE
  clear hE
  go_wp2_with (go_at_call 146; refine (HG.out _).mono ?_)
  first | rintro e w1 rfl k1 | rintro e w1 ⟨rfl, k1⟩
  have HB1 := Aside0.mk (HB.out.then k1)
  clear k1
  have f0 : w1.cell? ⟨w.heap.size, 0, none⟩ = some (.int .i64 x.f0) := (HB1.out.cell 0).trans rfl
  have f1 : w1.cell? ⟨w.heap.size, 1, none⟩ = some (.int .i64 x.f1) := (HB1.out.cell 1).trans rfl
  have f2 : w1.cell? ⟨w.heap.size, 2, none⟩ = some (.int .i64 x.f2) := (HB1.out.cell 2).trans rfl
  have f3 : w1.cell? ⟨w.heap.size, 3, none⟩ = some (.int .i64 x.f3) := (HB1.out.cell 3).trans rfl
  have f4 : w1.cell? ⟨w.heap.size, 4, none⟩ = some (.int .i64 x.f4) := (HB1.out.cell 4).trans rfl
  have f5 : w1.cell? ⟨w.heap.size, 5, none⟩ = some (.slice A x.f5.length c) := (HB1.out.cell 5).trans rfl
  cases hq : rightE x
  · have HR : Hid (r = 20) := Lib.hid (by rw [HE.out, if_pos hq])
    rw [hq] at HQ
    clear hq
    go_wp2_with (go_at_call 147; refine (HQ.out _ HB1.out.1).mono ?_)
    first | rintro e w2 rfl k2 | rintro e w2 ⟨rfl, k2⟩
    have HB2 := Aside0.mk (HB1.out.then k2)
    clear k2
    go_wp2
    go_ret
    exact ⟨ret_of HR.out, HB2.out.1⟩
  have hE := HE.out
  rw [if_neg (by rw [hq]; simp)] at hE
  have HP2 := Aside0.mk (HP.out hq)
  rw [hq] at HQ
  clear hq HE
  have HE := Aside0.mk hE
  clear hE
  go_wp2_with (go_at_call 147; refine (HQ.out _ HB1.out.1).mono ?_)
  first | rintro e w2 rfl k2 | rintro e w2 ⟨rfl, k2⟩
  have HB2 := Aside0.mk (HB1.out.then k2)
  clear k2
  have f0 : w2.cell? ⟨w.heap.size, 0, none⟩ = some (.int .i64 x.f0) := (HB2.out.cell 0).trans rfl
  have f1 : w2.cell? ⟨w.heap.size, 1, none⟩ = some (.int .i64 x.f1) := (HB2.out.cell 1).trans rfl
  have f2 : w2.cell? ⟨w.heap.size, 2, none⟩ = some (.int .i64 x.f2) := (HB2.out.cell 2).trans rfl
  have f3 : w2.cell? ⟨w.heap.size, 3, none⟩ = some (.int .i64 x.f3) := (HB2.out.cell 3).trans rfl
  have f4 : w2.cell? ⟨w.heap.size, 4, none⟩ = some (.int .i64 x.f4) := (HB2.out.cell 4).trans rfl
  have f5 : w2.cell? ⟨w.heap.size, 5, none⟩ = some (.slice A x.f5.length c) := (HB2.out.cell 5).trans rfl
  generalize posE x = q at *
  by_cases h3 : 4096 < q
  · have HR : Hid (r = 21) := Lib.hid (by rw [HE.out, if_pos h3])
    go_wp2_with (go_at_call 148; refine (HP2.out _ HB2.out.1).mono ?_)
    first | rintro e w3 rfl k3 | rintro e w3 ⟨rfl, k3⟩
    have HB3 := Aside0.mk (HB2.out.then k3)
    clear k3
    go_wp2
    go_ret
    exact ⟨ret_of HR.out, HB3.out.1⟩
  · have HR : Hid (r = 0) := Lib.hid (by rw [HE.out, if_neg h3])
    have h3' : decide (4096 < q) = false := decide_eq_false h3
    go_wp2_with (go_at_call 148; refine (HP2.out _ HB2.out.1).mono ?_)
    first | rintro e w3 rfl k3 | rintro e w3 ⟨rfl, k3⟩
    have HB3 := Aside0.mk (HB2.out.then k3)
    clear k3
    go_wp2
    go_ret
    exact ⟨ret_of HR.out, HB3.out.1⟩
end Go.Proofs.YtpnkifincadakaaGreatDoor.Wr
end
section
namespace Go.Proofs.YtpnkifincadakaaGreatDoor.Wr
open Go.RowKit Go.Pk Go.Proofs.YtpnkifincadakaaGreatDoorW.PrintWords Go.Proofs.YtpnkifincadakaaGreatDoor.PPackSpecs
set_option maxHeartbeats 16000000 in
set_option maxRecDepth 100000 in
theorem may34 (lex : List S42) (names : List ByteArray) (start : Int) (prods : List S67) (A0 A1 A3 : Option Addr) (c0 c1 c3 : Nat) (w : World)
    (h0 : Kd.C k42 w A0 lex.length lex) (h1 : Kd.C Kd.string w A1 names.length names) (h3 : Kd.C k67 w A3 prods.length prods) (gc0 : lex.length ≤ c0) (gc1 : names.length ≤ c1) (gc3 : prods.length ≤ c3) (hlim : ∀ x, x ∈ lex → limE x.f2) :
    Calls Tryz.prog 34 #[.agg #[.slice A0 lex.length c0, .slice A1 names.length c1, .int .i64 start, .slice A3 prods.length c3]] w fun e w' => e = .returned (.int .i64 (specErr lex names start prods)) ∧ Below w.heap.size w w' := by
  have hm0 := Kd.C_max h0
  have hm1 := Kd.C_max h1
  have hm3 := Kd.C_max h3
  have H0 := Aside0.mk h0
  have HLIM := Aside0.mk hlim
  have HLO := Aside0.mk (long81 lex names start prods A0 A1 A3 c0 c1 c3 _ hm0 hm1 (Kd.C_below h3 (Box.start w #[.slice A0 lex.length c0, .slice A1 names.length c1, .int .i64 start, .slice A3 prods.length c3] 28).1))
  have H1 := Aside0.mk h1
  have H3 := Aside0.mk h3
  clear h0 h1 h3
  have hbx := Box.start w #[.slice A0 lex.length c0, .slice A1 names.length c1, .int .i64 start, .slice A3 prods.length c3] 28
  have HB := Aside0.mk hbx
  clear hbx
  by_cases hlo : longOf lex names prods = true
  · rw [hlo] at HLO
    have HE : Hid (specErr lex names start prods = 2) := Lib.hid (by
      unfold longOf at hlo
      unfold specErr
      by_cases hg : 64 < lex.length ∨ 128 < names.length ∨ 512 < prods.length
      · rw [if_pos hg]
      · rw [decide_eq_false hg, Bool.false_or] at hlo
        rw [if_neg hg, if_pos hlo])
    go_enter Tryz.func34, Tryz.ntmps34
    go_wp2_with (go_at_call 81; refine HLO.out.mono ?_)
    rintro e w1 ⟨rfl, h1⟩
    have HB1 := HB.out.then h1
    go_wp2
    go_ret
    exact ⟨ret_of HE.out, HB1.1⟩
  have hlof : longOf lex names prods = false := by simpa using hlo
  have hg : ¬ (64 < lex.length ∨ 128 < names.length ∨ 512 < prods.length) := fun hg => hlo (by unfold longOf; rw [decide_eq_true hg]; rfl)
  have HA : Hid (rightLong prods = false) := Lib.hid (by unfold longOf at hlof; rw [decide_eq_false hg, Bool.false_or] at hlof; exact hlof)
  rw [hlof] at HLO
  obtain ⟨r, hrr⟩ : ∃ r, r = specErr lex names start prods := ⟨_, rfl⟩
  rw [← hrr]
  have hspec : r = if rightLong prods = true then 2 else if lexErr lex = 0 then if nameLong names = true then 2 else if start < 0 ∨ (names.length : Int) ≤ start then 70 else if (prods.any (prodBad lex.length names.length)) = true then 70 else 0 else lexErr lex := by rw [hrr]; unfold specErr; rw [if_neg hg]
  have KA := Lib.hid (show rightLong prods = true → r = 2 from fun h => by rw [hspec, if_pos h])
  have KB := Lib.hid (show rightLong prods = false → lexErr lex ≠ 0 → r = lexErr lex from fun h h' => by rw [hspec, if_neg (by rw [h]; simp), if_neg h'])
  have KC := Lib.hid (show rightLong prods = false → lexErr lex = 0 → nameLong names = true → r = 2 from fun h h' h2 => by rw [hspec, if_neg (by rw [h]; simp), if_pos h', if_pos h2])
  have KD := Lib.hid (show rightLong prods = false → lexErr lex = 0 → nameLong names = false → (start < 0 ∨ (names.length : Int) ≤ start) → r = 70 from fun h h' h2 h3 => by rw [hspec, if_neg (by rw [h]; simp), if_pos h', if_neg (by rw [h2]; simp), if_pos h3])
  have KE := Lib.hid (show rightLong prods = false → lexErr lex = 0 → nameLong names = false → ¬ (start < 0 ∨ (names.length : Int) ≤ start) → prods.any (prodBad lex.length names.length) = true → r = 70 from fun h h' h2 h3 h4 => by rw [hspec, if_neg (by rw [h]; simp), if_pos h', if_neg (by rw [h2]; simp), if_neg h3, if_pos h4])
  have KF := Lib.hid (show rightLong prods = false → lexErr lex = 0 → nameLong names = false → ¬ (start < 0 ∨ (names.length : Int) ≤ start) → prods.any (prodBad lex.length names.length) = false → r = 0 from fun h h' h2 h3 h4 => by rw [hspec, if_neg (by rw [h]; simp), if_pos h', if_neg (by rw [h2]; simp), if_neg h3, if_neg (by rw [h4]; simp)])
  clear hspec hrr
  go_enter Tryz.func34, Tryz.ntmps34
  go_wp2_with (go_at_call 81; refine HLO.out.mono ?_)
  rintro e w1 ⟨rfl, h1⟩
  have HX0 := Aside0.mk (HB.out.then h1)
  clear h1
  go_wp2
  go_loopw [3] (fun i wr => ∃ k : Nat, k ≤ lex.length ∧ i = .int .i64 k ∧ Aside0 (Box w w.heap.size #[.slice A0 lex.length c0, .slice A1 names.length c1, .int .i64 start, .slice A3 prods.length c3] 28 wr) ∧ Aside0 (lexErr (lex.drop k) = lexErr lex)) (fun i _ => lex.length - (intOf i).toNat)
  case atStart => exact ⟨0, Nat.zero_le _, rfl, HX0, ⟨rfl⟩⟩
  case round =>
    obtain ⟨k, hk, rfl, hX, hI⟩ := hrel
    have p0 : wr.cell? ⟨w.heap.size, 0, none⟩ = some (.slice A0 lex.length c0) := (hX.out.cell 0).trans rfl
    by_cases hlt : k < lex.length
    · obtain ⟨ad, cs, rfl, hK, hc0, hc1⟩ := C_at (Kd.C_below H0.out hX.out.1) k hlt
      obtain ⟨A7, c7, rfl, l7, g7⟩ := k42_open hK
      have d0 : wr.cell? (ad.add (k * 8)) = some (.string lex[k].f0) := hc0 _ rfl
      have d1 : wr.cell? ⟨(ad.add (k * 8)).block, (ad.add (k * 8)).off + 1, none⟩ = some (.bool lex[k].f1) := hc1 1 _ (by decide) rfl
      have d2 : wr.cell? ⟨(ad.add (k * 8)).block, (ad.add (k * 8)).off + 2, none⟩ = some (.int .i64 lex[k].f2.f0) := hc1 2 _ (by decide) rfl
      have d3 : wr.cell? ⟨(ad.add (k * 8)).block, (ad.add (k * 8)).off + 3, none⟩ = some (.int .i64 lex[k].f2.f1) := hc1 3 _ (by decide) rfl
      have d4 : wr.cell? ⟨(ad.add (k * 8)).block, (ad.add (k * 8)).off + 4, none⟩ = some (.int .i64 lex[k].f2.f2) := hc1 4 _ (by decide) rfl
      have d5 : wr.cell? ⟨(ad.add (k * 8)).block, (ad.add (k * 8)).off + 5, none⟩ = some (.int .i64 lex[k].f2.f3) := hc1 5 _ (by decide) rfl
      have d6 : wr.cell? ⟨(ad.add (k * 8)).block, (ad.add (k * 8)).off + 6, none⟩ = some (.int .i64 lex[k].f2.f4) := hc1 6 _ (by decide) rfl
      have d7 : wr.cell? ⟨(ad.add (k * 8)).block, (ad.add (k * 8)).off + 7, none⟩ = some (.slice A7 lex[k].f2.f5.length c7) := hc1 7 _ (by decide) rfl
      have HD : Hid (lexErr (lex.drop k) = if 64 < lex[k].f0.size then 2 else if chk lex[k].f2 = 0 then lexErr (lex.drop (k + 1)) else chk lex[k].f2) := Lib.hid (lexErr_drop hlt)
      have G7 := Aside0.mk g7
      have hlm := HLIM.out _ (List.getElem_mem hlt)
      clear hK hc0 hc1 g7
      generalize lex[k] = x at *
      by_cases h64 : 64 < x.f0.size
      · have HR : Hid (r = 2) := Lib.hid (by
          have e : lexErr lex = 2 := by rw [← hI.out, HD.out, if_pos h64]
          rw [KB.out HA.out (by rw [e]; decide), e])
        go_wp2
        go_ret
        exact ⟨ret_of HR.out, hX.out.1⟩
      · have bx : decide ((64 : Int) < (x.f0.size : Int)) = false := decide_eq_false (by omega)
        go_wp2_with (go_at_call 82; refine (check82 x.f2 hlm A7 c7 _ G7.out l7).mono ?_)
        rintro e w2 ⟨rfl, k2⟩
        have hX2 := Aside0.mk (hX.out.then k2)
        clear k2
        by_cases hc : chk x.f2 = 0
        · have HN : Hid (lexErr (lex.drop (k + 1)) = lexErr lex) := Lib.hid (by rw [← hI.out, HD.out, if_neg h64, if_pos hc])
          rw [hc]
          go_wp2
          go_roundw
          case rel => exact ⟨k + 1, by omega, by go_num, hX2, ⟨HN.out⟩⟩
          case measure => simp [intOf]; omega
        · have HR : Hid (r = chk x.f2) := Lib.hid (by
            have e : lexErr lex = chk x.f2 := by rw [← hI.out, HD.out, if_neg h64, if_neg hc]
            rw [KB.out HA.out (by rw [e]; exact hc), e])
          have bc : (chk x.f2 == 0) = false := by simpa using hc
          have bc1 : (chk x.f2 != 0) = true := by simpa using hc
          clear hc
          generalize chk x.f2 = q at *
          go_wp2
          go_ret
          exact ⟨ret_of HR.out, hX2.out.1⟩
    · obtain rfl : k = lex.length := by omega
      have HL : Hid (lexErr lex = 0) := Lib.hid (by rw [← hI.out, List.drop_length]; rfl)
      clear hI KB
      have p1 : wr.cell? ⟨w.heap.size, 1, none⟩ = some (.slice A1 names.length c1) := (hX.out.cell 1).trans rfl
      go_wp2
      obtain ⟨w2, rfl⟩ : ∃ w2 : World, w2 = wr := ⟨_, rfl⟩
      go_loopw [5] (fun i wr => ∃ k : Nat, k ≤ names.length ∧ i = .int .i64 k ∧ Aside0 (Box w w.heap.size #[.slice A0 lex.length c0, .slice A1 names.length c1, .int .i64 start, .slice A3 prods.length c3] 28 wr) ∧ Aside0 (nameLong (names.drop k) = nameLong names)) (fun i _ => names.length - (intOf i).toNat)
      case atStart => exact ⟨0, Nat.zero_le _, rfl, hX, ⟨rfl⟩⟩
      case round =>
        obtain ⟨k, hk, rfl, hX, hI⟩ := hrel
        have p1 : wr.cell? ⟨w.heap.size, 1, none⟩ = some (.slice A1 names.length c1) := (hX.out.cell 1).trans rfl
        by_cases hlt : k < names.length
        · obtain ⟨ad, cs, rfl, hK, hc0, hc1⟩ := C_at (Kd.C_below H1.out hX.out.1) k hlt
          obtain rfl : cs = [.string names[k]] := hK
          have d0 : wr.cell? (ad.add k) = some (.string names[k]) := by have := hc0 _ rfl; rwa [show Kd.string.sz = 1 from rfl, Nat.mul_one] at this
          have HD : Hid (nameLong (names.drop k) = (decide (64 < names[k].size) || nameLong (names.drop (k + 1)))) := Lib.hid (any_drop _ hlt)
          clear hc0 hc1
          generalize names[k] = x at *
          by_cases h64 : 64 < x.size
          · have HR : Hid (r = 2) := Lib.hid (KC.out HA.out HL.out (by rw [← hI.out, HD.out, decide_eq_true h64]; rfl))
            go_wp2
            go_ret
            exact ⟨ret_of HR.out, hX.out.1⟩
          · have HN : Hid (nameLong (names.drop (k + 1)) = nameLong names) := Lib.hid (by rw [← hI.out, HD.out, decide_eq_false h64]; rfl)
            have bx : decide ((64 : Int) < (x.size : Int)) = false := decide_eq_false (by omega)
            go_wp2
            go_roundw
            case rel => exact ⟨k + 1, by omega, by go_num, hX, ⟨HN.out⟩⟩
            case measure => simp [intOf]; omega
        · obtain rfl : k = names.length := by omega
          have HM : Hid (nameLong names = false) := Lib.hid (by rw [← hI.out, List.drop_length]; rfl)
          clear hI KC
          have q1 : wr.cell? ⟨w.heap.size, 1, none⟩ = some (.slice A1 names.length c1) := (hX.out.cell 1).trans rfl
          have q2 : wr.cell? ⟨w.heap.size, 2, none⟩ = some (.int .i64 start) := (hX.out.cell 2).trans rfl
          have q3 : wr.cell? ⟨w.heap.size, 3, none⟩ = some (.slice A3 prods.length c3) := (hX.out.cell 3).trans rfl
          by_cases gs : start < 0
          · have HR : Hid (r = 70) := Lib.hid (KD.out HA.out HL.out HM.out (.inl gs))
            go_wp2
            go_ret
            exact ⟨ret_of HR.out, hX.out.1⟩
          by_cases gt : (names.length : Int) ≤ start
          · have HR : Hid (r = 70) := Lib.hid (KD.out HA.out HL.out HM.out (.inr gt))
            go_wp2
            go_ret
            exact ⟨ret_of HR.out, hX.out.1⟩
          have HG : Hid (¬ (start < 0 ∨ (names.length : Int) ≤ start)) := Lib.hid (by omega)
          have bs0 : decide (start < 0) = false := decide_eq_false gs
          have bs1 : decide ((names.length : Int) ≤ start) = false := decide_eq_false gt
          go_wp2
          obtain ⟨w3, rfl⟩ : ∃ w3 : World, w3 = wr := ⟨_, rfl⟩
          go_loopw [6] (fun i wr => ∃ k : Nat, k ≤ prods.length ∧ i = .int .i64 k ∧ Aside0 (Box w w.heap.size #[.slice A0 lex.length c0, .slice A1 names.length c1, .int .i64 start, .slice A3 prods.length c3] 28 wr) ∧ Aside0 ((prods.drop k).any (prodBad lex.length names.length) = prods.any (prodBad lex.length names.length))) (fun i _ => prods.length - (intOf i).toNat)
          case atStart => exact ⟨0, Nat.zero_le _, rfl, hX, ⟨rfl⟩⟩
          case round =>
            obtain ⟨k, hk, rfl, hX, hI⟩ := hrel
            have p3 : wr.cell? ⟨w.heap.size, 3, none⟩ = some (.slice A3 prods.length c3) := (hX.out.cell 3).trans rfl
            by_cases hlt : k < prods.length
            · obtain ⟨ad, cs, rfl, hK, hc0, hc1⟩ := C_at (Kd.C_below H3.out hX.out.1) k hlt
              obtain ⟨A1', c1', rfl, l1, g1⟩ := k67_open hK
              have d0 : wr.cell? (ad.add (k * 2)) = some (.int .i64 prods[k].f0) := hc0 _ rfl
              have d1 : wr.cell? ⟨(ad.add (k * 2)).block, (ad.add (k * 2)).off + 1, none⟩ = some (.slice A1' prods[k].f1.length c1') := hc1 1 _ (by decide) rfl
              have HD : Hid ((prods.drop k).any (prodBad lex.length names.length) = (prodBad lex.length names.length prods[k] || (prods.drop (k + 1)).any (prodBad lex.length names.length))) := Lib.hid (any_drop _ hlt)
              have hmx := Kd.C_max g1
              have G1 := Aside0.mk g1
              clear hK hc0 hc1 g1
              generalize prods[k] = x at *
              have hq1 : (wr.alloc (.cells #[.int .i64 x.f0, .slice A1' x.f1.length c1'] 67)).cell? ⟨w.heap.size, 1, none⟩ = some (.slice A1 names.length c1) := ((hX.out.alloc _).cell 1).trans rfl
              by_cases gl : x.f0 < 0
              · have HR : Hid (r = 70) := Lib.hid (KE.out HA.out HL.out HM.out HG.out (by
                  rw [← hI.out, HD.out]; unfold prodBad; rw [decide_eq_true (Or.inl gl)]; rfl))
                go_wp2
                go_ret
                exact ⟨ret_of HR.out, (hX.out.alloc _).1⟩
              by_cases gr : (names.length : Int) ≤ x.f0
              · have HR : Hid (r = 70) := Lib.hid (KE.out HA.out HL.out HM.out HG.out (by
                  rw [← hI.out, HD.out]; unfold prodBad; rw [decide_eq_true (Or.inr gr)]; rfl))
                go_wp2
                go_ret
                exact ⟨ret_of HR.out, (hX.out.alloc _).1⟩
              have HP : Hid (prodBad lex.length names.length x = x.f1.any fun y => !symOk y lex.length names.length) := Lib.hid (by unfold prodBad; rw [decide_eq_false (by omega)]; rfl)
              have bl0 : decide (x.f0 < 0) = false := decide_eq_false gl
              have bl1 : decide ((names.length : Int) ≤ x.f0) = false := decide_eq_false gr
              have hin := Box.start wr #[.int .i64 x.f0, .slice A1' x.f1.length c1'] 67
              have HIN := Aside0.mk hin
              have HX2 := Aside0.mk (hX.out.alloc (.cells #[.int .i64 x.f0, .slice A1' x.f1.length c1'] 67))
              clear hin
              go_wp2
              obtain ⟨w4, rfl⟩ : ∃ w4 : World, w4 = wr := ⟨_, rfl⟩
              go_loopw [8] (fun i wr => ∃ m : Nat, m ≤ x.f1.length ∧ i = .int .i64 m ∧ Aside0 (Box w w.heap.size #[.slice A0 lex.length c0, .slice A1 names.length c1, .int .i64 start, .slice (some ad) prods.length c3] 28 wr) ∧ Aside0 (Box w4 w4.heap.size #[.int .i64 x.f0, .slice A1' x.f1.length c1'] 67 wr) ∧ Aside0 ((x.f1.drop m).any (fun y => !symOk y lex.length names.length) = x.f1.any fun y => !symOk y lex.length names.length)) (fun i _ => x.f1.length - (intOf i).toNat)
              case atStart => exact ⟨0, Nat.zero_le _, rfl, HX2, HIN, ⟨rfl⟩⟩
              case round =>
                obtain ⟨m, hm, rfl, hY, hZ, hJ⟩ := hrel
                have z1 : wr.cell? ⟨w4.heap.size, 1, none⟩ = some (.slice A1' x.f1.length c1') := (hZ.out.cell 1).trans rfl
                by_cases hlt2 : m < x.f1.length
                · obtain ⟨ad2, cs2, rfl, hK2, hc02, hc12⟩ := C_at (Kd.C_below G1.out hZ.out.1) m hlt2
                  obtain rfl := k85_open hK2
                  have d20 : wr.cell? (ad2.add (m * 2)) = some (.int .i64 x.f1[m].f0) := hc02 _ rfl
                  have d21 : wr.cell? ⟨(ad2.add (m * 2)).block, (ad2.add (m * 2)).off + 1, none⟩ = some (.int .i64 x.f1[m].f1) := hc12 1 _ (by decide) rfl
                  have HD2 : Hid ((x.f1.drop m).any (fun y => !symOk y lex.length names.length) = (!symOk x.f1[m] lex.length names.length || (x.f1.drop (m + 1)).any fun y => !symOk y lex.length names.length)) := Lib.hid (any_drop _ hlt2)
                  clear hK2 hc02 hc12
                  generalize x.f1[m] = y at *
                  have e0 : wr.cell? ⟨w.heap.size, 0, none⟩ = some (.slice A0 lex.length c0) := (hY.out.cell 0).trans rfl
                  have e1 : wr.cell? ⟨w.heap.size, 1, none⟩ = some (.slice A1 names.length c1) := (hY.out.cell 1).trans rfl
                  have e2 : wr.cell? ⟨w.heap.size, 2, none⟩ = some (.int .i64 start) := (hY.out.cell 2).trans rfl
                  have e3 : wr.cell? ⟨w.heap.size, 3, none⟩ = some (.slice (some ad) prods.length c3) := (hY.out.cell 3).trans rfl
                  have i2 : (m : Int) < (x.f1.length : Int) := by omega
                  have HS := Aside0.mk fun (w' : World) (hb : Below wr.heap.size wr w') => symbol48 lex names start prods y A0 A1 (some ad) c0 c1 c3 w' (Kd.C_below (Kd.C_below H0.out hY.out.1) hb) (Kd.C_below (Kd.C_below H1.out hY.out.1) hb) (Kd.C_below (Kd.C_below H3.out hY.out.1) hb) gc0 gc1 gc3
                  cases hs : symOk y lex.length names.length
                  · have HR : Hid (r = 70) := Lib.hid (KE.out HA.out HL.out HM.out HG.out (by rw [← hI.out, HD.out, HP.out, ← hJ.out, HD2.out, hs]; rfl))
                    rw [hs] at HS
                    clear hs
                    go_wp2_with fail
                    go_region_with (go_at_call 48; refine (HS.out _ (below_drew1 (Below.refl _ _))).mono ?_; rintro e w5 ⟨rfl, k5⟩)
                    all_goals
                      have HY5 := Aside0.mk ((hY.out.then (below_drew1 (Below.refl _ _))).then k5).1
                      go_wp2
                      go_ret
                      exact ⟨ret_of HR.out, HY5.out⟩
                  · have HN : Hid ((x.f1.drop (m + 1)).any (fun y => !symOk y lex.length names.length) = x.f1.any fun y => !symOk y lex.length names.length) := Lib.hid (by rw [← hJ.out, HD2.out, hs]; rfl)
                    rw [hs] at HS
                    clear hs
                    go_wp2_with fail
                    go_region_with (go_at_call 48; refine (HS.out _ (below_drew1 (Below.refl _ _))).mono ?_; rintro e w5 ⟨rfl, k5⟩)
                    all_goals
                      have HY5 := Aside0.mk ((hY.out.then (below_drew1 (Below.refl _ _))).then k5)
                      have HZ5 := Aside0.mk ((hZ.out.then (below_drew1 (Below.refl _ _))).then k5)
                      clear k5
                      go_wp2
                      go_roundw
                      case rel => exact ⟨m + 1, by omega, by go_num, HY5, HZ5, ⟨HN.out⟩⟩
                      case measure => simp [intOf]; omega
                · obtain rfl : m = x.f1.length := by omega
                  have HN : Hid ((prods.drop (k + 1)).any (prodBad lex.length names.length) = prods.any (prodBad lex.length names.length)) := Lib.hid (by
                    rw [← hI.out, HD.out, HP.out, ← hJ.out, List.drop_length]; rfl)
                  go_wp2
                  go_roundw
                  case rel => exact ⟨k + 1, by omega, by go_num, hY, ⟨HN.out⟩⟩
                  case measure => simp [intOf]; omega
            · obtain rfl : k = prods.length := by omega
              have HR : Hid (r = 0) := Lib.hid (KF.out HA.out HL.out HM.out HG.out (by rw [← hI.out, List.drop_length]; rfl))
              go_wp2
              go_ret
              exact ⟨ret_of HR.out, hX.out.1⟩
end Go.Proofs.YtpnkifincadakaaGreatDoor.Wr
end
section
namespace Go.Pk
open Go.RowKit Go.Proofs.YtpnkifincadakaaGreatDoorW.PrintWords Go.Proofs.YtpnkifincadakaaGreatDoor.PPackSpecs Go.Proofs.YtpnkifincadakaaGreatDoor.Wr
theorem lexErr_zero : ∀ (l : List S42), lexErr l = 0 → ∀ x, x ∈ l → x.f0.size ≤ 64 ∧ sizeE x.f2 ≤ 4096 ∧ rightE x.f2 = true
  | y :: r, h, x, hx => by
    unfold lexErr at h
    by_cases h1 : 64 < y.f0.size
    · rw [if_pos h1] at h; omega
    rw [if_neg h1] at h
    by_cases h2 : chk y.f2 = 0
    · rw [if_pos h2] at h
      rcases List.mem_cons.1 hx with rfl | hx
      · refine ⟨by omega, ?_, ?_⟩
        · unfold chk at h2
          split at h2
          · omega
          · omega
        · cases hg : rightE x.f2 with
          | true => rfl
          | false =>
            exfalso
            unfold chk at h2
            rw [hg, if_pos rfl] at h2
            split at h2
            · omega
            · split at h2 <;> omega
      · exact lexErr_zero r h x hx
    · rw [if_neg h2] at h; exact absurd h h2
theorem any_false {α : Type} {f : α → Bool} {l : List α} (h : ¬ l.any f = true) : ∀ x, x ∈ l → f x = false := fun x hx => by
  cases hf : f x with
  | false => rfl
  | true => exact absurd (List.any_eq_true.2 ⟨x, hx, hf⟩) h
structure Fits (lex : List S42) (names : List ByteArray) (prods : List S67) : Prop where
  l0 : lex.length ≤ 64
  l1 : names.length ≤ 128
  l3 : prods.length ≤ 512
  rl : ∀ p, p ∈ prods → p.f1.length ≤ 16
  ns : ∀ x, x ∈ names → x.size ≤ 64
  lx : ∀ x, x ∈ lex → x.f0.size ≤ 64 ∧ sizeE x.f2 ≤ 4096 ∧ rightE x.f2 = true
theorem spec_fits {lex : List S42} {names : List ByteArray} {start : Int} {prods : List S67} (h : specErr lex names start prods = 0) : Fits lex names prods := by
  unfold specErr at h
  by_cases h1 : 64 < lex.length ∨ 128 < names.length ∨ 512 < prods.length
  · rw [if_pos h1] at h; omega
  rw [if_neg h1] at h
  by_cases h2 : rightLong prods = true
  · rw [if_pos h2] at h; omega
  rw [if_neg h2] at h
  by_cases h3 : lexErr lex = 0
  · rw [if_pos h3] at h
    by_cases h4 : nameLong names = true
    · rw [if_pos h4] at h; omega
    refine ⟨by omega, by omega, by omega, fun p hp => ?_, fun x hx => ?_, lexErr_zero lex h3⟩
    · have := any_false h2 p hp; simpa using this
    · have := any_false h4 x hx; simpa using this
  · rw [if_neg h3] at h; exact absurd h h3
theorem flat_small {α : Type} (f : α → List Int) (m : Nat) : ∀ (l : List α), (∀ x, x ∈ l → (f x).length ≤ m) → (l.flatMap f).length ≤ m * l.length
  | [], _ => by simp
  | x :: r, h => by
    have h1 := h x (List.mem_cons_self ..)
    have h2 := flat_small f m r fun y hy => h y (List.mem_cons_of_mem _ hy)
    rw [List.flatMap_cons, List.length_append, List.length_cons, Nat.mul_add]
    omega
theorem enc_small {lex : List S42} {names : List ByteArray} {prods : List S67} (start : Int) (h : Fits lex names prods) : (encSpec lex names start prods).length + 4 ≤ 67108864 := by
  have h0 := flat_small encRule 20600 lex fun x hx => by
    have hx := h.lx x hx
    have := enc_len.1 x.f2
    unfold encRule encName
    simp only [List.length_append, List.length_cons, List.length_nil, bytesOf_length]
    omega
  have h1 := flat_small encName 65 names fun x hx => by
    have hx := h.ns x hx
    unfold encName
    simp only [List.length_cons, bytesOf_length]
    omega
  have h3 := flat_small encProd 40 prods fun x hx => by
    have hx := h.rl x hx
    have := flat_small encSym 2 x.f1 fun y _ => by unfold encSym; simp
    unfold encProd
    simp only [List.length_append, List.length_cons, List.length_nil]
    omega
  have l0 := h.l0
  have l1 := h.l1
  have l3 := h.l3
  unfold encSpec
  simp only [List.length_append, List.length_cons, List.length_nil, b2, magic]
  have : 20600 * lex.length ≤ 20600 * 64 := Nat.mul_le_mul_left _ l0
  have : 65 * names.length ≤ 65 * 128 := Nat.mul_le_mul_left _ l1
  have : 40 * prods.length ≤ 40 * 512 := Nat.mul_le_mul_left _ l3
  omega
def told (lex : List S42) (names : List ByteArray) (start : Int) (prods : List S67) : List Int := if specErr lex names start prods = 0 then summed (encSpec lex names start prods) else []
theorem told_small (lex : List S42) (names : List ByteArray) (start : Int) (prods : List S67) : (told lex names start prods).length ≤ 67108864 := by
  unfold told
  split
  · rename_i h
    have := enc_small start (spec_fits h)
    unfold summed
    rw [List.length_append]
    simp only [b4, List.length_cons, List.length_nil]
    omega
  · simp
end Go.Pk
namespace Go.Proofs.YtpnkifincadakaaGreatDoor.Wr
open Go.RowKit Go.Pk Go.Proofs.YtpnkifincadakaaGreatDoorW.PrintWords Go.Proofs.YtpnkifincadakaaGreatDoor.PPackSpecs
open Go.Am (TabVar)
theorem F_C {α : Type} {d : Kd α} {w w' : World} {A : Option Addr} {n : Nat} {xs : List α} (h : Fb d w w.heap.size A n xs) (hb : Below w.heap.size w w') : d.C w' A n xs := Kd.C_below (Kd.F_now h) hb
theorem spec8 (lex : List S42) (names : List ByteArray) (start : Int) (prods : List S67) (A0 A1 A3 : Option Addr) (c0 c1 c3 : Nat) (w : World)
    (h0 : Fb k42 w w.heap.size A0 lex.length lex) (h1 : Fb Kd.string w w.heap.size A1 names.length names) (h3 : Fb k67 w w.heap.size A3 prods.length prods) (hT : TabVar w) (hw : 0 < w.heap.size) :
    Calls Tryz.prog 8 #[.agg #[.slice A0 lex.length c0, .slice A1 names.length c1, .int .i64 start, .slice A3 prods.length c3]] w fun e w' => ∃ v, e = .returned (.tuple #[v, .int .i64 (specErr lex names start prods)]) ∧
      Ob w' w.heap.size v (told lex names start prods) ∧ Below w.heap.size w w' := by
  have HR : ∀ w' : World, Below w.heap.size w w' → Calls Tryz.prog 24 #[.agg #[.slice A0 lex.length c0, .slice A1 names.length c1, .int .i64 start, .slice A3 prods.length c3]] w' fun e w'' => e = .returned (.int .i64 (specErr lex names start prods)) ∧ Below w'.heap.size w' w'' :=
    fun w' hb => right_any lex names start prods A0 A1 A3 c0 c1 c3 w' (F_C h0 hb) (F_C h1 hb) (F_C h3 hb)
  by_cases he : specErr lex names start prods = 0
  · have hto : told lex names start prods = summed (encSpec lex names start prods) := by unfold told; rw [if_pos he]
    rw [he] at HR ⊢
    rw [hto]
    exact spec_ok lex names start prods A0 A1 A3 c0 c1 c3 w h0 h1 h3 hT hw (enc_small start (spec_fits he)) HR
  · have hto : told lex names start prods = [] := by unfold told; rw [if_neg he]
    rw [hto]
    refine (spec_err (.slice none 0 0) (.slice none 0 0) (.slice none 0 0) start _ A0 A1 A3 lex.length names.length prods.length c0 c1 c3 w he HR).mono ?_
    rintro e w' ⟨rfl, hb⟩
    exact ⟨_, rfl, own_nil w' w.heap.size 5 1, hb⟩
set_option maxHeartbeats 4000000 in
set_option maxRecDepth 100000 in
theorem rspec_err (start r : Int) (A0 A1 A3 : Option Addr) (n0 n1 n3 c0 c1 c3 : Nat) (w : World) (hr : r ≠ 0)
    (HR : ∀ w' : World, Below w.heap.size w w' → Calls Tryz.prog 34 #[.agg #[.slice A0 n0 c0, .slice A1 n1 c1, .int .i64 start, .slice A3 n3 c3]] w' fun e w'' => e = .returned (.int .i64 r) ∧ Below w'.heap.size w' w'') :
    Calls Tryz.prog 9 #[.agg #[.slice A0 n0 c0, .slice A1 n1 c1, .int .i64 start, .slice A3 n3 c3]] w fun e w' => e = .returned (.tuple #[.slice none 0 0, .int .i64 r]) ∧ Below w.heap.size w w' := by
  have hr0 : (r == 0) = false := by simpa using hr
  have hr1 : (r != 0) = true := by simpa using hr
  clear hr
  have hb0 := below_alloc (Below.refl w.heap.size w) (.cells #[.slice A0 n0 c0, .slice A1 n1 c1, .int .i64 start, .slice A3 n3 c3] 28)
  have HC := HR _ hb0
  clear HR
  go_enter Tryz.func9, Tryz.ntmps9
  go_wp2_with (go_at_call 34; refine HC.mono ?_)
  rintro e w1 ⟨rfl, h1⟩
  have hb1 := below_then hb0 (by simp) h1
  clear h1 hb0
  go_wp2
  go_ret2
  exact ⟨rfl, hb1⟩
theorem rspec9 (lex : List S42) (names : List ByteArray) (start : Int) (prods : List S67) (A0 A1 A3 : Option Addr) (c0 c1 c3 : Nat) (w : World)
    (h0 : Kd.C k42 w A0 lex.length lex) (h1 : Kd.C Kd.string w A1 names.length names) (h3 : Kd.C k67 w A3 prods.length prods) (g0 : lex.length ≤ c0) (g1 : names.length ≤ c1) (g3 : prods.length ≤ c3) (hlim : ∀ x, x ∈ lex → limE x.f2) :
    Calls Tryz.prog 9 #[.agg #[.slice A0 lex.length c0, .slice A1 names.length c1, .int .i64 start, .slice A3 prods.length c3]] w fun e w' => ∃ v, e = .returned (.tuple #[v, .int .i64 (specErr lex names start prods)]) ∧
      Ob w' w.heap.size v (told lex names start prods) ∧ Below w.heap.size w w' := by
  have HR : ∀ w' : World, Below w.heap.size w w' → Calls Tryz.prog 34 #[.agg #[.slice A0 lex.length c0, .slice A1 names.length c1, .int .i64 start, .slice A3 prods.length c3]] w' fun e w'' => e = .returned (.int .i64 (specErr lex names start prods)) ∧ Below w'.heap.size w' w'' :=
    fun w' hb => may34 lex names start prods A0 A1 A3 c0 c1 c3 w' (Kd.C_below h0 hb) (Kd.C_below h1 hb) (Kd.C_below h3 hb) g0 g1 g3 hlim
  by_cases he : specErr lex names start prods = 0
  · have hto : told lex names start prods = summed (encSpec lex names start prods) := by unfold told; rw [if_pos he]
    have hf := spec_fits he
    rw [he] at HR ⊢
    rw [hto]
    exact rspec_ok lex names start prods A0 A1 A3 c0 c1 c3 w h0 h1 h3 hf.ns hf.lx (enc_small start hf) HR
  · have hto : told lex names start prods = [] := by unfold told; rw [if_neg he]
    rw [hto]
    refine (rspec_err start _ A0 A1 A3 lex.length names.length prods.length c0 c1 c3 w he HR).mono ?_
    rintro e w' ⟨rfl, hb⟩
    exact ⟨_, rfl, own_nil w' w.heap.size 5 1, hb⟩
end Go.Proofs.YtpnkifincadakaaGreatDoor.Wr
end
