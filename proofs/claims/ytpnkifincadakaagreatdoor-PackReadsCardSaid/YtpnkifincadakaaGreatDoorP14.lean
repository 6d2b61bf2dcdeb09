/- Proved: part 14 of the proof of PackReads (Pl2, Pl3, PPackSpecsx14, Pl5, RSum, Rs1, Rt0, Wa, Ce, Sy). Conditions: each theorem states its own. -/
import Derived.ArgAppend
import Derived.Lib.SlBytesConst
import Derived.Lib.AppendStr
import Derived.Test.YtpnkifincadakaaGreatDoorP10
import Derived.Test.YtpnkifincadakaaGreatDoorP13
set_option linter.unusedVariables false
set_option linter.unusedSimpArgs false
section
namespace Go.Pk
open Go.RowKit Go.Proofs.YtpnkifincadakaaGreatDoorW.PrintWords Go.Proofs.YtpnkifincadakaaGreatDoor.PPackSpecs
mutual
/-- No list is longer than memory. -/
def limE : S40 → Prop | ⟨_, _, _, _, _, l⟩ => l.length ≤ 140737488355328 ∧ limL l
def limL : List S40 → Prop | [] => True | x :: r => limE x ∧ limL r
end
theorem limE_eq (e : S40) : limE e = (e.f5.length ≤ 140737488355328 ∧ limL e.f5) := by cases e; simp [limE]
theorem limL_mem : ∀ {l : List S40} {x : S40}, limL l → x ∈ l → limE x
  | y :: r, x, h, hm => by
    simp only [limL] at h
    rcases List.mem_cons.1 hm with rfl | hm
    · exact h.1
    · exact limL_mem h.2 hm
theorem limL_append : ∀ {a b : List S40}, limL a → limL b → limL (a ++ b)
  | [], b, _, h => h
  | x :: a, b, h, k => by simp only [limL] at h; simp only [List.cons_append, limL]; exact ⟨h.1, limL_append h.2 k⟩
theorem limL_kids : ∀ {l : List S40}, limL l → limL (kids l)
  | [], _ => by simp [kids, limL]
  | x :: r, h => by
    simp only [limL] at h
    rw [limE_eq] at h
    have := limL_kids h.2
    simp only [kids, List.flatMap_cons]
    exact limL_append h.1.2 this
theorem kids_snoc {l : List S40} {i : Nat} (h : i < l.length) : kids (l.take (i + 1)) = kids (l.take i) ++ l[i].f5 := by
  unfold kids
  rw [List.take_succ_eq_append_getElem h, List.flatMap_append]
  simp
theorem kids_le {l : List S40} (i : Nat) : (kids (l.take i)).length ≤ (kids l).length := by
  unfold kids
  conv => rhs; rw [← List.take_append_drop i l]
  rw [List.flatMap_append, List.length_append]
  omega
theorem guard_level (n : Nat) : ∀ (l : List S40) (c : Int) (d k : Nat), sizeL l ≤ n → l ≠ [] → 3 * sizeL l + 3 ≤ k → limL l → 1 ≤ c → c ≤ 4096 → l.length ≤ c → d ≤ c →
    graftref2_Guard.l0 k l c d = some (if 4096 < c + sizeL (kids l) then 2 else if 64 < d + depL (kids l) then 5 else 0) := by
  induction n with
  | zero => intro l c d k hn hne; have := length_le_sizeL l; have : l.length ≠ 0 := by simpa using hne
            omega
  | succ n ih =>
    intro l c d k hn hne hk hlim hc0 hc1 hlc hdc
    have hln : 1 ≤ l.length := by have : l.length ≠ 0 := by simpa using hne
                                  omega
    have hsk := sizeL_kids l
    have hloop : ∀ (m i k : Nat), l.length - i = m → i ≤ l.length → (l.length - i) + 3 * sizeL (kids l) + 4 ≤ k → c + (kids (l.take i)).length ≤ 4096 →
        graftref2_Guard.l1 k l (c + (kids (l.take i)).length) d (kids (l.take i)) i = some (if 4096 < c + sizeL (kids l) then 2 else if 64 < d + depL (kids l) then 5 else 0) := by
      intro m
      induction m with
      | zero =>
        intro i k hm hi hk hle
        obtain ⟨k, rfl⟩ : ∃ m, k = m + 1 := ⟨k - 1, by omega⟩
        obtain rfl : i = l.length := by omega
        simp only [graftref2_Guard.l1]
        rw [if_neg (by omega)]
        rw [List.take_length] at hle ⊢
        by_cases he : kids l = []
        · rw [if_pos (by rw [he]; rfl), he]
          have z1 : sizeL ([] : List S40) = 0 := by simp [sizeL]
          have z2 : depL ([] : List S40) = 0 := by simp [depL]
          rw [if_neg (show ¬ (4096 : Int) < c + (sizeL ([] : List S40) : Int) by rw [z1]; omega)]
          by_cases h64 : 64 < d
          · rw [if_pos (by omega), if_pos (by rw [z2]; omega)]
          · rw [if_neg (by omega), if_neg (by rw [z2]; omega)]
        · have hkl := length_le_sizeL (kids l)
          have hkn : (kids l).length ≠ 0 := by simpa using he
          rw [if_neg (by omega), w64 (by omega) (by omega), show ((d : Int) + 1) = ((d + 1 : Nat) : Int) by omega]
          have hsk2 := sizeL_kids (kids l)
          have hdk := depL_kids (kids l) he
          rw [ih (kids l) (c + (kids l).length) (d + 1) k (by omega) he (by omega) (limL_kids hlim) (by omega) hle (by omega) (by omega)]
          rw [show c + ((kids l).length : Int) + (sizeL (kids (kids l)) : Int) = c + (sizeL (kids l) : Int) by omega, show d + 1 + depL (kids (kids l)) = d + depL (kids l) by omega]
      | succ m ihm =>
        intro i k hm hi hk hle
        have hlt : i < l.length := by omega
        obtain ⟨k, rfl⟩ : ∃ m, k = m + 1 := ⟨k - 1, by omega⟩
        have hlx := limL_mem hlim (List.getElem_mem hlt)
        rw [limE_eq] at hlx
        have hks := kids_snoc hlt
        have hkl := kids_le (l := l) (i + 1)
        have hkz := length_le_sizeL (kids l)
        simp only [graftref2_Guard.l1]
        rw [if_pos (by omega), if_pos (by omega), rd40 hlt, w64 (by omega) (by omega)]
        rw [hks, List.length_append] at hkl
        by_cases hbig : c + ((kids (l.take i)).length : Int) + (l[i].f5.length : Int) > 4096
        · rw [if_pos hbig, if_pos (by omega)]
        · rw [if_neg hbig, if_pos (by omega), w64 (by omega) (by omega), ← hks, show ((i : Int) + 1) = ((i + 1 : Nat) : Int) by omega]
          have := ihm (i + 1) k (by omega) (by omega) (by omega) (by rw [hks, List.length_append]; omega)
          rw [← this, hks, List.length_append]
          congr 1
          omega
    obtain ⟨k, rfl⟩ : ∃ m, k = m + 1 := ⟨k - 1, by omega⟩
    simp only [graftref2_Guard.l0]
    have := hloop l.length 0 k (by omega) (by omega) (by omega) (by simp [kids]; omega)
    simpa [kids] using this
theorem guard_any (e : S40) (h : limE e) (k : Nat) (hk : 3 * sizeE e + 3 ≤ k) : graftref2_Guard.f k e.f0 e.f1 e.f2 e.f3 e.f4 e.f5 = some (if 4096 < sizeE e then 2 else if 64 < depE e then 5 else 0) := by
  unfold graftref2_Guard.f
  have hs : sizeL [e] = sizeE e := by simp [sizeL]
  have hk0 : kids [e] = e.f5 := by simp [kids]
  have := guard_level (sizeL [e]) [e] 1 1 k (Nat.le_refl _) (by simp) (by rw [hs]; exact hk) (by simp [limL, h]) (by omega) (by omega) (by simp) (by omega)
  rw [hk0] at this
  rw [show ([(⟨e.f0, e.f1, e.f2, e.f3, e.f4, e.f5⟩ : S40)] : List S40) = [e] by cases e; rfl]
  rw [show (1 : Int) = ((1 : Nat) : Int) by rfl] at this ⊢
  rw [this, sizeE_eq, depE_eq]
  congr 1
  by_cases h1 : 4096 < 1 + sizeL e.f5
  · rw [if_pos (by omega), if_pos h1]
  · rw [if_neg (by omega), if_neg h1]
end Go.Pk
end
section
namespace Go.Pk
open Go.RowKit Go.Proofs.YtpnkifincadakaaGreatDoorW.PrintWords Go.Proofs.YtpnkifincadakaaGreatDoor.PPackSpecs
def symOk (x : S85) (nl nn : Nat) : Bool :=
  if x.f0 = 1 then decide (0 ≤ x.f1 ∧ x.f1 < (nl : Int)) else if x.f0 = 2 then decide (x.f1 = 0) else if x.f0 = 3 then decide (0 ≤ x.f1 ∧ x.f1 < (nn : Int)) else false
end Go.Pk
end
section
namespace Go.Proofs.YtpnkifincadakaaGreatDoor.PPackSpecs
open Go.RowKit Go.Proofs.YtpnkifincadakaaGreatDoorW.PrintWords Go.Proofs.YtpnkifincadakaaGreatDoorW.PrintLast Go.Proofs.YtpnkifincadakaaGreatDoorW.PrintMore
attribute [local go_sem] max2_int min2_int max_two min_two
def graftlaw18_same.l0 : Nat → List Int → List Int → Int → Option (Bool)
  | 0, _, _, _ => none
  | k + 1, x0, x1, x5 => if x5 < (x0.length : Int) then (if 0 ≤ x5 then (if x5 < (x1.length : Int) then (if (rd x0 x5) = (rd x1 x5) then (graftlaw18_same.l0 k x0 x1 (wrap64 (x5 + 1))) else (some false)) else (none)) else (none)) else (some true)
def graftlaw18_same.f (k : Nat) (l0 : List Int) (l1 : List Int) : Option (Bool) := if (l0.length : Int) = (l1.length : Int) then (graftlaw18_same.l0 k l0 l1 0) else (some false)
set_option maxHeartbeats 8000000 in
set_option maxRecDepth 100000 in
theorem graftlaw18_same.calls (k : Nat) (A0 : Option Addr) (c0 : Nat) (l0 : List Int) (A1 : Option Addr) (c1 : Nat) (l1 : List Int) (r : Bool) (w : World) (hr0 : Kd.C (Kd.int .u8) w A0 l0.length l0) (hc0 : l0.length ≤ c0) (hr1 : Kd.C (Kd.int .u8) w A1 l1.length l1) (hc1 : l1.length ≤ c1) (h : graftlaw18_same.f k l0 l1 = some r) :
    Calls Tryz.prog 10 #[.slice A0 l0.length c0, .slice A1 l1.length c1] w fun e w' => e = .returned (.bool r) ∧ Drawn0 w w' := by
  have HR0 := Aside0.mk hr0
  have HC0 := Aside0.mk hc0
  clear hr0 hc0
  have HR1 := Aside0.mk hr1
  have HC1 := Aside0.mk hc1
  clear hr1 hc1
  have H : (if (l0.length : Int) = (l1.length : Int) then (graftlaw18_same.l0 k l0 l1 0) else (some false)) = some r := h
  clear h
  by_cases c3 : (l0.length : Int) = (l1.length : Int)
  · rw [if_pos c3] at H
    have c3b0 : ((l0.length : Int) == (l1.length : Int)) = true := beq_iff_eq.mpr c3
    have c3b1 : ((l0.length : Int) != (l1.length : Int)) = false := bne_eq_false_iff_eq.mpr c3
    have c3b2 : (l0.length == l1.length) = true := by first | simpa using c3 | (simp at c3 ⊢; omega)
    clear c3
    have H' := Aside0.mk H
    clear H
    go_enter Tryz.func10, Tryz.ntmps10
    go_wp2
    repeat (go_quiet (fail); try go_wp2)
    go_loopg [5] k (fun kq v5 w' => ∃ (x5_1 : Int), v5 = .int .i64 x5_1 ∧ Aside0 (graftlaw18_same.l0 kq l0 l1 x5_1 = some r) ∧ Aside0 (kq ≤ k) ∧ Drawn0 w w')
    case atStart => exact ⟨(0), (by first | rfl | (simp; done) | (simp [*]; done)), H', ⟨Nat.le_refl _⟩, by repeat (first | exact Drawn0.refl _ | apply Drawn0.step)⟩
    case round =>
      clear H'
      try clear c1
      try clear p2
      try clear c3
      try clear c3b0
      try clear c3b1
      try clear c3b2
      obtain ⟨x5_1, rfl, HA, HK1, ⟨m1, rfl⟩⟩ := hrel
      cases gk with
      | zero => exact absurd HA.out (by simp [graftlaw18_same.l0])
      | succ k1 =>
        have H := HA.out
        clear HA
        simp only [graftlaw18_same.l0] at H
        by_cases c4 : x5_1 < (l0.length : Int)
        · rw [if_pos c4] at H
          have c4b0 : decide (x5_1 < (l0.length : Int)) = true := decide_eq_true c4
          clear c4
          by_cases c5 : 0 ≤ x5_1
          · rw [if_pos c5] at H
            have c5b0 : decide (0 ≤ x5_1) = true := decide_eq_true c5
            clear c5
            by_cases c6 : x5_1 < (l1.length : Int)
            · rw [if_pos c6] at H
              have c6b0 : decide (x5_1 < (l1.length : Int)) = true := decide_eq_true c6
              clear c6
              by_cases c7 : (rd l0 x5_1) = (rd l1 x5_1)
              · rw [if_pos c7] at H
                have c7b0 : ((rd l0 x5_1) == (rd l1 x5_1)) = true := beq_iff_eq.mpr c7
                have c7b1 : ((rd l0 x5_1) != (rd l1 x5_1)) = false := bne_eq_false_iff_eq.mpr c7
                clear c7
                have H' := Aside0.mk H
                clear H
                have p418 : 0 ≤ (x5_1 : Int) := of_decide_eq_true (by first | (with_reducible assumption) | assumption)
                have q418 : x5_1 < (l0.length : Int) := of_decide_eq_true (by first | (with_reducible assumption) | assumption)
                obtain ⟨ad418, e418, hx418_0⟩ := Kd.at_int HR0.out x5_1 p418 q418
                cases e418
                replace p418 := eq_true p418
                replace q418 := eq_true q418
                have p419 : 0 ≤ (x5_1 : Int) := of_decide_eq_true (by first | (with_reducible assumption) | assumption)
                have q419 : x5_1 < (l1.length : Int) := of_decide_eq_true (by first | (with_reducible assumption) | assumption)
                obtain ⟨ad419, e419, hx419_0⟩ := Kd.at_int HR1.out x5_1 p419 q419
                cases e419
                replace p419 := eq_true p419
                replace q419 := eq_true q419
                go_wp2
                repeat (go_quiet (fail); try go_wp2)
                go_roundg k1
                case measure => have := HK1.out; omega
                case rel => exact ⟨(wrap64 (x5_1 + 1)), (by first | rfl | (simp; done) | (simp [*]; done)), H', ⟨by have := HK1.out; omega⟩, by repeat (first | exact Drawn0.refl _ | apply Drawn0.step)⟩
              · rw [if_neg c7] at H
                have c7b0 : ((rd l0 x5_1) == (rd l1 x5_1)) = false := beq_eq_false_iff_ne.mpr c7
                have c7b1 : ((rd l0 x5_1) != (rd l1 x5_1)) = true := bne_iff_ne.mpr c7
                obtain rfl := Option.some.inj H
                have p418 : 0 ≤ (x5_1 : Int) := of_decide_eq_true (by first | (with_reducible assumption) | assumption)
                have q418 : x5_1 < (l0.length : Int) := of_decide_eq_true (by first | (with_reducible assumption) | assumption)
                obtain ⟨ad418, e418, hx418_0⟩ := Kd.at_int HR0.out x5_1 p418 q418
                cases e418
                replace p418 := eq_true p418
                replace q418 := eq_true q418
                have p419 : 0 ≤ (x5_1 : Int) := of_decide_eq_true (by first | (with_reducible assumption) | assumption)
                have q419 : x5_1 < (l1.length : Int) := of_decide_eq_true (by first | (with_reducible assumption) | assumption)
                obtain ⟨ad419, e419, hx419_0⟩ := Kd.at_int HR1.out x5_1 p419 q419
                cases e419
                replace p419 := eq_true p419
                replace q419 := eq_true q419
                go_wp2
                repeat (go_quiet (fail); try go_wp2)
                go_ret
                exact ⟨by first | rfl | (simp; done) | (simp [*]; done), by repeat (first | exact Drawn0.refl _ | apply Drawn0.step)⟩
            · rw [if_neg c6] at H
              exact absurd H (by simp)
          · rw [if_neg c5] at H
            exact absurd H (by simp)
        · rw [if_neg c4] at H
          have c4b0 : decide (x5_1 < (l0.length : Int)) = false := decide_eq_false c4
          clear c4
          obtain rfl := Option.some.inj H
          go_wp2
          repeat (go_quiet (fail); try go_wp2)
          go_ret
          exact ⟨by first | rfl | (simp; done) | (simp [*]; done), by repeat (first | exact Drawn0.refl _ | apply Drawn0.step)⟩
  · rw [if_neg c3] at H
    have c3b0 : ((l0.length : Int) == (l1.length : Int)) = false := beq_eq_false_iff_ne.mpr c3
    have c3b1 : ((l0.length : Int) != (l1.length : Int)) = true := bne_iff_ne.mpr c3
    have c3b2 : (l0.length == l1.length) = false := by first | simpa using c3 | (simp at c3 ⊢; omega)
    obtain rfl := Option.some.inj H
    go_enter Tryz.func10, Tryz.ntmps10
    go_wp2
    repeat (go_quiet (fail); try go_wp2)
    go_ret
    exact ⟨by first | rfl | (simp; done) | (simp [*]; done), by repeat (first | exact Drawn0.refl _ | apply Drawn0.step)⟩
end Go.Proofs.YtpnkifincadakaaGreatDoor.PPackSpecs
end
section
namespace Go.Pk
open Go.RowKit Go.Proofs.YtpnkifincadakaaGreatDoorW.PrintWords Go.Proofs.YtpnkifincadakaaGreatDoor.PPackSpecs Go.Proofs.YtpnkifincadakaaGreatDoor.Wr
theorem number_step (k : Nat) (n b : Int) (acc : List Int) (i : Nat) (hi : i < 4) (hb : (i : Int) < b) (ha : acc.length < 100) : graftref18_number.l0 (k + 1) n b acc i = graftref18_number.l0 k n b (acc ++ [n / 2 ^ (8 * i) % 256]) ((i + 1 : Nat) : Int) := by
  simp only [graftref18_number.l0]
  rw [if_pos hb, w64 (by omega) (by omega), w64 (by omega) (by omega), if_pos (by omega), if_pos (by omega)]
  rw [show shr .i64 n (8 * (i : Int)) = n / 2 ^ (8 * i) by
    unfold shr
    rw [show (8 * (i : Int)).toNat = 8 * i by omega, show IntKind.i64.bits = 64 by rfl, Nat.min_eq_left (by omega)]]
  rw [show ((i : Int) + 1) = ((i + 1 : Nat) : Int) by omega]
theorem number_end (k : Nat) (n b : Int) (acc : List Int) (i : Int) (h : ¬ i < b) : graftref18_number.l0 (k + 1) n b acc i = some acc := by
  simp only [graftref18_number.l0]
  rw [if_neg h]
theorem number4 (n : Int) (k : Nat) : graftref18_number.f (k + 5) n 4 = some (b4 n) := by
  unfold graftref18_number.f
  have h0 := number_step (k + 4) n 4 [] 0 (by omega) (by omega) (by simp)
  have h1 := number_step (k + 3) n 4 ([] ++ [n / 2 ^ (8 * 0) % 256]) 1 (by omega) (by omega) (by simp)
  have h2 := number_step (k + 2) n 4 ([] ++ [n / 2 ^ (8 * 0) % 256] ++ [n / 2 ^ (8 * 1) % 256]) 2 (by omega) (by omega) (by simp)
  have h3 := number_step (k + 1) n 4 ([] ++ [n / 2 ^ (8 * 0) % 256] ++ [n / 2 ^ (8 * 1) % 256] ++ [n / 2 ^ (8 * 2) % 256]) 3 (by omega) (by omega) (by simp)
  have h4 := number_end k n 4 ([] ++ [n / 2 ^ (8 * 0) % 256] ++ [n / 2 ^ (8 * 1) % 256] ++ [n / 2 ^ (8 * 2) % 256] ++ [n / 2 ^ (8 * 3) % 256]) ((3 + 1 : Nat) : Int) (by omega)
  rw [show (0 : Int) = ((0 : Nat) : Int) by rfl, h0, h1, h2, h3, h4]
  simp [b4]
end Go.Pk
end
section
namespace Go.Am
open Go.Proofs Go.RowKit Go.Pk
def bitsN (y : Nat) : Nat → Nat
  | 0 => y
  | j + 1 => crcBit (bitsN y j)
theorem bitsN_lt {y : Nat} (h : y < 4294967296) : ∀ j, bitsN y j < 4294967296
  | 0 => h
  | j + 1 => crcBit_lt (bitsN_lt h j)
theorem bit_and (r : Nat) (h : r < 4294967296) : bits .and .u32 (r : Int) 1 = ((r % 2 : Nat) : Int) := by
  have := u32_and_nat r 1 h (by omega)
  rw [nat_mask1] at this
  exact this
theorem bit_xor (r : Nat) (h : r < 4294967296) (h1 : r % 2 = 1) : bits .xor .u32 ((r : Int) / 2) 3988292384 = ((crcBit r : Nat) : Int) := by
  have := u32_xor_nat (r / 2) 3988292384 (by omega) (by omega)
  rw [← show ((r / 2 : Nat) : Int) = (r : Int) / 2 by omega]
  unfold crcBit
  rw [if_pos h1]
  exact this
theorem bit_none (r : Nat) (h1 : r % 2 = 0) : ((r : Int) / 2) = ((crcBit r : Nat) : Int) := by
  unfold crcBit
  rw [if_neg (by omega)]
  omega
set_option maxHeartbeats 4000000 in
set_option maxRecDepth 100000 in
theorem rsum_any (A : Option Addr) (n c : Nat) (xs : List Int) (w : World) (hn : xs.length = n) (hnm : n ≤ 9223372036854775807) (hb : Bytes xs)
    (hr : ∀ j x, xs[j]? = some x → ∃ ad, A = some ad ∧ w.cell? (ad.add j) = some (.int .u8 x)) :
    Calls Tryz.prog 39 #[.slice A n c] w fun e w' => e = .returned (.int .i64 (crc xs)) ∧ w = w' := by
  have HB := Lib.hid hb; clear hb
  have HR := Lib.hid hr; clear hr
  subst hn
  go_enter Tryz.func39, Tryz.ntmps39
  go_wp2
  go_loop [3, 4] (fun r i => ∃ k : Nat, k ≤ xs.length ∧ i = .int .i64 k ∧ r = .int .u32 (crcRun (xs.take k) : Nat)) (fun _ i => xs.length - (intOf i).toNat)
  case atStart => exact ⟨0, Nat.zero_le _, rfl, rfl⟩
  case round =>
    obtain ⟨k, hk, rfl, rfl⟩ := hrel
    by_cases hlt : k < xs.length
    · obtain ⟨ad, rfl, hc⟩ := HR.out k xs[k] (List.getElem?_eq_getElem hlt)
      have hx := HB.out xs[k] (List.getElem_mem hlt)
      have hr0 := crcRun_lt (HB.out.take k)
      have HS : Hid (crcRun (xs.take (k + 1)) = bitsN (crcRun (xs.take k) ^^^ (xs[k]).toNat) 8) := Lib.hid (by rw [take_snoc xs k hlt, crcRun_snoc, crcByte_bits]; rfl)
      have hy := byte_xor (crcRun (xs.take k)) xs[k] hr0 hx.1 hx.2
      have hr1 : crcRun (xs.take k) ^^^ (xs[k]).toNat < 4294967296 := Nat.xor_lt_two_pow (n := 32) (by omega) (by omega)
      generalize crcRun (xs.take k) = r at *
      generalize xs[k] = x at *
      obtain ⟨hx0, hx1⟩ := hx
      go_wp2
      generalize r ^^^ x.toNat = y at *
      go_loop [3, 5] (fun t i => ∃ j : Nat, j ≤ 8 ∧ i = .int .i64 j ∧ t = .int .u32 (bitsN y j : Nat)) (fun _ i => 8 - (intOf i).toNat)
      case atStart => exact ⟨0, Nat.zero_le _, rfl, rfl⟩
      case round =>
        obtain ⟨j, hj, rfl, rfl⟩ := hrel
        by_cases hlt2 : j < 8
        · have hz := bitsN_lt hr1 j
          have HZ : Hid (bitsN y (j + 1) = crcBit (bitsN y j)) := Lib.hid rfl
          generalize bitsN y j = z at *
          have hn1 := bit_and z hz
          rcases Nat.mod_two_eq_zero_or_one z with h0 | h0
          · have HN := Lib.hid (bit_none z h0)
            rw [h0] at hn1
            clear h0
            go_wp2
            go_round
            case rel => exact ⟨j + 1, by omega, by go_num, by rw [HZ.out, ← HN.out]⟩
            case measure => simp [intOf]; omega
          · have hn2 := bit_xor z hz h0
            rw [h0] at hn1
            clear h0
            go_wp2
            go_round
            case rel => exact ⟨j + 1, by omega, by go_num, by rw [HZ.out]⟩
            case measure => simp [intOf]; omega
        · obtain rfl : j = 8 := by omega
          go_wp2
          go_round
          case rel => exact ⟨k + 1, by omega, by go_num, by rw [HS.out]⟩
          case measure => simp [intOf]; omega
    · obtain rfl : k = xs.length := by omega
      have hr0 := crcRun_lt HB.out
      have HE : Hid (xs.take xs.length = xs) := Lib.hid (List.take_length ..)
      rw [HE.out]
      have hn := not_u32 _ hr0
      have hw : wrap64 ((4294967295 - crcRun xs : Nat) : Int) = ((4294967295 - crcRun xs : Nat) : Int) := by unfold wrap64; omega
      have HW := Lib.hid hw
      clear hw
      go_wp2
      go_ret
      refine ⟨?_, rfl⟩
      show Ending.returned (.int .i64 (wrap64 ((4294967295 - crcRun xs : Nat) : Int))) = _
      rw [HW.out]
      rfl
end Go.Am
end
section
namespace Go.Proofs.YtpnkifincadakaaGreatDoor.Wr
open Go.RowKit Go.Pk Go.Proofs.YtpnkifincadakaaGreatDoorW.PrintWords Go.Proofs.YtpnkifincadakaaGreatDoor.PPackSpecs
open Go.Am (rsum_any)
abbrev Ob (w : World) (B : Nat) (v : Value) (bs : List Int) : Prop := w.ownsRow B 5 1 v bs.length (nums .u8 bs)
theorem R_nums {w : World} {B : Nat} {ok : Nat → Prop} {v : Value} {xs : List Int} (h : (Kd.int .u8).R 5 w B ok v xs) : Ob w B v xs := by
  obtain ⟨_, inner, ho, hl, hr⟩ := h
  have e : inner = nums .u8 xs := by
    have hlen : inner.length = xs.length := by rw [hl]; show xs.length * 1 = _; omega
    apply List.ext_getElem?
    intro j
    by_cases hj : j < xs.length
    · have h1 : (inner.drop (j * 1)).take 1 = [.int .u8 xs[j]] := hr j xs[j] (List.getElem?_eq_getElem hj)
      have h2 : inner[j]? = some (.int .u8 xs[j]) := by
        have h3 : ((inner.drop (j * 1)).take 1)[0]? = some (.int .u8 xs[j]) := by rw [h1]; rfl
        rw [List.getElem?_take, if_pos (by omega), List.getElem?_drop] at h3
        simpa using h3
      rw [h2]
      unfold nums
      rw [List.getElem?_map, List.getElem?_eq_getElem hj]
      rfl
    · rw [List.getElem?_eq_none (by omega), List.getElem?_eq_none (by rw [nums_length]; omega)]
  subst e
  exact ho
theorem Ob.form {w : World} {B : Nat} {v : Value} {bs : List Int} (h : Ob w B v bs) (hp : 0 < bs.length) : ∃ g cap, v = .slice (some ⟨g, 0, none⟩) bs.length cap ∧ B ≤ g ∧ g < w.heap.size ∧ (∀ j u, (nums .u8 bs)[j]? = some u → w.cell? ((⟨g, 0, none⟩ : Addr).add j) = some u) := by
  rcases h.2 with ⟨_, h0⟩ | ⟨g, cap, cur, hv, hB, hh, h3⟩
  · omega
  · have hg : v.ownBlock = some g := by rw [hv]; rfl
    exact ⟨g, cap, hv, hB, own_lt h g hg, h.cells hg⟩
theorem Ob.lower {w : World} {B B' : Nat} {v : Value} {bs : List Int} (h : Ob w B v bs) (hB : B' ≤ B) : Ob w B' v bs := own_weaken h hB
theorem one_nums (l : List Int) : ∀ u ∈ nums .u8 l, u.oneCell' = true := by
  intro u hu
  obtain ⟨x, _, rfl⟩ := List.mem_map.1 hu
  rfl
theorem number37 (n : Int) (b : Int) (r : List Int) (w : World) (h : ∃ k, graftref18_number.f k n b = some r) : Calls Tryz.prog 37 #[.int .i64 n, .int .i64 b] w fun e w' => ∃ v, e = .returned v ∧ Ob w' w.heap.size v r ∧ Below w.heap.size w w' := by
  obtain ⟨k, hk⟩ := h
  refine (graftref18_number.calls k n b r w hk).mono ?_
  rintro e w' ⟨v, rfl, h1, h2⟩
  exact ⟨v, rfl, R_nums h1, h2⟩
end Go.Proofs.YtpnkifincadakaaGreatDoor.Wr
end
section
namespace Go.Proofs.YtpnkifincadakaaGreatDoor.Wr
open Go.RowKit Go.Pk Go.Proofs.YtpnkifincadakaaGreatDoorW.PrintWords Go.Proofs.YtpnkifincadakaaGreatDoor.PPackSpecs
def Box (w : World) (b : Nat) (cs : Array Value) (t : TypeId) (wr : World) : Prop := Below b w wr ∧ wr.heap[b]? = some (.cells cs t (0, 0))
theorem Box.start (w : World) (cs : Array Value) (t : TypeId) : Box w w.heap.size cs t (w.alloc (.cells cs t)) := ⟨below_alloc (Below.refl _ _) _, blk_new _ _⟩
theorem Box.alloc {w wr : World} {b : Nat} {cs : Array Value} {t : TypeId} (h : Box w b cs t wr) (o : Obj) : Box w b cs t (wr.alloc o) := ⟨h.1.alloc (Nat.le_of_lt (blk_lt h.2)) o, blk_alloc h.2 o⟩
theorem Box.then {w wr w' : World} {b : Nat} {cs : Array Value} {t : TypeId} (h : Box w b cs t wr) (k : Below wr.heap.size wr w') : Box w b cs t w' := ⟨h.1.trans (k.mono (Nat.le_of_lt (blk_lt h.2))), (k.block _ (blk_lt h.2)).trans h.2⟩
theorem Box.cell {w wr : World} {b : Nat} {cs : Array Value} {t : TypeId} (h : Box w b cs t wr) (j : Nat) : wr.cell? ⟨b, j, none⟩ = cs[j]? := blk_cell h.2 j
theorem C_at {α : Type} {d : Kd α} {w : World} {A : Option Addr} {n : Nat} {xs : List α} (h : d.C w A n xs) (k : Nat) (hk : k < xs.length) :
    ∃ ad c, A = some ad ∧ d.K w xs[k] c ∧ (∀ u, c[0]? = some u → w.cell? (ad.add (k * d.sz)) = some u) ∧ (∀ j u, 0 < j → c[j]? = some u → w.cell? ⟨(ad.add (k * d.sz)).block, (ad.add (k * d.sz)).off + j, none⟩ = some u) := by
  have hn := Kd.C_len h
  obtain ⟨ad, c, e, _, hK, hc⟩ := Kd.C_get h xs[k] (k : Int) (by omega) (by omega)
  simp only [Int.toNat_natCast] at hK hc
  rw [List.getD_eq_getElem?_getD, List.getElem?_eq_getElem hk] at hK
  refine ⟨ad, c, e, hK, fun u hu => ?_, fun j u hj hu => ?_⟩
  · have := hc 0 u hu
    simpa using this
  · have := hc j u hu
    rw [add_field _ _ _ hj] at this
    exact this
theorem ret_of {r n : Int} (h : r = n) : Ending.returned (.int .i64 n) = Ending.returned (.int .i64 r) := by rw [h]
theorem bf {x y : Int} (h : x ≠ y) : (x == y) = false ∧ (x != y) = true := ⟨by simpa using h, by simpa using h⟩
theorem bt {x y : Int} (h : x = y) : (x == y) = true ∧ (x != y) = false := ⟨by simpa using h, by simpa using h⟩
theorem df {p : Prop} [Decidable p] (h : ¬ p) : decide p = false ∧ True := ⟨decide_eq_false h, trivial⟩
def Bx (w : World) (A : Option Addr) (n c : Nat) (wr : World) : Prop := ∃ cs, Box w w.heap.size cs 40 wr ∧ cs[5]? = some (.slice A n c)
theorem Bx.below {w wr : World} {A : Option Addr} {n c : Nat} (h : Bx w A n c wr) : Below w.heap.size w wr := by obtain ⟨cs, h, _⟩ := h; exact h.1
theorem Bx.cell {w wr : World} {A : Option Addr} {n c : Nat} (h : Bx w A n c wr) : wr.cell? ⟨w.heap.size, 5, none⟩ = some (.slice A n c) := by obtain ⟨cs, h, e⟩ := h; exact (h.cell 5).trans e
theorem Bx.then {w wr w' : World} {A : Option Addr} {n c : Nat} (h : Bx w A n c wr) (k : Below wr.heap.size wr w') : Bx w A n c w' := by obtain ⟨cs, h, e⟩ := h; exact ⟨cs, h.then k, e⟩
theorem Bx.alloc {w wr : World} {A : Option Addr} {n c : Nat} (h : Bx w A n c wr) (o : Obj) : Bx w A n c (wr.alloc o) := by obtain ⟨cs, h, e⟩ := h; exact ⟨cs, h.alloc o, e⟩
theorem Bx.start (w : World) (a b d f g : Int) (A : Option Addr) (n c : Nat) : Bx w A n c (w.alloc (.cells #[.int .i64 a, .int .i64 b, .int .i64 d, .int .i64 f, .int .i64 g, .slice A n c] 40)) := ⟨_, Box.start w _ 40, rfl⟩
end Go.Proofs.YtpnkifincadakaaGreatDoor.Wr
end
section
namespace Go.Proofs.YtpnkifincadakaaGreatDoor.Wr
open Go.RowKit Go.Pk Go.Proofs.YtpnkifincadakaaGreatDoorW.PrintWords Go.Proofs.YtpnkifincadakaaGreatDoorW.PrintLast Go.Proofs.YtpnkifincadakaaGreatDoorW.PrintMore Go.Proofs.YtpnkifincadakaaGreatDoor.PPackSpecs
attribute [local go_sem] max2_int min2_int max_two min_two
def Wk (so deep n d : Int) (e : S40) : Prop := so + sizeE e ≤ 4096 ∧ n = so + sizeE e ∧ d = deep + depE e - 1 ∨ 4096 < so + sizeE e ∧ n = 4097
def Wl (so deep s m : Int) (l r : List S40) : Prop := s ≤ 4096 ∧ s + sizeL r = so + 1 + sizeL l ∧ deep ≤ m ∧ max m (deep + depL r) = deep + depL l ∨ s = 4097 ∧ 4096 < so + 1 + sizeL l
set_option maxHeartbeats 16000000 in
set_option maxRecDepth 100000 in
theorem walked142 (n : Nat) : ∀ (e : S40), sizeE e ≤ n → ∀ (deep so : Int), 0 ≤ so → so ≤ 4096 → 0 ≤ deep → deep ≤ so + 1 → ∀ (A : Option Addr) (c : Nat) (w : World), k40.C w A e.f5.length e.f5 →
    Calls Tryz.prog 142 #[.agg #[.int .i64 e.f0, .int .i64 e.f1, .int .i64 e.f2, .int .i64 e.f3, .int .i64 e.f4, .slice A e.f5.length c], .int .i64 deep, .int .i64 so] w fun r w' => ∃ n d, r = .returned (.tuple #[.int .i64 n, .int .i64 d]) ∧ Below w.heap.size w w' ∧ Aside0 (Wk so deep n d e) := by
  induction n with
  | zero => intro e h; have := sizeE_pos e; omega
  | succ n ih =>
    intro e hn deep so hs0 hs1 hd0 hd1 A c w hC
    have hW : ∀ n d, Wk so deep n d e ↔ (so + 1 + sizeL e.f5 ≤ 4096 ∧ n = so + 1 + sizeL e.f5 ∧ d = deep + depL e.f5 ∨ 4096 < so + 1 + sizeL e.f5 ∧ n = 4097) := fun n d => by
      unfold Wk
      rw [sizeE_eq, depE_eq]
      omega
    rw [sizeE_eq] at hn
    have HW := Aside0.mk hW
    clear hW
    obtain ⟨W, hW⟩ : ∃ W : Int → Int → Prop, W = fun n d => Wk so deep n d e := ⟨_, rfl⟩
    have HW2 : Aside0 (∀ n d, W n d ↔ (so + 1 + sizeL e.f5 ≤ 4096 ∧ n = so + 1 + sizeL e.f5 ∧ d = deep + depL e.f5 ∨ 4096 < so + 1 + sizeL e.f5 ∧ n = 4097)) := ⟨by rw [hW]; exact HW.out⟩
    refine (?_ : Calls _ _ _ _ fun r w' => ∃ n d, r = .returned (.tuple #[.int .i64 n, .int .i64 d]) ∧ Below w.heap.size w w' ∧ Aside0 (W n d)).mono (by rw [hW]; exact fun _ _ h => h)
    clear hW HW
    obtain ⟨a, b, x2, f, g, l⟩ := e
    dsimp only at hn hC HW2 ⊢
    have hm := Kd.C_max hC
    have HC := Aside0.mk hC
    have IH := Aside0.mk ih
    have HN := Aside0.mk hn
    clear hC ih hn
    have HB := Aside0.mk (Bx.start w a b x2 f g A l.length c)
    have HS : Aside0 (Wl so deep (so + 1) deep l l) := ⟨by unfold Wl; omega⟩
    go_enter Tryz.func142, Tryz.ntmps142
    go_wp2
    go_loopw [2, 8, 19] (fun v m i wr => ∃ (k : Nat) (s t : Int), k ≤ l.length ∧ v = .int .i64 s ∧ m = .int .i64 t ∧ i = .int .i64 k ∧ so + 1 ≤ s ∧ s ≤ 4097 ∧ Aside0 (Below w.heap.size w wr) ∧ Aside0 (Wl so deep s t l (l.drop k))) (fun _ _ i _ => l.length - (intOf i).toNat)
    case atStart => exact ⟨0, so + 1, deep, Nat.zero_le _, rfl, rfl, rfl, by omega, by omega, ⟨HB.out.below⟩, HS⟩
    case round =>
      obtain ⟨k, s, t, hk, rfl, rfl, rfl, hq0, hq1, hX, hI⟩ := hrel
      by_cases hlt : k < l.length
      · obtain ⟨ad, cs, rfl, hK, hc0, hc1⟩ := C_at (Kd.C_below HC.out hX.out) k hlt
        obtain ⟨A7, c7, rfl, l7, g7⟩ := k40_open hK
        have d0 : wr.cell? (ad.add (k * 6)) = some (.int .i64 l[k].f0) := hc0 _ rfl
        have d1 : wr.cell? ⟨(ad.add (k * 6)).block, (ad.add (k * 6)).off + 1, none⟩ = some (.int .i64 l[k].f1) := hc1 1 _ (by decide) rfl
        have d2 : wr.cell? ⟨(ad.add (k * 6)).block, (ad.add (k * 6)).off + 2, none⟩ = some (.int .i64 l[k].f2) := hc1 2 _ (by decide) rfl
        have d3 : wr.cell? ⟨(ad.add (k * 6)).block, (ad.add (k * 6)).off + 3, none⟩ = some (.int .i64 l[k].f3) := hc1 3 _ (by decide) rfl
        have d4 : wr.cell? ⟨(ad.add (k * 6)).block, (ad.add (k * 6)).off + 4, none⟩ = some (.int .i64 l[k].f4) := hc1 4 _ (by decide) rfl
        have d5 : wr.cell? ⟨(ad.add (k * 6)).block, (ad.add (k * 6)).off + 5, none⟩ = some (.slice A7 l[k].f5.length c7) := hc1 5 _ (by decide) rfl
        have hsz : sizeE l[k] ≤ n := by
          have := mem_size _ _ (List.getElem_mem hlt)
          have := HN.out
          omega
        have HSZ := Aside0.mk (sizeL_drop hlt)
        have HDP := Aside0.mk (depL_drop hlt)
        have HPO := Aside0.mk (sizeE_pos l[k])
        have HDO := Aside0.mk (depE_pos l[k])
        have HS := Aside0.mk fun (h : s ≤ 4096) o => IH.out l[k] hsz (deep + 1) s (by omega) h (by omega) (by omega) A7 c7 (wr.alloc o) (Kd.C_alloc g7 o)
        have HX2 := Aside0.mk fun o => below_alloc hX.out o
        clear hK hc0 hc1 g7 hsz
        generalize l[k] = x at *
        by_cases h4 : 4096 < s
        · have HR : Aside0 (W s t) := ⟨by
            rw [HW2.out]
            have := hI.out
            unfold Wl at this
            omega⟩
          go_wp2
          go_ret2
          exact ⟨_, _, rfl, HX2.out _, HR⟩
        · have h4' : decide (4096 < s) = false := decide_eq_false h4
          have HS2 := Aside0.mk (HS.out (by omega))
          clear HS
          go_wp2_with (go_at_call 142; refine (HS2.out _).mono ?_)
          first | rintro e w2 n' d' rfl k2 HQ | rintro e w2 ⟨n', d', rfl, k2, HQ⟩
          have hX2 := Aside0.mk ((HX2.out _).trans (k2.mono (Nat.le_trans hX.out.size (by simp))))
          have hR : s ≤ n' ∧ n' ≤ 4097 := by
            have := HQ.out
            have := HPO.out
            unfold Wk at *
            omega
          obtain ⟨hR0, hR1⟩ := hR
          clear k2
          go_wp2
          all_goals
            go_roundw
            case rel => exact ⟨k + 1, n', _, by omega, rfl, rfl, by go_num, by omega, by omega, hX2, ⟨by
              have h1 := hI.out
              have h2 := HQ.out
              have h3 := HSZ.out
              have h4 := HDP.out
              have h5 := HDO.out
              unfold Wl at h1 ⊢
              unfold Wk at h2
              omega⟩⟩
            case measure => simp [intOf]; omega
      · obtain rfl : k = l.length := by omega
        have HR : Aside0 (W s t) := ⟨by
          rw [HW2.out]
          have := hI.out
          unfold Wl at this
          rw [List.drop_length] at this
          simp only [sizeL, depL] at this
          omega⟩
        go_wp2
        go_ret2
        exact ⟨_, _, rfl, hX.out, HR⟩
end Go.Proofs.YtpnkifincadakaaGreatDoor.Wr
end
section
namespace Go.Proofs.YtpnkifincadakaaGreatDoor.Wr
open Go.RowKit Go.Pk Go.Proofs.YtpnkifincadakaaGreatDoorW.PrintWords Go.Proofs.YtpnkifincadakaaGreatDoorW.PrintLast Go.Proofs.YtpnkifincadakaaGreatDoorW.PrintMore Go.Proofs.YtpnkifincadakaaGreatDoor.PPackSpecs
attribute [local go_sem] max2_int min2_int max_two min_two
theorem copies219 (e : S40) (A : Option Addr) (c : Nat) (w : World) :
    Calls Tryz.prog 219 #[.agg #[.int .i64 e.f0, .int .i64 e.f1, .int .i64 e.f2, .int .i64 e.f3, .int .i64 e.f4, .slice A e.f5.length c]] w fun r w' => r = .returned (.int .i64 (copiesOf e)) ∧ Below w.heap.size w w' := by
  have HE : copiesOf e = if e.f4 < 0 then max e.f3 1 else e.f4 := rfl
  obtain ⟨r, hr⟩ : ∃ r, r = copiesOf e := ⟨_, rfl⟩
  rw [← hr] at HE ⊢
  clear hr
  obtain ⟨a, b, d, f, g, l⟩ := e
  dsimp only at HE ⊢
  have HB := Aside0.mk (Bx.start w a b d f g A l.length c)
  by_cases h : g < 0
  · rw [if_pos h] at HE
    have HR := Lib.hid HE
    clear HE
    go_enter Tryz.func219, Tryz.ntmps219
    go_wp2
    all_goals
      go_ret
      exact ⟨ret_of (by rw [HR.out]; omega), HB.out.below⟩
  · rw [if_neg h] at HE
    have HR := Lib.hid HE
    have h' : decide (g < 0) = false := decide_eq_false h
    clear HE
    go_enter Tryz.func219, Tryz.ntmps219
    go_wp2
    go_ret
    exact ⟨ret_of HR.out, HB.out.below⟩
set_option maxHeartbeats 16000000 in
set_option maxRecDepth 100000 in
theorem right143 (n : Nat) : ∀ (e : S40), sizeE e ≤ n → ∀ (A : Option Addr) (c : Nat) (w : World), k40.C w A e.f5.length e.f5 →
    Calls Tryz.prog 143 #[.agg #[.int .i64 e.f0, .int .i64 e.f1, .int .i64 e.f2, .int .i64 e.f3, .int .i64 e.f4, .slice A e.f5.length c]] w fun r w' => r = .returned (.bool (rightE e)) ∧ Below w.heap.size w w' := by
  induction n with
  | zero => intro e h; have := sizeE_pos e; omega
  | succ n ih =>
    intro e hn A c w hC
    have hE := rightE_eq e
    rw [sizeE_eq] at hn
    obtain ⟨r, hr⟩ : ∃ r, r = rightE e := ⟨_, rfl⟩
    rw [← hr] at hE ⊢
    clear hr
    obtain ⟨o, ho⟩ : ∃ o, o = ownOk e := ⟨_, rfl⟩
    rw [← ho] at hE
    obtain ⟨a, b, d, f, g, l⟩ := e
    dsimp only at hn hC hE ⊢
    have HO := Aside0.mk ho
    obtain ⟨p, hp⟩ : ∃ p, p = decide (b = 0 ∧ d = 0) := ⟨_, rfl⟩
    have HP := Aside0.mk hp
    have hm := Kd.C_max hC
    have HC := Aside0.mk hC
    have IH := Aside0.mk ih
    have HN := Aside0.mk hn
    have HE := Aside0.mk hE
    clear hC ih hn hE ho hp
    have HB := Aside0.mk (Bx.start w a b d f g A l.length c)
    go_enter Tryz.func143, Tryz.ntmps143
    go_upto_region 1 with (fail)
    go_cut [3] (fun v wx => v = .bool p ∧ wx = w.alloc (.cells #[.int .i64 a, .int .i64 b, .int .i64 d, .int .i64 f, .int .i64 g, .slice A l.length c] 40))
    case first =>
      have D : (p = false ∧ (b ≠ 0 ∨ b = 0 ∧ d ≠ 0)) ∨ (p = true ∧ b = 0 ∧ d = 0) := by
        rw [HP.out]
        simp only [decide_eq_false_iff_not, decide_eq_true_eq]
        omega
      rcases D with ⟨rfl, h | ⟨rfl, h⟩⟩ | ⟨rfl, rfl, rfl⟩
      all_goals
        try (replace h := bf h); obtain ⟨h, h'⟩ := h
        go_wp2_with fail
        go_meet
        exact ⟨rfl, rfl⟩
    case rest =>
      obtain ⟨rfl, rfl⟩ := hcut
      go_upto_block 0 with (fail)
      go_cut [4] (fun v wx => v = .bool o ∧ wx = w.alloc (.cells #[.int .i64 a, .int .i64 b, .int .i64 d, .int .i64 f, .int .i64 g, .slice A l.length c] 40))
      case first =>
        have F : (o = false ∧ a ≠ 1 ∧ a ≠ 2 ∧ a ≠ 3 ∧ a ≠ 4) ∨
            (a = 1 ∧ (o = false ∧ (¬ 0 ≤ b ∨ 0 ≤ b ∧ (¬ b ≤ d ∨ b ≤ d ∧ (¬ d ≤ 255 ∨ d ≤ 255 ∧ (f ≠ 0 ∨ f = 0 ∧ (g ≠ 0 ∨ g = 0 ∧ (l.length : Int) ≠ 0))))) ∨ o = true ∧ 0 ≤ b ∧ b ≤ d ∧ d ≤ 255 ∧ f = 0 ∧ g = 0 ∧ (l.length : Int) = 0)) ∨
            (a = 2 ∧ (o = false ∧ (p = false ∨ p = true ∧ (f ≠ 0 ∨ f = 0 ∧ (g ≠ 0 ∨ g = 0 ∧ (l.length : Int) = 1))) ∨ o = true ∧ p = true ∧ f = 0 ∧ g = 0 ∧ (l.length : Int) ≠ 1)) ∨
            (a = 3 ∧ (o = false ∧ (p = false ∨ p = true ∧ (f ≠ 0 ∨ f = 0 ∧ (g ≠ 0 ∨ g = 0 ∧ ¬ 1 < (l.length : Int)))) ∨ o = true ∧ p = true ∧ f = 0 ∧ g = 0 ∧ 1 < (l.length : Int))) ∨
            (a = 4 ∧ (o = false ∧ (p = false ∨ p = true ∧ ((l.length : Int) ≠ 1 ∨ (l.length : Int) = 1 ∧ (¬ 0 ≤ f ∨ 0 ≤ f ∧ (¬ f ≤ 1000 ∨ f ≤ 1000 ∧ (g ≠ -1 ∧ (¬ f ≤ g ∨ f ≤ g ∧ ¬ g ≤ 1000)))))) ∨
              o = true ∧ p = true ∧ (l.length : Int) = 1 ∧ 0 ≤ f ∧ f ≤ 1000 ∧ (g = -1 ∨ g ≠ -1 ∧ f ≤ g ∧ g ≤ 1000))) := by
          rw [HO.out, HP.out]
          unfold ownOk
          dsimp only
          repeat' split
          all_goals (simp only [decide_eq_false_iff_not, decide_eq_true_eq, Bool.false_eq_true, false_and, or_false, true_and]; omega)
        rcases F with ⟨rfl, h, k1, k2, k3⟩ | ⟨rfl, ⟨rfl, h | ⟨k1, h | ⟨k2, h | ⟨k3, h | ⟨rfl, h | ⟨rfl, h⟩⟩⟩⟩⟩⟩ | ⟨rfl, k1, k2, k3, rfl, rfl, h⟩⟩ |
          ⟨rfl, ⟨rfl, rfl | ⟨rfl, h | ⟨rfl, h | ⟨rfl, h⟩⟩⟩⟩ | ⟨rfl, rfl, rfl, rfl, h⟩⟩ | ⟨rfl, ⟨rfl, rfl | ⟨rfl, h | ⟨rfl, h | ⟨rfl, h⟩⟩⟩⟩ | ⟨rfl, rfl, rfl, rfl, h⟩⟩ |
          ⟨rfl, ⟨rfl, rfl | ⟨rfl, h | ⟨h, k1 | ⟨k1, k2 | ⟨k2, k3, k4 | ⟨k4, k5⟩⟩⟩⟩⟩⟩ | ⟨rfl, rfl, h, k1, k2, rfl | ⟨k3, k4, k5⟩⟩⟩
        all_goals
          try (first | replace h := bf h | replace h := df h | replace h := bt h); obtain ⟨h, h'⟩ := h
          try (first | replace k1 := bf k1 | replace k1 := df k1); obtain ⟨k1, k1'⟩ := k1
          try (first | replace k2 := bf k2 | replace k2 := df k2); obtain ⟨k2, k2'⟩ := k2
          try (first | replace k3 := bf k3 | replace k3 := df k3); obtain ⟨k3, k3'⟩ := k3
          try (replace k4 := df k4); obtain ⟨k4, k4'⟩ := k4
          try (replace k5 := df k5); obtain ⟨k5, k5'⟩ := k5
          go_wp2_with fail
          go_meet
          exact ⟨rfl, rfl⟩
      case rest =>
        obtain ⟨rfl, rfl⟩ := hcut
        go_wp2
        go_loopw [4, 127] (fun v i wr => ∃ (k : Nat) (q : Bool), k ≤ l.length ∧ v = .bool q ∧ i = .int .i64 k ∧ Aside0 (Bx w A l.length c wr) ∧ Aside0 ((q && rightL (l.drop k)) = r)) (fun _ i _ => l.length - (intOf i).toNat)
        case atStart => exact ⟨0, o, Nat.zero_le _, rfl, rfl, HB, ⟨HE.out.symm⟩⟩
        case round =>
          obtain ⟨k, q, hk, rfl, rfl, hX, hI⟩ := hrel
          by_cases hlt : k < l.length
          · obtain ⟨ad, cs, rfl, hK, hc0, hc1⟩ := C_at (Kd.C_below HC.out hX.out.below) k hlt
            obtain ⟨A7, c7, rfl, l7, g7⟩ := k40_open hK
            have d0 : wr.cell? (ad.add (k * 6)) = some (.int .i64 l[k].f0) := hc0 _ rfl
            have d1 : wr.cell? ⟨(ad.add (k * 6)).block, (ad.add (k * 6)).off + 1, none⟩ = some (.int .i64 l[k].f1) := hc1 1 _ (by decide) rfl
            have d2 : wr.cell? ⟨(ad.add (k * 6)).block, (ad.add (k * 6)).off + 2, none⟩ = some (.int .i64 l[k].f2) := hc1 2 _ (by decide) rfl
            have d3 : wr.cell? ⟨(ad.add (k * 6)).block, (ad.add (k * 6)).off + 3, none⟩ = some (.int .i64 l[k].f3) := hc1 3 _ (by decide) rfl
            have d4 : wr.cell? ⟨(ad.add (k * 6)).block, (ad.add (k * 6)).off + 4, none⟩ = some (.int .i64 l[k].f4) := hc1 4 _ (by decide) rfl
            have d5 : wr.cell? ⟨(ad.add (k * 6)).block, (ad.add (k * 6)).off + 5, none⟩ = some (.slice A7 l[k].f5.length c7) := hc1 5 _ (by decide) rfl
            have hsz : sizeE l[k] ≤ n := by
              have := mem_size _ _ (List.getElem_mem hlt)
              have := HN.out
              omega
            have HS := Aside0.mk fun o => IH.out l[k] hsz A7 c7 (wr.alloc o) (Kd.C_alloc g7 o)
            have HD : Hid (rightL (l.drop k) = (rightE l[k] && rightL (l.drop (k + 1)))) := Lib.hid (rightL_drop hlt)
            clear hK hc0 hc1 g7 hsz
            generalize l[k] = x at *
            cases q
            · have HF : Hid ((false && rightL (l.drop (k + 1))) = r) := Lib.hid hI.out
              go_wp2
              go_roundw
              case rel => exact ⟨k + 1, false, by omega, rfl, by go_num, ⟨hX.out.alloc _⟩, ⟨HF.out⟩⟩
              case measure => simp [intOf]; omega
            · have HF : Hid ((rightE x && rightL (l.drop (k + 1))) = r) := Lib.hid (by rw [← hI.out, HD.out]; rfl)
              go_wp2_with (go_at_call 143; refine (HS.out _).mono ?_)
              first | rintro e w2 rfl k2 | rintro e w2 ⟨rfl, k2⟩
              have hX2 := Aside0.mk ((hX.out.alloc _).then k2)
              clear k2
              go_wp2
              go_roundw
              case rel => exact ⟨k + 1, rightE x, by omega, rfl, by go_num, hX2, ⟨HF.out⟩⟩
              case measure => simp [intOf]; omega
          · obtain rfl : k = l.length := by omega
            have HR : Hid (q = r) := Lib.hid (by rw [← hI.out, List.drop_length, rightL, Bool.and_true])
            go_wp2
            go_ret
            exact ⟨by rw [HR.out]; rfl, hX.out.below⟩
set_option maxHeartbeats 16000000 in
set_option maxRecDepth 100000 in
theorem pos144 (n : Nat) : ∀ (e : S40), sizeE e ≤ n → sizeE e ≤ 4096 → rightE e = true → ∀ (A : Option Addr) (c : Nat) (w : World), k40.C w A e.f5.length e.f5 →
    Calls Tryz.prog 144 #[.agg #[.int .i64 e.f0, .int .i64 e.f1, .int .i64 e.f2, .int .i64 e.f3, .int .i64 e.f4, .slice A e.f5.length c]] w fun r w' => r = .returned (.int .i64 (posE e)) ∧ Below w.heap.size w w' := by
  induction n with
  | zero => intro e h; have := sizeE_pos e; omega
  | succ n ih =>
    intro e hn hb hr A c w hC
    have hE := posE_eq e
    have hcb := copies_bound hr
    rw [rightE_eq, Bool.and_eq_true] at hr
    obtain ⟨ho, hrl⟩ := hr
    rw [sizeE_eq] at hn hb
    have hCO := fun w => copies219 e A c w
    obtain ⟨r, hr⟩ : ∃ r, r = posE e := ⟨_, rfl⟩
    rw [← hr] at hE ⊢
    clear hr ho
    generalize copiesOf e = cp at *
    obtain ⟨a, b, d, f, g, l⟩ := e
    dsimp only at hn hb hC hE hrl hcb hCO ⊢
    have hm := Kd.C_max hC
    have hl : l.length ≤ 4096 := by have := length_le_sizeL l; omega
    have HC := Aside0.mk hC
    have IH := Aside0.mk ih
    have HN := Aside0.mk hn
    have HN2 := Aside0.mk hb
    have HE := Aside0.mk hE
    have HRL := Aside0.mk hrl
    have HCB := Aside0.mk hcb
    have HCO := Aside0.mk hCO
    clear hC ih hn hE hrl hcb hCO hb
    have HB := Aside0.mk (Box.start w #[.int .i64 a, .int .i64 b, .int .i64 d, .int .i64 f, .int .i64 g, .slice A l.length c] 40)
    by_cases h1 : a = 1
    · have HR : Hid (r = 1) := Lib.hid (by rw [HE.out, if_pos h1])
      subst h1
      go_enter Tryz.func144, Tryz.ntmps144
      go_wp2
      go_ret
      exact ⟨ret_of HR.out, HB.out.1⟩
    have hE := HE.out
    rw [if_neg h1] at hE
    have HE := Aside0.mk hE
    clear hE
    obtain ⟨h1, h1'⟩ := bf h1
    go_enter Tryz.func144, Tryz.ntmps144
    go_wp2
    go_loopw [3, 12] (fun v i wr => ∃ (k : Nat) (s : Int), k ≤ l.length ∧ v = .int .i64 s ∧ i = .int .i64 k ∧ 0 ≤ s ∧ s ≤ 4097 * k ∧ Aside0 (Box w w.heap.size #[.int .i64 a, .int .i64 b, .int .i64 d, .int .i64 f, .int .i64 g, .slice A l.length c] 40 wr) ∧ Aside0 (rightL (l.drop k) = true) ∧ Aside0 (s + posL (l.drop k) = posL l)) (fun _ i _ => l.length - (intOf i).toNat)
    case atStart => exact ⟨0, 0, Nat.zero_le _, rfl, rfl, by omega, by omega, HB, HRL, ⟨by rw [Int.zero_add]; rfl⟩⟩
    case round =>
      obtain ⟨k, s, hk, rfl, rfl, hs0, hs1, hX, hY, hI⟩ := hrel
      by_cases hlt : k < l.length
      · obtain ⟨ad, cs, rfl, hK, hc0, hc1⟩ := C_at (Kd.C_below HC.out hX.out.1) k hlt
        obtain ⟨A7, c7, rfl, l7, g7⟩ := k40_open hK
        have d0 : wr.cell? (ad.add (k * 6)) = some (.int .i64 l[k].f0) := hc0 _ rfl
        have d1 : wr.cell? ⟨(ad.add (k * 6)).block, (ad.add (k * 6)).off + 1, none⟩ = some (.int .i64 l[k].f1) := hc1 1 _ (by decide) rfl
        have d2 : wr.cell? ⟨(ad.add (k * 6)).block, (ad.add (k * 6)).off + 2, none⟩ = some (.int .i64 l[k].f2) := hc1 2 _ (by decide) rfl
        have d3 : wr.cell? ⟨(ad.add (k * 6)).block, (ad.add (k * 6)).off + 3, none⟩ = some (.int .i64 l[k].f3) := hc1 3 _ (by decide) rfl
        have d4 : wr.cell? ⟨(ad.add (k * 6)).block, (ad.add (k * 6)).off + 4, none⟩ = some (.int .i64 l[k].f4) := hc1 4 _ (by decide) rfl
        have d5 : wr.cell? ⟨(ad.add (k * 6)).block, (ad.add (k * 6)).off + 5, none⟩ = some (.slice A7 l[k].f5.length c7) := hc1 5 _ (by decide) rfl
        have hsz : sizeE l[k] ≤ n ∧ sizeE l[k] ≤ 4096 := by
          have := mem_size _ _ (List.getElem_mem hlt)
          have := HN.out
          have := HN2.out
          omega
        have hy := hY.out
        rw [rightL_drop hlt, Bool.and_eq_true] at hy
        obtain ⟨hq0, hq1⟩ := (pos_bound n).1 l[k] hsz.1 hy.1
        have HS := Aside0.mk fun o => IH.out l[k] hsz.1 hsz.2 hy.1 A7 c7 (wr.alloc o) (Kd.C_alloc g7 o)
        have HD := Aside0.mk (posL_drop hlt)
        have HY2 := Aside0.mk hy.2
        clear hK hc0 hc1 g7 hsz hy
        generalize l[k] = x at *
        generalize posE x = q at *
        have HM := Aside0.mk (show s + q + posL (l.drop (k + 1)) = posL l by rw [← hI.out, HD.out]; omega)
        go_wp2_with (go_at_call 144; refine (HS.out _).mono ?_)
        first | rintro e w2 rfl k2 | rintro e w2 ⟨rfl, k2⟩
        have hX2 := Aside0.mk ((hX.out.alloc _).then k2)
        clear k2
        go_wp2
        go_roundw
        case rel => exact ⟨k + 1, s + q, by omega, by go_num, by go_num, by omega, by omega, hX2, HY2, HM⟩
        case measure => simp [intOf]; omega
      · obtain rfl : k = l.length := by omega
        have hs : s = posL l := by
          have := hI.out
          rw [List.drop_length] at this
          simp only [posL] at this
          omega
        have hE := HE.out
        rw [← hs] at hE
        clear hs
        have e0 : wr.cell? ⟨w.heap.size, 0, none⟩ = some (.int .i64 a) := (hX.out.cell 0).trans rfl
        have e1 : wr.cell? ⟨w.heap.size, 1, none⟩ = some (.int .i64 b) := (hX.out.cell 1).trans rfl
        have e2 : wr.cell? ⟨w.heap.size, 2, none⟩ = some (.int .i64 d) := (hX.out.cell 2).trans rfl
        have e3 : wr.cell? ⟨w.heap.size, 3, none⟩ = some (.int .i64 f) := (hX.out.cell 3).trans rfl
        have e4 : wr.cell? ⟨w.heap.size, 4, none⟩ = some (.int .i64 g) := (hX.out.cell 4).trans rfl
        have e5 : wr.cell? ⟨w.heap.size, 5, none⟩ = some (.slice A l.length c) := (hX.out.cell 5).trans rfl
        by_cases h4 : a = 4
        · subst h4
          obtain ⟨c1, c2, c3⟩ := HCB.out rfl
          rw [c3] at hs1
          obtain ⟨m0, m1⟩ : 0 ≤ s * cp ∧ s * cp ≤ 4097 * 1000 := ⟨Int.mul_nonneg hs0 c1, Int.le_trans (Int.mul_le_mul_of_nonneg_right (by omega) c1) (Int.mul_le_mul_of_nonneg_left c2 (by omega))⟩
          rw [if_pos rfl] at hE
          have HR := Aside0.mk hE
          clear hE c3
          go_wp2_with (go_at_call 219; refine (HCO.out _).mono ?_)
          first | rintro e w2 rfl k2 | rintro e w2 ⟨rfl, k2⟩
          have hX2 := Aside0.mk (hX.out.then k2)
          clear k2
          go_wp2
          all_goals
            go_ret
            exact ⟨ret_of (by rw [HR.out]; omega), hX2.out.1⟩
        · rw [if_neg h4] at hE
          have HR := Aside0.mk hE
          obtain ⟨h4, h4'⟩ := bf h4
          clear hE
          go_wp2
          all_goals
            go_ret
            exact ⟨ret_of (by rw [HR.out]; omega), hX.out.1⟩
theorem chk75 (e : S40) (A : Option Addr) (c : Nat) (w : World) (h : k40.C w A e.f5.length e.f5) : Calls Tryz.prog 142 #[.agg #[.int .i64 e.f0, .int .i64 e.f1, .int .i64 e.f2, .int .i64 e.f3, .int .i64 e.f4, .slice A e.f5.length c], .int .i64 1, .int .i64 0] w fun r w' =>
    ∃ (n d : Int), r = .returned (.tuple #[.int .i64 n, .int .i64 d]) ∧ Below w.heap.size w w' ∧ Aside0 ((4096 < sizeE e ∧ n = 4097) ∨ (sizeE e ≤ 4096 ∧ n = sizeE e ∧ d = depE e)) := by
  refine (walked142 (sizeE e) e (Nat.le_refl _) 1 0 (by omega) (by omega) (by omega) (by omega) A c w h).mono ?_
  rintro r w' ⟨n, d, rfl, hb, hq⟩
  refine ⟨n, d, rfl, hb, ⟨?_⟩⟩
  have := hq.out
  unfold Wk at this
  omega
set_option maxHeartbeats 16000000 in
set_option maxRecDepth 100000 in
theorem check75 (x : S40) (A : Option Addr) (c : Nat) (w : World) (h : k40.C w A x.f5.length x.f5) (hc : x.f5.length ≤ c) :
    Calls Tryz.prog 75 #[.agg #[.int .i64 x.f0, .int .i64 x.f1, .int .i64 x.f2, .int .i64 x.f3, .int .i64 x.f4, .slice A x.f5.length c]] w fun e w' => e = .returned (.int .i64 (chk x)) ∧ Below w.heap.size w w' := by
  have HW := Aside0.mk fun o => chk75 x A c (w.alloc o) (Kd.C_alloc h o)
  have HQ := Aside0.mk fun w' (hb : Below w.heap.size w w') => right143 (sizeE x) x (Nat.le_refl _) A c w' (Kd.C_below h hb)
  have HP := Aside0.mk fun (hs : sizeE x ≤ 4096) (hr : rightE x = true) w' (hb : Below w.heap.size w w') => pos144 (sizeE x) x (Nat.le_refl _) hs hr A c w' (Kd.C_below h hb)
  have HB := Aside0.mk (Box.start w #[.int .i64 x.f0, .int .i64 x.f1, .int .i64 x.f2, .int .i64 x.f3, .int .i64 x.f4, .slice A x.f5.length c] 40)
  have hcx : chk x = if 4096 < sizeE x then 2 else if 64 < depE x then 5 else if rightE x = false then 20 else if 4096 < posE x then 21 else 0 := rfl
  obtain ⟨r, hr⟩ : ∃ r, r = chk x := ⟨_, rfl⟩
  rw [← hr] at hcx ⊢
  have HE := Aside0.mk hcx
  clear hr hcx h
  go_enter Tryz.func75, Tryz.ntmps75
  go_wp2_with (go_at_call 142; refine (HW.out _).mono ?_)
  rintro e w1 ⟨n, d, rfl, k1, HN⟩
  have HB1 := Aside0.mk (HB.out.then k1)
  clear k1
  have f0 : w1.cell? ⟨w.heap.size, 0, none⟩ = some (.int .i64 x.f0) := (HB1.out.cell 0).trans rfl
  have f1 : w1.cell? ⟨w.heap.size, 1, none⟩ = some (.int .i64 x.f1) := (HB1.out.cell 1).trans rfl
  have f2 : w1.cell? ⟨w.heap.size, 2, none⟩ = some (.int .i64 x.f2) := (HB1.out.cell 2).trans rfl
  have f3 : w1.cell? ⟨w.heap.size, 3, none⟩ = some (.int .i64 x.f3) := (HB1.out.cell 3).trans rfl
  have f4 : w1.cell? ⟨w.heap.size, 4, none⟩ = some (.int .i64 x.f4) := (HB1.out.cell 4).trans rfl
  have f5 : w1.cell? ⟨w.heap.size, 5, none⟩ = some (.slice A x.f5.length c) := (HB1.out.cell 5).trans rfl
  by_cases h1 : 4096 < n
  · have HR : Hid (r = 2) := Lib.hid (by rw [HE.out, if_pos (by have := HN.out; omega)])
    go_wp2
    go_ret
    exact ⟨ret_of HR.out, HB1.out.1⟩
  obtain ⟨hs, rfl, rfl⟩ : sizeE x ≤ 4096 ∧ n = sizeE x ∧ d = depE x := by have := HN.out; omega
  have hE := HE.out
  rw [if_neg (by omega)] at hE
  have h1' : decide ((4096 : Int) < (sizeE x : Int)) = false := decide_eq_false h1
  by_cases h2 : 64 < depE x
  · have HR : Hid (r = 5) := Lib.hid (by rw [hE, if_pos h2])
    clear hE
    go_wp2
    go_ret
    exact ⟨ret_of HR.out, HB1.out.1⟩
  rw [if_neg h2] at hE
  have h2' : decide ((64 : Int) < (depE x : Int)) = false := decide_eq_false (by omega)
  have HS := Aside0.mk hs
  clear hs
  cases hq : rightE x
  · have HR : Hid (r = 20) := Lib.hid (by rw [hE, if_pos hq])
    rw [hq] at HQ
    clear hE hq
    go_wp2_with (go_at_call 143; refine (HQ.out _ HB1.out.1).mono ?_)
    first | rintro e w2 rfl k2 | rintro e w2 ⟨rfl, k2⟩
    have HB2 := Aside0.mk (HB1.out.then k2)
    clear k2
    go_wp2
    go_ret
    exact ⟨ret_of HR.out, HB2.out.1⟩
  rw [if_neg (by rw [hq]; simp)] at hE
  have HP2 := Aside0.mk (HP.out HS.out hq)
  rw [hq] at HQ
  clear hq
  have HE2 := Aside0.mk hE
  clear hE
  go_wp2_with (go_at_call 143; refine (HQ.out _ HB1.out.1).mono ?_)
  first | rintro e w2 rfl k2 | rintro e w2 ⟨rfl, k2⟩
  have HB2 := Aside0.mk (HB1.out.then k2)
  clear k2
  have f0 : w2.cell? ⟨w.heap.size, 0, none⟩ = some (.int .i64 x.f0) := (HB2.out.cell 0).trans rfl
  have f1 : w2.cell? ⟨w.heap.size, 1, none⟩ = some (.int .i64 x.f1) := (HB2.out.cell 1).trans rfl
  have f2 : w2.cell? ⟨w.heap.size, 2, none⟩ = some (.int .i64 x.f2) := (HB2.out.cell 2).trans rfl
  have f3 : w2.cell? ⟨w.heap.size, 3, none⟩ = some (.int .i64 x.f3) := (HB2.out.cell 3).trans rfl
  have f4 : w2.cell? ⟨w.heap.size, 4, none⟩ = some (.int .i64 x.f4) := (HB2.out.cell 4).trans rfl
  have f5 : w2.cell? ⟨w.heap.size, 5, none⟩ = some (.slice A x.f5.length c) := (HB2.out.cell 5).trans rfl
  generalize posE x = q at *
  by_cases h3 : 4096 < q
  · have HR : Hid (r = 21) := Lib.hid (by rw [HE2.out, if_pos h3])
    go_wp2_with (go_at_call 144; refine (HP2.out _ HB2.out.1).mono ?_)
    first | rintro e w3 rfl k3 | rintro e w3 ⟨rfl, k3⟩
    have HB3 := Aside0.mk (HB2.out.then k3)
    clear k3
    go_wp2
    go_ret
    exact ⟨ret_of HR.out, HB3.out.1⟩
  · have HR : Hid (r = 0) := Lib.hid (by rw [HE2.out, if_neg h3])
    have h3' : decide (4096 < q) = false := decide_eq_false h3
    go_wp2_with (go_at_call 144; refine (HP2.out _ HB2.out.1).mono ?_)
    first | rintro e w3 rfl k3 | rintro e w3 ⟨rfl, k3⟩
    have HB3 := Aside0.mk (HB2.out.then k3)
    clear k3
    go_wp2
    go_ret
    exact ⟨ret_of HR.out, HB3.out.1⟩
end Go.Proofs.YtpnkifincadakaaGreatDoor.Wr
end
section
namespace Go.Proofs.YtpnkifincadakaaGreatDoor.Wr
open Go.RowKit Go.Pk Go.Proofs.YtpnkifincadakaaGreatDoorW.PrintWords Go.Proofs.YtpnkifincadakaaGreatDoor.PPackSpecs
theorem sym_ways (a b : Int) (nl nn : Nat) (r : Bool) (h : r = symOk ⟨a, b⟩ nl nn) : (r = false ∧ a ≠ 1 ∧ a ≠ 2 ∧ a ≠ 3) ∨ (a = 1 ∧ (r = false ∧ (¬ 0 ≤ b ∨ 0 ≤ b ∧ ¬ b < (nl : Int)) ∨ r = true ∧ 0 ≤ b ∧ b < (nl : Int))) ∨
    (a = 2 ∧ (r = false ∧ b ≠ 0 ∨ r = true ∧ b = 0)) ∨ (a = 3 ∧ (r = false ∧ (¬ 0 ≤ b ∨ 0 ≤ b ∧ ¬ b < (nn : Int)) ∨ r = true ∧ 0 ≤ b ∧ b < (nn : Int))) := by
  rw [h]
  unfold symOk
  dsimp only
  repeat' split
  all_goals (simp only [decide_eq_false_iff_not, decide_eq_true_eq, Bool.false_eq_true, false_and, or_false, true_and]; omega)
set_option maxHeartbeats 4000000 in
theorem symbol76 (x : S85) (nl nn : Nat) (w : World) (hl : nl ≤ 9223372036854775807) (hn : nn ≤ 9223372036854775807) :
    Calls Tryz.prog 76 #[.agg #[.int .i64 x.f0, .int .i64 x.f1], .int .i64 nl, .int .i64 nn] w fun e w' => e = .returned (.bool (symOk x nl nn)) ∧ Below w.heap.size w w' := by
  obtain ⟨a, b⟩ := x
  dsimp only
  obtain ⟨r, hr⟩ : ∃ r, r = symOk ⟨a, b⟩ nl nn := ⟨_, rfl⟩
  rw [← hr]
  have D := sym_ways a b nl nn r hr
  have HB := Aside0.mk (Box.start w #[.int .i64 a, .int .i64 b] 85)
  clear hr
  rcases D with ⟨rfl, h, k1, k2⟩ | ⟨rfl, ⟨rfl, h | ⟨k1, h⟩⟩ | ⟨rfl, k1, k2⟩⟩ | ⟨rfl, ⟨rfl, h⟩ | ⟨rfl, rfl⟩⟩ | ⟨rfl, ⟨rfl, h | ⟨k1, h⟩⟩ | ⟨rfl, k1, k2⟩⟩
  all_goals
    try (first | replace h := bf h | replace h := df h); obtain ⟨h, h'⟩ := h
    try (replace k1 := bf k1); obtain ⟨k1, k1'⟩ := k1
    try (replace k2 := bf k2); obtain ⟨k2, k2'⟩ := k2
    go_enter Tryz.func76, Tryz.ntmps76
    go_wp2
    go_ret
    exact ⟨rfl, HB.out.1⟩
set_option maxHeartbeats 4000000 in
theorem symbol48 (lex : List S42) (names : List ByteArray) (start : Int) (prods : List S67) (x : S85) (A0 A1 A3 : Option Addr) (c0 c1 c3 : Nat) (w : World)
    (h0 : Kd.C k42 w A0 lex.length lex) (h1 : Kd.C Kd.string w A1 names.length names) (h3 : Kd.C k67 w A3 prods.length prods) (g0 : lex.length ≤ c0) (g1 : names.length ≤ c1) (g3 : prods.length ≤ c3) :
    Calls Tryz.prog 48 #[.agg #[.slice A0 lex.length c0, .slice A1 names.length c1, .int .i64 start, .slice A3 prods.length c3], .agg #[.int .i64 x.f0, .int .i64 x.f1]] w fun e w' => e = .returned (.bool (symOk x lex.length names.length)) ∧ Below w.heap.size w w' := by
  have m0 := Kd.C_max h0
  have m1 := Kd.C_max h1
  clear h0 h1 h3
  obtain ⟨a, b⟩ := x
  dsimp only
  obtain ⟨r, hr⟩ : ∃ r, r = symOk ⟨a, b⟩ lex.length names.length := ⟨_, rfl⟩
  rw [← hr]
  have D := sym_ways a b lex.length names.length r hr
  have HB := Aside0.mk ((Box.start w #[.slice A0 lex.length c0, .slice A1 names.length c1, .int .i64 start, .slice A3 prods.length c3] 28).alloc (.cells #[.int .i64 a, .int .i64 b] 85))
  clear hr
  rcases D with ⟨rfl, h, k1, k2⟩ | ⟨rfl, ⟨rfl, h | ⟨k1, h⟩⟩ | ⟨rfl, k1, k2⟩⟩ | ⟨rfl, ⟨rfl, h⟩ | ⟨rfl, rfl⟩⟩ | ⟨rfl, ⟨rfl, h | ⟨k1, h⟩⟩ | ⟨rfl, k1, k2⟩⟩
  all_goals
    try (first | replace h := bf h | replace h := df h); obtain ⟨h, h'⟩ := h
    try (replace k1 := bf k1); obtain ⟨k1, k1'⟩ := k1
    try (replace k2 := bf k2); obtain ⟨k2, k2'⟩ := k2
    go_enter Tryz.func48, Tryz.ntmps48
    go_wp2
    go_ret
    exact ⟨rfl, HB.out.1⟩
end Go.Proofs.YtpnkifincadakaaGreatDoor.Wr
end
