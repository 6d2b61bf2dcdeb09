/- Proved: part 10 of the proof of PackReads (Sum). Conditions: each theorem states its own. -/
import Derived.IntWalk
import Derived.Laws.BitsAllLaws
import Derived.Lib.Hide
import Derived.Outline
import Derived.Test.YtpnkifincadakaaGreatDoorP8
import Derived.Test.YtpnkifincadakaaGreatDoorP9
set_option linter.unusedVariables false
set_option linter.unusedSimpArgs false
section
namespace Go.Am
open Go.Proofs Go.RowKit Go.Pk
def TabVar (w : World) : Prop := ∀ (j : Nat) (v : Nat), crcTab[j]? = some v → w.cell? ⟨0, j, none⟩ = some (.int .u32 (v : Int))
theorem nib_bits (r : Nat) (h : r < 4294967296) : bits .and .u32 (r : Int) 15 = ((r % 16 : Nat) : Int) := by
  have := u32_and_nat r 15 h (by omega)
  rw [nat_mask4] at this
  exact this
theorem nib_xor (r : Nat) (h : r < 4294967296) : bits .xor .u32 ((r : Int) / 16) ((crcTab.getD (r % 16) 0 : Nat) : Int) = (crcNib r : Int) := by
  have := u32_xor_nat (r / 16) (crcTab.getD (r % 16) 0) (by omega) (crcTab_lt _ (by omega))
  rw [← show ((r / 16 : Nat) : Int) = (r : Int) / 16 by omega]
  exact this
theorem byte_xor (r : Nat) (c : Int) (h : r < 4294967296) (h0 : 0 ≤ c) (h1 : c < 256) : bits .xor .u32 (r : Int) c = ((r ^^^ c.toNat : Nat) : Int) := by
  have := u32_xor (r : Int) c (by omega) (by omega) h0 (by omega)
  simpa using this
def nibs (y : Nat) : Nat → Nat
  | 0 => y
  | j + 1 => crcNib (nibs y j)
theorem nibs_lt {y : Nat} (h : y < 4294967296) : ∀ j, nibs y j < 4294967296
  | 0 => h
  | j + 1 => crcNib_lt (nibs_lt h j)
theorem not_u32 (r : Nat) (h : r < 4294967296) : bits .xor .u32 IntKind.u32.max (r : Int) = ((4294967295 - r : Nat) : Int) := by
  have h1 := u32_xor_nat 4294967295 r (by omega) h
  have h2 : 4294967295 ^^^ r = 4294967295 - r := by
    have h3 : (BitVec.allOnes 32 ^^^ BitVec.ofNat 32 r).toNat = 4294967295 - r := by
      rw [BitVec.allOnes_xor, BitVec.toNat_not, BitVec.toNat_ofNat, Nat.mod_eq_of_lt (by omega)]
    rw [← h3, BitVec.toNat_xor, BitVec.toNat_allOnes, BitVec.toNat_ofNat, Nat.mod_eq_of_lt (by omega)]
  rw [h2] at h1
  exact h1
set_option maxHeartbeats 2000000 in
set_option maxRecDepth 100000 in
theorem sum_any (A : Option Addr) (n c : Nat) (xs : List Int) (w : World) (hT : TabVar w) (hn : xs.length = n) (hnm : n ≤ 9223372036854775807) (hb : Bytes xs)
    (hr : ∀ j x, xs[j]? = some x → ∃ ad, A = some ad ∧ w.cell? (ad.add j) = some (.int .u8 x)) :
    Calls Tryz.prog 80 #[.slice A n c] w fun e w' => e = .returned (.int .u32 (crc xs)) ∧ w = w' := by
  have HT := Lib.hid hT; clear hT
  have HB := Lib.hid hb; clear hb
  have HR := Lib.hid hr; clear hr
  subst hn
  go_enter Tryz.func80, Tryz.ntmps80
  go_wp2
  go_loop [3, 8] (fun r i => ∃ k : Nat, k ≤ xs.length ∧ i = .int .i64 k ∧ r = .int .u32 (crcRun (xs.take k) : Nat)) (fun _ i => xs.length - (intOf i).toNat)
  case atStart => exact ⟨0, Nat.zero_le _, rfl, rfl⟩
  case round =>
    obtain ⟨k, hk, rfl, rfl⟩ := hrel
    by_cases hlt : k < xs.length
    · obtain ⟨ad, rfl, hc⟩ := HR.out k xs[k] (List.getElem?_eq_getElem hlt)
      have hx := HB.out xs[k] (List.getElem_mem hlt)
      have hr0 := crcRun_lt (HB.out.take k)
      have HS : Hid (crcRun (xs.take (k + 1)) = nibs (crcRun (xs.take k) ^^^ (xs[k]).toNat) 2) := by rw [take_snoc xs k hlt]; exact crcRun_snoc _ _
      have hy := byte_xor (crcRun (xs.take k)) xs[k] hr0 hx.1 hx.2
      have hr1 : crcRun (xs.take k) ^^^ (xs[k]).toNat < 4294967296 := Nat.xor_lt_two_pow (n := 32) (by omega) (by omega)
      generalize crcRun (xs.take k) = r at *
      generalize xs[k] = x at *
      obtain ⟨hx0, hx1⟩ := hx
      go_wp2
      generalize r ^^^ x.toNat = y at *
      go_loop [3, 16] (fun t i => ∃ j : Nat, j ≤ 2 ∧ i = .int .i64 j ∧ t = .int .u32 (nibs y j : Nat)) (fun _ i => 2 - (intOf i).toNat)
      case atStart => exact ⟨0, Nat.zero_le _, rfl, rfl⟩
      case round =>
        obtain ⟨j, hj, rfl, rfl⟩ := hrel
        by_cases hlt2 : j < 2
        · have hz := nibs_lt hr1 j
          have HZ : Hid (nibs y (j + 1) = crcNib (nibs y j)) := Lib.hid rfl
          generalize nibs y j = z at *
          have hn1 := nib_bits z hz
          have hn2 := nib_xor z hz
          have hc2 := HT.out (z % 16) _ (crcTab_get z)
          have hz16 : z % 16 < 16 := by omega
          generalize crcTab.getD (z % 16) 0 = tz at *
          go_wp2
          go_round
          case rel => exact ⟨j + 1, by omega, by go_num, by rw [HZ.out]⟩
          case measure => simp [intOf]; omega
        · obtain rfl : j = 2 := by omega
          go_wp2
          go_round
          case rel => exact ⟨k + 1, by omega, by go_num, by rw [HS.out]⟩
          case measure => simp [intOf]; omega
    · obtain rfl : k = xs.length := by omega
      have hr0 := crcRun_lt HB.out
      have HE : Hid (xs.take xs.length = xs) := Lib.hid (List.take_length ..)
      rw [HE.out]
      have hn := not_u32 _ hr0
      go_wp2
      go_ret
      exact ⟨rfl, rfl⟩
end Go.Am
end
