/- Proved: part 9 of the proof of PackReads (Crc). Conditions: each theorem states its own. -/
set_option linter.unusedVariables false
set_option linter.unusedSimpArgs false
section
namespace Go.Pk
def crcBit (r : Nat) : Nat := if r % 2 = 1 then (r / 2) ^^^ 3988292384 else r / 2
def crcTab : List Nat := [0,498536548,997073096,651767980,1994146192,1802195444,1303535960,1342533948,3988292384,4027552580,3604390888,3412177804,2607071920,2262029012,2685067896,3183342108]
theorem crcBit_xor (a b : Nat) : crcBit (a ^^^ b) = crcBit a ^^^ crcBit b := by
  have h1 : (a ^^^ b) / 2 = a / 2 ^^^ b / 2 := Nat.xor_div_two_pow (n := 1)
  have h2 : (a ^^^ b) % 2 = a % 2 ^^^ b % 2 := Nat.xor_mod_two_pow (n := 1)
  unfold crcBit
  rw [h1, h2]
  rcases Nat.mod_two_eq_zero_or_one a with ha | ha <;> rcases Nat.mod_two_eq_zero_or_one b with hb | hb <;> rw [ha, hb] <;> simp
  · rw [Nat.xor_assoc]
  · rw [Nat.xor_assoc, Nat.xor_assoc, Nat.xor_comm (b / 2)]
  · rw [Nat.xor_assoc, ← Nat.xor_assoc 3988292384, Nat.xor_comm 3988292384 (b / 2), Nat.xor_assoc, Nat.xor_self, Nat.xor_zero]
theorem crcBit_two (k : Nat) : crcBit (2 * k) = k := by
  unfold crcBit
  rw [if_neg (by omega)]
  omega
theorem crcBit_lt {r : Nat} (h : r < 4294967296) : crcBit r < 4294967296 := by
  unfold crcBit
  split
  · exact Nat.xor_lt_two_pow (n := 32) (by omega) (by omega)
  · omega
theorem split16 (r : Nat) : r = 16 * (r / 16) ^^^ r % 16 := by
  have h1 : (16 * (r / 16) ^^^ r % 16) / 16 = r / 16 := by
    have := Nat.xor_div_two_pow (a := 16 * (r / 16)) (b := r % 16) (n := 4)
    rw [show (2 : Nat) ^ 4 = 16 by rfl] at this
    rw [this, show 16 * (r / 16) / 16 = r / 16 by omega, show r % 16 / 16 = 0 by omega, Nat.xor_zero]
  have h2 : (16 * (r / 16) ^^^ r % 16) % 16 = r % 16 := by
    have := Nat.xor_mod_two_pow (a := 16 * (r / 16)) (b := r % 16) (n := 4)
    rw [show (2 : Nat) ^ 4 = 16 by rfl] at this
    rw [this, show 16 * (r / 16) % 16 = 0 by omega, show r % 16 % 16 = r % 16 by omega, Nat.zero_xor]
  omega
theorem crc_low : ∀ l, l < 16 → crcBit (crcBit (crcBit (crcBit l))) = crcTab.getD l 0 := by decide
theorem crc_four (r : Nat) : crcBit (crcBit (crcBit (crcBit r))) = r / 16 ^^^ crcTab.getD (r % 16) 0 := by
  conv => lhs; rw [split16 r]
  rw [crcBit_xor, crcBit_xor, crcBit_xor, crcBit_xor, crc_low (r % 16) (by omega), show 16 * (r / 16) = 2 * (2 * (2 * (2 * (r / 16)))) by omega, crcBit_two, crcBit_two, crcBit_two, crcBit_two]
def crcNib (r : Nat) : Nat := r / 16 ^^^ crcTab.getD (r % 16) 0
theorem crcNib_four (r : Nat) : crcNib r = crcBit (crcBit (crcBit (crcBit r))) := (crc_four r).symm
theorem crcNib_lt {r : Nat} (h : r < 4294967296) : crcNib r < 4294967296 := by
  rw [crcNib_four]
  exact crcBit_lt (crcBit_lt (crcBit_lt (crcBit_lt h)))
def crcByte (r c : Nat) : Nat := crcNib (crcNib (r ^^^ c))
theorem crcByte_lt {r c : Nat} (h : r < 4294967296) (hc : c < 256) : crcByte r c < 4294967296 := crcNib_lt (crcNib_lt (Nat.xor_lt_two_pow (n := 32) (by omega) (by omega)))
theorem crcByte_bits (r c : Nat) : crcByte r c = crcBit (crcBit (crcBit (crcBit (crcBit (crcBit (crcBit (crcBit (r ^^^ c)))))))) := by
  unfold crcByte
  rw [crcNib_four, crcNib_four]
def crcRun (xs : List Int) : Nat := xs.foldl (fun r c => crcByte r c.toNat) 4294967295
def Bytes (xs : List Int) : Prop := ∀ x, x ∈ xs → 0 ≤ x ∧ x < 256
theorem foldl_lt : ∀ (xs : List Int) (r : Nat), Bytes xs → r < 4294967296 → xs.foldl (fun r c => crcByte r c.toNat) r < 4294967296
  | [], _, _, h => h
  | c :: l, r, hx, h => foldl_lt l _ (fun x hm => hx x (List.mem_cons_of_mem _ hm)) (crcByte_lt h (by have := hx c (List.mem_cons_self ..); omega))
theorem crcRun_lt {xs : List Int} (h : Bytes xs) : crcRun xs < 4294967296 := foldl_lt xs _ h (by omega)
theorem crcRun_snoc (xs : List Int) (c : Int) : crcRun (xs ++ [c]) = crcByte (crcRun xs) c.toNat := by simp [crcRun]
theorem Bytes.take {xs : List Int} (h : Bytes xs) (k : Nat) : Bytes (xs.take k) := fun x hm => h x (List.mem_of_mem_take hm)
theorem Bytes.append {xs ys : List Int} (h : Bytes xs) (k : Bytes ys) : Bytes (xs ++ ys) := fun x hm => by
  rcases List.mem_append.1 hm with hm | hm
  · exact h x hm
  · exact k x hm
theorem Bytes.nil : Bytes [] := fun x hm => by cases hm
def crc (xs : List Int) : Nat := 4294967295 - crcRun xs
theorem crc_lt (xs : List Int) : crc xs < 4294967296 := by unfold crc; omega
theorem take_snoc {α : Type} (xs : List α) (k : Nat) (h : k < xs.length) : xs.take (k + 1) = xs.take k ++ [xs[k]] := List.take_succ_eq_append_getElem h
theorem crcTab_get (r : Nat) : crcTab[r % 16]? = some (crcTab.getD (r % 16) 0) := by
  have h : r % 16 < crcTab.length := by show r % 16 < 16; omega
  rw [List.getD_eq_getElem?_getD, List.getElem?_eq_getElem h]
  rfl
theorem crcTab_lt : ∀ k, k < 16 → crcTab.getD k 0 < 4294967296 := by decide
end Go.Pk
end
