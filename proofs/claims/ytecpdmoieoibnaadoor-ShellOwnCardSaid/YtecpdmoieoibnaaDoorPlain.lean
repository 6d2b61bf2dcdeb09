/- Proved: plain facts on the byte machine of the shell's words; no program in sight. Conditions: none. -/
import Derived.Lib.DecodeN
import Derived.Laws.RangeAny
import Derived.Shelf.GgClosure.StringsTrimFunc
set_option linter.unusedVariables false
namespace Go.Proofs.YtecpdmoieoibnaaDoor.Pl

/-! ### The machine of the document's words, a byte a step -/
inductive Mode where
  | btw | bare | quo | esc | high | low (d : Int) | behind | comm

def Mode.code : Mode → Int
  | .btw => 0 | .bare => 1 | .quo => 2 | .esc => 3 | .high => 4 | .low _ => 5 | .behind => 6 | .comm => 7

structure St where
  m : Mode
  word : List UInt8
  words : List (List UInt8)
  bad : Bool

def hex (c : UInt8) : Int :=
  if 48 ≤ c.toNat ∧ c.toNat ≤ 57 then (c.toNat : Int) - 48
  else if 97 ≤ c.toNat ∧ c.toNat ≤ 102 then (c.toNat : Int) - 87
  else if 65 ≤ c.toNat ∧ c.toNat ≤ 70 then (c.toNat : Int) - 55 else -1

theorem hex_range (c : UInt8) : -1 ≤ hex c ∧ hex c ≤ 15 := by
  unfold hex
  repeat' split
  all_goals omega

def isBlank (c : UInt8) : Bool := c.toNat == 32 || c.toNat == 9
/-- A byte that no bare word holds. -/
def isBar (c : UInt8) : Bool := decide (c.toNat < 32) || c.toNat == 127 || c.toNat == 34 || c.toNat == 92
def isCtl (c : UInt8) : Bool := decide (c.toNat < 32) || c.toNat == 127
def byteOf (n : Int) : UInt8 := UInt8.ofNat n.toNat

def plain (s : St) (c : UInt8) : St := { s with word := s.word ++ [c], bad := s.bad || isBar c }
def ends (s : St) : St := { s with words := s.words ++ [s.word], word := [] }
def first (s : St) (c : UInt8) : St :=
  if isBlank c then { s with m := .btw } else if c.toNat = 35 then { s with m := .comm } else if c.toNat = 34 then { s with m := .quo } else plain { s with m := .bare } c
def inside (s : St) (c : UInt8) : St :=
  if c.toNat = 34 then { ends s with m := .behind } else if c.toNat = 92 then { s with m := .esc } else if isCtl c then { s with bad := true } else { s with word := s.word ++ [c] }
def escaped (s : St) (c : UInt8) : St :=
  if c.toNat = 92 ∨ c.toNat = 34 then { s with m := .quo, word := s.word ++ [c] } else if c.toNat = 110 then { s with m := .quo, word := s.word ++ [10] }
  else if c.toNat = 116 then { s with m := .quo, word := s.word ++ [9] } else if c.toNat = 120 then { s with m := .high } else { s with m := .quo, bad := true }
def step (s : St) (c : UInt8) : St :=
  match s.m with
  | .btw => first s c
  | .bare => if isBlank c then { ends s with m := .btw } else plain s c
  | .quo => inside s c
  | .esc => escaped s c
  | .high => { s with m := .low (hex c), bad := s.bad || decide (hex c < 0) }
  | .low d => if hex c < 0 then { s with m := .quo, bad := true } else { s with m := .quo, word := s.word ++ [byteOf (16 * d + hex c)] }
  | .behind => { s with m := .btw, bad := s.bad || !isBlank c }
  | .comm => s

def fin (s : St) : Option (List (List UInt8)) :=
  if s.bad then none else match s.m with
  | .bare => some (s.words ++ [s.word])
  | .btw | .behind | .comm => some s.words
  | _ => none
def run (s : St) : List UInt8 → Option (List (List UInt8))
  | [] => fin s
  | c :: r => if s.bad then none else run (step s c) r
def start : St := { m := .btw, word := [], words := [], bad := false }
/-- The words of a line of at most MaxScript bytes; none: it is refused. -/
def wordsOf (l : List UInt8) : Option (List (List UInt8)) := run start l

theorem run_bad (s : St) (l : List UInt8) (h : s.bad = true) : run s l = none := by
  cases l <;> simp [run, fin, h]
theorem run_cons (s : St) (c : UInt8) (r : List UInt8) (h : s.bad = false) : run s (c :: r) = run (step s c) r := by simp [run, h]
theorem run_comm (w : List UInt8) (ws : List (List UInt8)) : ∀ l, run ⟨.comm, w, ws, false⟩ l = some ws
  | [] => rfl
  | c :: r => by rw [run_cons _ _ _ rfl]; exact run_comm w ws r

/-! ### Bytes and runes -/
theorem byte_lt (c : UInt8) : c.toNat < 256 := c.toNat_lt

theorem get_bang (s : ByteArray) (k : Nat) (h : k < s.size) : s.get! k = s[k]'h := by
  have := get_at s k h
  simpa using this

/-- Every byte of a rune of several bytes is at least 128; it lies in the string. -/
theorem decode_tail (s : ByteArray) (pos : Nat) (h : pos < s.size) (ha : 128 ≤ (s[pos]'h).toNat) :
    pos + (Utf8.decode s pos).2 ≤ s.size ∧ ∀ k (hk : k < s.size), pos ≤ k → k < pos + (Utf8.decode s pos).2 → 128 ≤ (s[k]'hk).toNat := by
  have h0 : (s.get! pos).toNat = (s[pos]'h).toNat := by rw [get_bang s pos h]
  have b1 : ∀ k (hk : k < s.size), (s.get! k).toNat = (s[k]'hk).toNat := fun k hk => by rw [get_bang s k hk]
  have key : ∀ w, w = (Utf8.decode s pos).2 → pos + w ≤ s.size ∧ (w ≤ 1 ∨ (w ≤ 4 ∧ (∀ j, 1 ≤ j → j < w → 128 ≤ (s.get! (pos + j)).toNat))) := by
    intro w hw
    rw [Lib.decode_at] at hw
    unfold Lib.decodeN at hw
    have n0 : ¬ (s.get! pos).toNat < 128 := by omega
    rw [if_neg n0] at hw
    split at hw
    · rename_i h1
      split at hw
      · subst hw
        refine ⟨by omega, .inr ⟨by omega, fun j hj1 hj2 => ?_⟩⟩
        obtain rfl : j = 1 := by omega
        have := h1.2.2
        omega
      · subst hw; exact ⟨by omega, .inl (by omega)⟩
    · split at hw
      · rename_i h1
        split at hw
        · subst hw
          refine ⟨by omega, .inr ⟨by omega, fun j hj1 hj2 => ?_⟩⟩
          have e1 := h1.2.1.2
          have e2 := h1.2.2.2
          rcases (show j = 1 ∨ j = 2 by omega) with rfl | rfl
          · omega
          · omega
        · subst hw; exact ⟨by omega, .inl (by omega)⟩
      · split at hw
        · rename_i h1
          split at hw
          · subst hw
            refine ⟨by omega, .inr ⟨by omega, fun j hj1 hj2 => ?_⟩⟩
            have e1 := h1.2.1.2
            have e2 := h1.2.2.1.2
            have e3 := h1.2.2.2.2
            rcases (show j = 1 ∨ j = 2 ∨ j = 3 by omega) with rfl | rfl | rfl
            · omega
            · omega
            · omega
          · subst hw; exact ⟨by omega, .inl (by omega)⟩
        · subst hw; exact ⟨by omega, .inl (by omega)⟩
  obtain ⟨k1, k2⟩ := key _ rfl
  refine ⟨k1, fun k hk hp hlt => ?_⟩
  by_cases e : k = pos
  · subst e; exact ha
  · rcases k2 with k2 | ⟨_, k2⟩
    · omega
    · have := k2 (k - pos) (by omega) (by omega)
      rw [show pos + (k - pos) = k by omega, b1 k hk] at this
      exact this

/-- The bytes from a place on. -/
def from_ (s : ByteArray) (k : Nat) : List UInt8 := s.data.toList.drop k
theorem from_lt (s : ByteArray) (k : Nat) (h : k < s.size) : from_ s k = (s[k]'h) :: from_ s (k + 1) := by
  unfold from_
  rw [List.drop_eq_getElem_cons (by simpa using h)]
  rfl
theorem from_ge (s : ByteArray) (k : Nat) (h : s.size ≤ k) : from_ s k = [] := by
  unfold from_
  exact List.drop_eq_nil_of_le (by simpa using h)
theorem from_zero (s : ByteArray) : from_ s 0 = s.data.toList := rfl
theorem from_len (s : ByteArray) (k : Nat) : (from_ s k).length = s.size - k := by simp [from_]
/-- A stretch of bytes. -/
def cut (s : ByteArray) (i j : Nat) : List UInt8 := (s.extract i j).data.toList
theorem cut_eq (s : ByteArray) (i j : Nat) : cut s i j = (s.data.toList.drop i).take (j - i) := by
  simp [cut, List.extract_eq_take_drop]
theorem cut_self (s : ByteArray) (i : Nat) : cut s i i = [] := by rw [cut_eq]; simp
theorem cut_snoc (s : ByteArray) (i j : Nat) (hi : i ≤ j) (h : j < s.size) : cut s i (j + 1) = cut s i j ++ [s[j]'h] := by
  rw [cut_eq, cut_eq, show j + 1 - i = (j - i) + 1 by omega, List.take_add_one]
  congr 1
  rw [List.getElem?_drop, show i + (j - i) = j by omega, List.getElem?_eq_getElem (by simpa using h)]
  rfl
theorem from_extract (s : ByteArray) (n : Nat) : (s.extract n s.size).data.toList = from_ s n := by
  have := cut_eq s n s.size
  unfold cut at this
  rw [this]
  unfold from_
  exact List.take_of_length_le (by simp)

/-! ### Bytes of 128 and more -/
theorem high_facts (c : UInt8) (h : 128 ≤ c.toNat) : isBlank c = false ∧ isBar c = false ∧ isCtl c = false ∧ c.toNat ≠ 34 ∧ c.toNat ≠ 92 ∧ c.toNat ≠ 35 := by
  refine ⟨?_, ?_, ?_, by omega, by omega, by omega⟩
  · simp [isBlank]; omega
  · simp [isBar]; omega
  · simp [isCtl]; omega

/-- In a bare word: bytes of 128 and more go in. -/
theorem run_bare_high (s : ByteArray) (ws : List (List UInt8)) : ∀ (n i : Nat) (w : List UInt8), i + n ≤ s.size → (∀ k (hk : k < s.size), i ≤ k → k < i + n → 128 ≤ (s[k]'hk).toNat) →
    run ⟨.bare, w, ws, false⟩ (from_ s i) = run ⟨.bare, w ++ cut s i (i + n), ws, false⟩ (from_ s (i + n))
  | 0, i, w, _, _ => by simp [cut_self]
  | n + 1, i, w, hn, h => by
    have hi : i < s.size := by omega
    obtain ⟨f1, f2, f3, f4, f5, f6⟩ := high_facts _ (h i hi (Nat.le_refl _) (by omega))
    rw [from_lt s i hi, run_cons _ _ _ rfl]
    have e : step ⟨.bare, w, ws, false⟩ (s[i]'hi) = ⟨.bare, w ++ [s[i]'hi], ws, false⟩ := by
      simp [step, f1, plain, f2]
    rw [e, run_bare_high s ws n (i + 1) _ (by omega) (fun k hk h1 h2 => h k hk (by omega) (by omega))]
    rw [show i + 1 + n = i + (n + 1) by omega]
    congr 2
    rw [List.append_assoc]
    congr 1
    rw [cut_eq, cut_eq, show i + (n + 1) - (i + 1) = n by omega, show i + (n + 1) - i = n + 1 by omega]
    rw [List.drop_eq_getElem_cons (show i < s.data.toList.length by simpa using hi)]
    simp [List.take_succ_cons]
    rfl
/-- In a quoted word likewise. -/
theorem run_quo_high (s : ByteArray) (ws : List (List UInt8)) : ∀ (n i : Nat) (w : List UInt8), i + n ≤ s.size → (∀ k (hk : k < s.size), i ≤ k → k < i + n → 128 ≤ (s[k]'hk).toNat) →
    run ⟨.quo, w, ws, false⟩ (from_ s i) = run ⟨.quo, w ++ cut s i (i + n), ws, false⟩ (from_ s (i + n))
  | 0, i, w, _, _ => by simp [cut_self]
  | n + 1, i, w, hn, h => by
    have hi : i < s.size := by omega
    obtain ⟨f1, f2, f3, f4, f5, f6⟩ := high_facts _ (h i hi (Nat.le_refl _) (by omega))
    rw [from_lt s i hi, run_cons _ _ _ rfl]
    have e : step ⟨.quo, w, ws, false⟩ (s[i]'hi) = ⟨.quo, w ++ [s[i]'hi], ws, false⟩ := by
      simp [step, inside, f3, f4, f5]
    rw [e, run_quo_high s ws n (i + 1) _ (by omega) (fun k hk h1 h2 => h k hk (by omega) (by omega))]
    rw [show i + 1 + n = i + (n + 1) by omega]
    congr 2
    rw [List.append_assoc]
    congr 1
    rw [cut_eq, cut_eq, show i + (n + 1) - (i + 1) = n by omega, show i + (n + 1) - i = n + 1 by omega]
    rw [List.drop_eq_getElem_cons (show i < s.data.toList.length by simpa using hi)]
    simp [List.take_succ_cons]
    rfl

/-! ### strings.TrimLeftFunc with blanks -/
def blankP (r : Nat) : Bool := r == 32 || r == 9
theorem trim_from (s : ByteArray) (ws : List (List UInt8)) : ∀ (f pos : Nat), s.size ≤ pos + f → pos ≤ s.size →
    (Lib.idxFuncFrom blankP false s f pos = -1 ∧ run ⟨.btw, [], ws, false⟩ (from_ s pos) = some ws) ∨
    ∃ j, ∃ hj : j < s.size, Lib.idxFuncFrom blankP false s f pos = (j : Int) ∧ isBlank (s[j]'hj) = false ∧ run ⟨.btw, [], ws, false⟩ (from_ s pos) = run ⟨.btw, [], ws, false⟩ (from_ s j)
  | 0, pos, h, hp => by
    left
    refine ⟨rfl, ?_⟩
    rw [from_ge s pos (by omega)]
    rfl
  | f + 1, pos, h, hp => by
    by_cases hlt : pos < s.size
    · by_cases ha : (s[pos]'hlt).toNat < 128
      · have hd := decode_ascii s pos hlt ha
        by_cases hb : isBlank (s[pos]'hlt) = true
        · have hp1 : blankP (s[pos]'hlt).toNat = true := hb
          have e : Lib.idxFuncFrom blankP false s (f + 1) pos = Lib.idxFuncFrom blankP false s f (pos + 1) := by
            simp only [Lib.idxFuncFrom, hd]
            rw [if_pos hlt, if_neg (by rw [hp1]; simp)]
          have r : run ⟨.btw, [], ws, false⟩ (from_ s pos) = run ⟨.btw, [], ws, false⟩ (from_ s (pos + 1)) := by
            rw [from_lt s pos hlt, run_cons _ _ _ rfl]
            simp [step, first, hb]
          rw [e, r]
          exact trim_from s ws f (pos + 1) (by omega) (by omega)
        · right
          have hb' : isBlank (s[pos]'hlt) = false := by simpa using hb
          have hp1 : blankP (s[pos]'hlt).toNat = false := hb'
          refine ⟨pos, hlt, ?_, hb', rfl⟩
          simp only [Lib.idxFuncFrom, hd]
          rw [if_pos hlt, if_pos hp1]
      · right
        have hd := decode_high s pos hlt (by omega)
        have hp1 : blankP (Utf8.decode s pos).1 = false := by simp [blankP]; omega
        refine ⟨pos, hlt, ?_, (high_facts _ (by omega)).1, rfl⟩
        simp only [Lib.idxFuncFrom]
        rw [if_pos hlt, if_pos hp1]
    · left
      refine ⟨Lib.idxFuncFrom_end _ _ _ _ _ hlt, ?_⟩
      rw [from_ge s pos (by omega)]
      rfl

/-- What TrimLeftFunc leaves: it is empty and so is the rest of the words, or it begins with a byte that is no blank, and the words are the same. -/
theorem trim_run (s : ByteArray) (ws : List (List UInt8)) :
    ((Lib.trimLeftF blankP s).size = 0 ∧ run ⟨.btw, [], ws, false⟩ s.data.toList = some ws) ∨
    ∃ h0 : 0 < (Lib.trimLeftF blankP s).size, isBlank ((Lib.trimLeftF blankP s)[0]'h0) = false ∧ (Lib.trimLeftF blankP s).size ≤ s.size ∧
      run ⟨.btw, [], ws, false⟩ s.data.toList = run ⟨.btw, [], ws, false⟩ (Lib.trimLeftF blankP s).data.toList := by
  rcases trim_from s ws s.size 0 (by omega) (by omega) with ⟨h1, h2⟩ | ⟨j, hj, h1, h2, h3⟩
  · left
    refine ⟨?_, h2⟩
    have : Lib.idxFunc blankP false s = -1 := h1
    simp [Lib.trimLeftF, this]
    rfl
  · right
    have e : Lib.trimLeftF blankP s = s.extract j s.size := by
      have : Lib.idxFunc blankP false s = (j : Int) := h1
      simp [Lib.trimLeftF, this]
    have hd : (s.extract j s.size).data.toList = from_ s j := from_extract s j
    have hs : (s.extract j s.size).size = s.size - j := by simp
    rw [e]
    have h0 : 0 < (s.extract j s.size).size := by omega
    have hg : (s.extract j s.size)[0]'h0 = s[j]'hj := by
      have a : (s.extract j s.size).data.toList[0]? = some ((s.extract j s.size)[0]'h0) := by
        rw [List.getElem?_eq_getElem (by simpa using h0)]; rfl
      rw [hd, from_lt s j hj] at a
      simpa using a.symm
    refine ⟨h0, by rw [hg]; exact h2, by omega, ?_⟩
    rw [hd]
    exact h3
end Go.Proofs.YtecpdmoieoibnaaDoor.Pl
