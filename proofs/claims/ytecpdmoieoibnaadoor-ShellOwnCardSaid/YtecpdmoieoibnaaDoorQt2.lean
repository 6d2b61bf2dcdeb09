/- Proved: the shell's Quote writes the quoted word (by the printed function), and the machine reads it back. Conditions: less than a million bytes. -/
import Derived.Test.YtecpdmoieoibnaaDoorQt
import Derived.Test.YtecpdmoieoibnaaDoorPShellQuotesx2
set_option linter.unusedVariables false
set_option linter.unusedSimpArgs false
namespace Go.Proofs.YtecpdmoieoibnaaDoor.Qt
open Go.RowKit Go.Lib Go.Proofs.YtecpdmoieoibnaaDoorW.PrintWords Go.Proofs.YtecpdmoieoibnaaDoorW.PrintLast Go.Proofs.YtecpdmoieoibnaaDoorW.PrintMore
open Go.Proofs.YtecpdmoieoibnaaDoor.PShellQuotes (shell_Quote.f shell_Quote.l0 shell_Quote.j1)

/-! ### The machine reads a quoted word back -/
theorem hex_hexd : ∀ m, m < 16 → Pl.hex (hexd m) = (m : Int) ∧ (hexd m).toNat < 128 := by
  intro m h
  have key : ∀ k : Fin 16, Pl.hex (hexd k.val) = (k.val : Int) ∧ (hexd k.val).toNat < 128 := by decide +kernel
  exact key ⟨m, h⟩
theorem byte_back (c : UInt8) : Pl.byteOf (16 * ((c.toNat / 16 : Nat) : Int) + ((c.toNat % 16 : Nat) : Int)) = c := by
  have h : (16 * ((c.toNat / 16 : Nat) : Int) + ((c.toNat % 16 : Nat) : Int)) = (c.toNat : Int) := by omega
  rw [h]
  simp [Pl.byteOf]
theorem u8_of {c : UInt8} {n : Nat} (h : c.toNat = n) : c = UInt8.ofNat n := by subst h; simp
theorem run_quoteB (c : UInt8) (w : List UInt8) (ws : List (List UInt8)) (rest : List UInt8) : Pl.run ⟨.quo, w, ws, false⟩ (quoteB c ++ rest) = Pl.run ⟨.quo, w ++ [c], ws, false⟩ rest := by
  have hlt := Pl.byte_lt c
  rcases quo_ways c with t0 | ⟨t0, t1⟩ | ⟨t0, t1, t2⟩ | ⟨t0, t1, t2, t3⟩ | ⟨t0, t1, t2, t3, t4⟩ | ⟨t0, t1, t2, t3, t4, t5⟩ | ⟨t0, t1, t2, t3, t4, t5⟩
  · have e := u8_of t0; subst e; rfl
  · have e := u8_of t1; subst e; rfl
  · have e := u8_of t2; subst e; rfl
  · have e := u8_of t3; subst e; rfl
  · have hq : quoteB c = [92, 120, hexd (c.toNat / 16), hexd (c.toNat % 16)] := by simp [quoteB, t0, t1, t2, t3, t4]
    obtain ⟨a1, a2⟩ := hex_hexd (c.toNat / 16) (by omega)
    obtain ⟨b1, b2⟩ := hex_hexd (c.toNat % 16) (by omega)
    rw [hq]
    show Pl.run ⟨.quo, w, ws, false⟩ (92 :: 120 :: hexd (c.toNat / 16) :: hexd (c.toNat % 16) :: rest) = _
    rw [Pl.run_cons _ _ _ rfl, Pl.run_cons _ _ _ rfl, Pl.run_cons _ _ _ rfl]
    have s1 : Pl.step (Pl.step (Pl.step ⟨.quo, w, ws, false⟩ 92) 120) (hexd (c.toNat / 16)) = ⟨.low ((c.toNat / 16 : Nat) : Int), w, ws, false⟩ := by
      have : ¬ (((c.toNat / 16 : Nat) : Int) < 0) := by omega
      show Pl.step ⟨.high, w, ws, false⟩ (hexd (c.toNat / 16)) = _
      simp only [Pl.step, a1, this, decide_false, Bool.or_self]
    rw [s1, Pl.run_cons _ _ _ rfl]
    have s2 : Pl.step ⟨.low ((c.toNat / 16 : Nat) : Int), w, ws, false⟩ (hexd (c.toNat % 16)) = ⟨.quo, w ++ [c], ws, false⟩ := by
      have : ¬ (((c.toNat % 16 : Nat) : Int) < 0) := by omega
      simp only [Pl.step, b1, this, if_false, byte_back]
    rw [s2]
  · have hq : quoteB c = [92, 120, hexd (c.toNat / 16), hexd (c.toNat % 16)] := by simp [quoteB, t0, t1, t2, t3, t5]
    obtain ⟨a1, a2⟩ := hex_hexd (c.toNat / 16) (by omega)
    obtain ⟨b1, b2⟩ := hex_hexd (c.toNat % 16) (by omega)
    rw [hq]
    show Pl.run ⟨.quo, w, ws, false⟩ (92 :: 120 :: hexd (c.toNat / 16) :: hexd (c.toNat % 16) :: rest) = _
    rw [Pl.run_cons _ _ _ rfl, Pl.run_cons _ _ _ rfl, Pl.run_cons _ _ _ rfl]
    have s1 : Pl.step (Pl.step (Pl.step ⟨.quo, w, ws, false⟩ 92) 120) (hexd (c.toNat / 16)) = ⟨.low ((c.toNat / 16 : Nat) : Int), w, ws, false⟩ := by
      have : ¬ (((c.toNat / 16 : Nat) : Int) < 0) := by omega
      show Pl.step ⟨.high, w, ws, false⟩ (hexd (c.toNat / 16)) = _
      simp only [Pl.step, a1, this, decide_false, Bool.or_self]
    rw [s1, Pl.run_cons _ _ _ rfl]
    have s2 : Pl.step ⟨.low ((c.toNat / 16 : Nat) : Int), w, ws, false⟩ (hexd (c.toNat % 16)) = ⟨.quo, w ++ [c], ws, false⟩ := by
      have : ¬ (((c.toNat % 16 : Nat) : Int) < 0) := by omega
      simp only [Pl.step, b1, this, if_false, byte_back]
    rw [s2]
  · have hq : quoteB c = [c] := by simp only [quoteB]; rw [if_neg (by omega), if_neg t2, if_neg t3, if_neg (by omega)]
    have hc : Pl.isCtl c = false := by simp [Pl.isCtl]; omega
    rw [hq]
    show Pl.run ⟨.quo, w, ws, false⟩ (c :: rest) = _
    rw [Pl.run_cons _ _ _ rfl]
    simp [Pl.step, Pl.inside, t0, t1, hc]
theorem run_flat : ∀ (l : List UInt8) (w : List UInt8) (ws : List (List UInt8)) (rest : List UInt8), Pl.run ⟨.quo, w, ws, false⟩ (l.flatMap quoteB ++ rest) = Pl.run ⟨.quo, w ++ l, ws, false⟩ rest
  | [], w, ws, rest => by simp
  | c :: r, w, ws, rest => by
    rw [List.flatMap_cons, List.append_assoc, run_quoteB, run_flat r]
    simp
theorem run_quoteL (l : List UInt8) (ws : List (List UInt8)) (rest : List UInt8) : Pl.run ⟨.btw, [], ws, false⟩ (quoteL l ++ rest) = Pl.run ⟨.behind, [], ws ++ [l], false⟩ rest := by
  show Pl.run ⟨.btw, [], ws, false⟩ (34 :: ((l.flatMap quoteB ++ [34]) ++ rest)) = _
  rw [Pl.run_cons _ _ _ rfl, List.append_assoc]
  show Pl.run ⟨.quo, [], ws, false⟩ (l.flatMap quoteB ++ (34 :: rest)) = _
  rw [run_flat, Pl.run_cons _ _ _ rfl]
  rfl
theorem words_quote (l : List UInt8) : Pl.wordsOf (quoteL l) = some [l] := by
  have := run_quoteL l [] []
  rw [List.append_nil] at this
  exact this
theorem quoteL_len (l : List UInt8) : (quoteL l).length ≤ 4 * l.length + 2 := by
  have := flat_len l
  simp only [quoteL, List.length_cons, List.length_append, List.length_nil]
  omega

/-! ### The printed function writes it -/
def ints (l : List UInt8) : List Int := l.map fun b => (b.toNat : Int)
theorem bits15 (c : UInt8) : Go.bits .and .u8 (c.toNat : Int) 15 = ((c.toNat % 16 : Nat) : Int) := by
  have key : ∀ k : Fin 256, Go.bits .and .u8 (k.val : Int) 15 = ((k.val % 16 : Nat) : Int) := by decide +kernel
  exact key ⟨c.toNat, Pl.byte_lt c⟩
theorem bt_digit (m : Nat) (h : m < 16) : bt (⟨#[48, 49, 50, 51, 52, 53, 54, 55, 56, 57, 97, 98, 99, 100, 101, 102]⟩ : ByteArray) (m : Int) = ((hexd m).toNat : Int) := by
  have key : ∀ k : Fin 16, bt (⟨#[48, 49, 50, 51, 52, 53, 54, 55, 56, 57, 97, 98, 99, 100, 101, 102]⟩ : ByteArray) (k.val : Int) = ((hexd k.val).toNat : Int) := by decide +kernel
  exact key ⟨m, h⟩
theorem ints_append (a b : List UInt8) : ints (a ++ b) = ints a ++ ints b := by simp [ints]
theorem rd_ints (l : List UInt8) (i : Nat) (h : i < l.length) : rd (ints l) (i : Int) = (l[i].toNat : Int) := by
  simp [rd, ints, h]
theorem sq_step (k : Nat) (acc : List UInt8) (xs : List Int) (c : UInt8) (n i : Int) (h : acc.length < 1000000) :
    (if (c.toNat : Int) = 34 then shell_Quote.j1 (k + 1) (ints acc) (c.toNat : Int) xs n i true else shell_Quote.j1 (k + 1) (ints acc) (c.toNat : Int) xs n i ((c.toNat : Int) == 92)) = shell_Quote.l0 k (ints (acc ++ quoteB c)) xs n (wrap64 (i + 1)) := by
  have hlt := Pl.byte_lt c
  have hla : (ints acc).length = acc.length := by simp [ints]
  have hdiv : ((c.toNat : Int) / 16) = ((c.toNat / 16 : Nat) : Int) := by omega
  have k1 := bt_digit (c.toNat / 16) (by omega)
  have k2 := bt_digit (c.toNat % 16) (by omega)
  rcases quo_ways c with t0 | ⟨t0, t1⟩ | ⟨t0, t1, t2⟩ | ⟨t0, t1, t2, t3⟩ | ⟨t0, t1, t2, t3, t4⟩ | ⟨t0, t1, t2, t3, t4, t5⟩ | ⟨t0, t1, t2, t3, t4, t5⟩
  · have hq : quoteB c = [92, c] := by simp [quoteB, t0]
    rw [if_pos (by omega), hq, ints_append]
    simp only [shell_Quote.j1, Option.bind_some, if_true]
    rw [if_pos (by simp; omega)]
    rfl
  · have hq : quoteB c = [92, c] := by simp [quoteB, t1]
    rw [if_neg (by omega), hq, ints_append]
    simp only [shell_Quote.j1, Option.bind_some]
    rw [if_pos (by simp; omega), if_pos (by simp; omega)]
    rfl
  · have hq : quoteB c = [92, 110] := by simp [quoteB, t2]
    rw [if_neg (by omega), hq, ints_append]
    simp only [shell_Quote.j1, Option.bind_some]
    rw [if_neg (by simp; omega), if_pos (by omega), if_pos (by simp; omega)]
    rfl
  · have hq : quoteB c = [92, 116] := by simp [quoteB, t3]
    rw [if_neg (by omega), hq, ints_append]
    simp only [shell_Quote.j1, Option.bind_some]
    rw [if_neg (by simp; omega), if_neg (by omega), if_pos (by omega), if_pos (by simp; omega)]
    rfl
  · have hq : quoteB c = [92, 120, hexd (c.toNat / 16), hexd (c.toNat % 16)] := by simp [quoteB, t0, t1, t2, t3, t4]
    rw [if_neg (by omega), hq, ints_append]
    simp only [shell_Quote.j1, Option.bind_some]
    rw [if_neg (by simp; omega), if_neg (by omega), if_neg (by omega), if_pos (by omega), if_pos (by omega), if_pos (by omega), bits15, if_pos (by omega), if_pos (by omega), hdiv, k1, k2, if_pos (by simp; omega)]
    rfl
  · have hq : quoteB c = [92, 120, hexd (c.toNat / 16), hexd (c.toNat % 16)] := by simp [quoteB, t0, t1, t2, t3, t5]
    rw [if_neg (by omega), hq, ints_append]
    simp only [shell_Quote.j1, Option.bind_some]
    rw [if_neg (by simp; omega), if_neg (by omega), if_neg (by omega), if_neg (by omega), if_pos (by omega), if_pos (by omega), if_pos (by omega), bits15, if_pos (by omega), if_pos (by omega), hdiv, k1, k2, if_pos (by simp; omega)]
    rfl
  · have hq : quoteB c = [c] := by simp only [quoteB]; rw [if_neg (by omega), if_neg t2, if_neg t3, if_neg (by omega)]
    rw [if_neg (by omega), hq, ints_append]
    simp only [shell_Quote.j1]
    rw [if_neg (by simp; omega), if_neg (by omega), if_neg (by omega), if_neg (by omega), if_neg (by omega), if_pos (by omega)]
    rfl

theorem sq_loop (l : List UInt8) (hl : l.length ≤ 16000) : ∀ (d i k : Nat), i + d = l.length → 2 * d < k → shell_Quote.l0 k (ints (34 :: (l.take i).flatMap quoteB)) (ints l) (l.length : Int) (i : Int) = some ⟨(quoteL l).toArray⟩ := by
  have hlen : (ints l).length = l.length := by simp [ints]
  intro d
  induction d with
  | zero =>
    intro i k hi hk
    obtain ⟨k, rfl⟩ : ∃ m, k = m + 1 := ⟨k - 1, by omega⟩
    have hfl := flat_len (l.take i)
    have htk : (l.take i).length ≤ l.length := by simp; omega
    simp only [shell_Quote.l0]
    rw [if_neg (by omega), if_pos (by simp only [ints, List.length_map, List.length_cons]; omega)]
    have e : l.take i = l := List.take_of_length_le (by omega)
    rw [e]
    congr 1
    have : (ints (34 :: l.flatMap quoteB) ++ [34]) = ints (quoteL l) := by simp [ints, quoteL]
    rw [this]
    simp [strOfNums, ints, Function.comp_def]
  | succ d ih =>
    intro i k hi hk
    obtain ⟨k, rfl⟩ : ∃ m, k = m + 1 + 1 := ⟨k - 2, by omega⟩
    have hlt : i < l.length := by omega
    have hfl := flat_len (l.take i)
    have htk : (l.take i).length ≤ l.length := by simp; omega
    have hw : wrap64 ((i : Int) + 1) = ((i + 1 : Nat) : Int) := by unfold wrap64; omega
    simp only [shell_Quote.l0]
    rw [if_pos (by omega), if_pos (by omega), if_pos (by omega), rd_ints l i hlt]
    have st := sq_step k (34 :: (l.take i).flatMap quoteB) (ints l) l[i] (l.length : Int) (i : Int) (by simp only [List.length_cons]; omega)
    rw [st, hw, List.cons_append, ← take_next l i hlt]
    exact ih (i + 1) k (by omega) (by omega)
theorem sq_f (l : List UInt8) (hl : l.length ≤ 16000) : shell_Quote.f (2 * l.length + 1) (ints l) = some ⟨(quoteL l).toArray⟩ := by
  have hlen : (ints l).length = l.length := by simp [ints]
  have := sq_loop l hl l.length 0 (2 * l.length + 1) (by omega) (by omega)
  unfold shell_Quote.f
  rw [hlen]
  exact this

theorem reads_c {w : World} {A : Option Addr} {l : List UInt8} (h : Rd w A l) (hl : l.length ≤ 16000) : Kd.C (Kd.int .u8) w A (ints l).length (ints l) := by
  refine ⟨rfl, by simp [ints]; omega, fun hn => ?_⟩
  have h0 : 0 < l.length := by simpa [ints] using hn
  obtain ⟨ad, e, _⟩ := h 0 l[0] (by simp [h0])
  refine ⟨ad, e, fun j p hj => ⟨[.int .u8 p], rfl, rfl, fun i u hu => ?_⟩⟩
  have hi : i = 0 ∧ u = .int .u8 p := by
    rcases i with _ | i
    · exact ⟨rfl, by simpa using hu.symm⟩
    · simp at hu
  obtain ⟨rfl, rfl⟩ := hi
  have hj' : ∃ b, l[j]? = some b ∧ (b.toNat : Int) = p := by simpa [ints] using hj
  obtain ⟨b, hb, rfl⟩ := hj'
  obtain ⟨ad', e', hc⟩ := h j b hb
  rw [e] at e'
  cases e'
  have e1 : j * (Kd.int .u8).sz + 0 = j := by show j * 1 + 0 = j; omega
  rw [e1]
  exact hc
/-- The shell's Quote. -/
theorem shQuote (w : World) (A : Option Addr) (cap : Nat) (l : List UInt8) (h : Rd w A l) (hl : l.length ≤ 16000) (hc : l.length ≤ cap) :
    Calls Tryd.prog 11 #[.slice A l.length cap] w fun e w' => e = .returned (.string ⟨(quoteL l).toArray⟩) ∧ Below w.heap.size w w' := by
  have hlen : (ints l).length = l.length := by simp [ints]
  have := PShellQuotes.shell_Quote.calls (2 * l.length + 1) A cap (ints l) ⟨(quoteL l).toArray⟩ w (reads_c h hl) (by omega) (sq_f l hl)
  rw [hlen] at this
  exact this
end Go.Proofs.YtecpdmoieoibnaaDoor.Qt
