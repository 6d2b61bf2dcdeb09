/- Proved: the shell's escape against the byte machine. Conditions: the variable escapes reads as listed. -/
import Derived.Test.YtecpdmoieoibnaaDoorSh1
import Derived.LoopN
import Derived.Deep.QuietTactic
import Derived.BigQuiet
import Derived.Laws.Rows
import Derived.IntWalk
set_option linter.unusedVariables false
set_option linter.unusedSimpArgs false
namespace Go.Proofs.YtecpdmoieoibnaaDoor.Sh
open Go.RowKit Go.Lib Go.Proofs.YtecpdmoieoibnaaDoorW.PrintWords

def escCells : List Value := [.int .u8 92, .int .u8 92, .int .u8 34, .int .u8 34, .int .u8 110, .int .u8 10, .int .u8 116, .int .u8 9]
/-- The variable escapes reads as the program's text lays it. -/
def EscVar (w : World) : Prop := ∀ j v, escCells[j]? = some v → w.cell? ((⟨0, 0, none⟩ : Addr).add j) = some v

theorem EscVar.below {w w' : World} {B : Nat} (h : EscVar w) (hB : 0 < B) (hb : Below B w w') : EscVar w' := fun j v hj => by
  have e : ((⟨0, 0, none⟩ : Addr).add j) = ⟨0, j, none⟩ := by unfold Addr.add; split <;> simp_all
  have := h j v hj
  rw [e] at this ⊢
  exact (hb.cell (p := ⟨0, j, none⟩) hB).trans this
theorem EscVar.pos {w : World} (h : EscVar w) : 0 < w.heap.size := by
  have h0 := h 0 (.int .u8 92) rfl
  have := World.block_lt_of_cell? w _ h0
  simpa [Addr.add] using this

theorem size61 : (Tryd.prog.info? 61).map (fun i => i.size) = some 8 := by kernel_rfl
theorem run_loadEsc (w : World) (h : EscVar w) : (loadVar 61 ⟨0, 0, none⟩).run Tryd.prog w = .ok (.agg escCells.toArray) w := by
  have hl : (loadCells ⟨0, 0, none⟩ escCells.length).run Tryd.prog w = .ok escCells.toArray w := run_loadCells_list (P := Tryd.prog) w ⟨0, 0, none⟩ escCells h
  have hagg : (isAgg 61).run Tryd.prog w = .ok true w := by
    unfold isAgg
    rw [Sem.run_bind, run_underlying Tryd.underlying61 w]
    rfl
  obtain ⟨i, hq, hs⟩ := Option.map_eq_some_iff.1 size61
  have hl8 : (loadCells ⟨0, 0, none⟩ 8).run Tryd.prog w = .ok escCells.toArray w := hl
  simp [loadVar, Sem.run_bind, hagg, sizeOf, typeInfo, hq, hs, hl8]
theorem wpList_load_esc {ops : Array Oper} {rest : List Oper} {o : Oper} {a : Act} {w : World} {Q : Exit → Act → World → Prop} (hgd : o.guard = none) (x : Operand) (ho : o.op = .load 61 x)
    (hx : a.eval x = .pointer (some ⟨0, 0, none⟩)) (hE : EscVar w) (h : wpList Tryd.prog ops Q rest (a.put o.dst (.agg escCells.toArray)) w) : wpList Tryd.prog ops Q (o :: rest) a w :=
  wpList_plain hgd fun _ hK => by
    unfold Oper.wp execOp
    simp only [ho, hx, Instr.loadAt, Instr.sureAddr, Sem.run_bind, Sem.run_pure, Result.andThen_ok, run_loadEsc w hE]
    exact hK _ _ h

theorem digit_quiet (w : World) (c : UInt8) (a n : Nat) : Calls Tryd.prog 30 #[.int .u8 c.toNat] (w.drewN (a + n)) fun e w' => e = .returned (.int .i64 (Pl.hex c)) ∧ ∃ m, w' = w.drewN (a + m) := (Rf.digit _ c).mono fun e w' ⟨h1, h2⟩ => ⟨h1, n, h2.symm⟩
theorem idx0 : ∀ w, (Instr.index 61 (.agg escCells.toArray) (.int .i64 0)).run Tryd.prog w = .ok (.agg #[.int .u8 92, .int .u8 92]) w := fun w => by kernel_rfl
theorem idx1 : ∀ w, (Instr.index 61 (.agg escCells.toArray) (.int .i64 1)).run Tryd.prog w = .ok (.agg #[.int .u8 34, .int .u8 34]) w := fun w => by kernel_rfl
theorem idx2 : ∀ w, (Instr.index 61 (.agg escCells.toArray) (.int .i64 2)).run Tryd.prog w = .ok (.agg #[.int .u8 110, .int .u8 10]) w := fun w => by kernel_rfl
theorem idx3 : ∀ w, (Instr.index 61 (.agg escCells.toArray) (.int .i64 3)).run Tryd.prog w = .ok (.agg #[.int .u8 116, .int .u8 9]) w := fun w => by kernel_rfl

theorem below_drewN {B : Nat} {a w : World} (h : Below B a w) (n : Nat) : Below B a (w.drewN n) := by
  induction n generalizing w with
  | zero => exact h
  | succ n ih => rw [← World.drew_drewN]; exact (ih h).drew
/-- What escape answers: n bytes, which stand for the byte x; n = 0: it is none. -/
def EscOk (s : ByteArray) (x : Int) (n : Nat) : Prop :=
  (n = 0 ∧ ∀ wd ws, Pl.run ⟨.esc, wd, ws, false⟩ (Pl.from_ s 1) = none) ∨
  (2 ≤ n ∧ n ≤ s.size ∧ 0 ≤ x ∧ x ≤ 255 ∧ (∀ k (hk : k < s.size), 1 ≤ k → k < n → (s[k]'hk).toNat < 128) ∧ ∀ wd ws, Pl.run ⟨.esc, wd, ws, false⟩ (Pl.from_ s 1) = Pl.run ⟨.quo, wd ++ [Pl.byteOf x], ws, false⟩ (Pl.from_ s n))
def EscPost (s : ByteArray) (w : World) (e : Ending) (w' : World) : Prop := (∃ x n, e = .returned (.tuple #[.int .u8 x, .int .i64 (n : Nat)]) ∧ EscOk s x n) ∧ Below w.heap.size w w'

theorem esc_short {s : ByteArray} (h : s.size < 2) : EscOk s 0 0 := .inl ⟨rfl, fun wd ws => by rw [Pl.from_ge s 1 (by omega)]; rfl⟩
theorem esc_one {s : ByteArray} (h : 1 < s.size) (c : UInt8) (hc : c = s[1]'h) (x : Int) (hx0 : 0 ≤ x) (hx1 : x ≤ 255) (hw : (c.toNat = 92 ∧ x = 92) ∨ (c.toNat = 34 ∧ x = 34) ∨ (c.toNat = 110 ∧ x = 10) ∨ (c.toNat = 116 ∧ x = 9)) : EscOk s x 2 := by
  refine .inr ⟨by omega, by omega, hx0, hx1, fun k hk h1 h2 => ?_, fun wd ws => ?_⟩
  · obtain rfl : k = 1 := by omega
    rw [← hc]
    omega
  · rw [Pl.from_lt s 1 h, Pl.run_cons _ _ _ rfl, ← hc]
    have hb : ∀ n : Nat, c.toNat = n → c = UInt8.ofNat n := fun n hn => by subst hn; simp
    rcases hw with ⟨h1, rfl⟩ | ⟨h1, rfl⟩ | ⟨h1, rfl⟩ | ⟨h1, rfl⟩ <;> (have e := hb _ h1; subst e; rfl)
theorem esc_bad {s : ByteArray} (h : 1 < s.size) (c : UInt8) (hc : c = s[1]'h) (h1 : c.toNat ≠ 92) (h2 : c.toNat ≠ 34) (h3 : c.toNat ≠ 110) (h4 : c.toNat ≠ 116) (h5 : c.toNat ≠ 120) : EscOk s 0 0 := by
  refine .inl ⟨rfl, fun wd ws => ?_⟩
  rw [Pl.from_lt s 1 h, Pl.run_cons _ _ _ rfl, ← hc]
  exact Pl.run_bad _ _ (by simp [Pl.step, Pl.escaped, h1, h2, h3, h4, h5])
theorem step_x (wd ws) (c : UInt8) (h : c.toNat = 120) : Pl.step ⟨.esc, wd, ws, false⟩ c = ⟨.high, wd, ws, false⟩ := by simp [Pl.step, Pl.escaped, h]
theorem esc_xshort {s : ByteArray} (h : 1 < s.size) (c : UInt8) (hc : c = s[1]'h) (h5 : c.toNat = 120) (h4 : s.size < 4) : EscOk s 0 0 := by
  refine .inl ⟨rfl, fun wd ws => ?_⟩
  rw [Pl.from_lt s 1 h, Pl.run_cons _ _ _ rfl, ← hc, step_x _ _ _ h5]
  by_cases h2 : 2 < s.size
  · rw [Pl.from_lt s 2 h2, Pl.run_cons _ _ _ rfl, Pl.from_ge s 3 (by omega)]
    simp [Pl.run, Pl.fin, Pl.step]
  · rw [Pl.from_ge s 2 (by omega)]
    rfl
theorem esc_xbad {s : ByteArray} (h : 1 < s.size) (h3 : 3 < s.size) (c a b : UInt8) (hc : c = s[1]'h) (ha : a = s[2]'(by omega)) (hb : b = s[3]'h3) (h5 : c.toNat = 120) (hx : Pl.hex a < 0 ∨ Pl.hex b < 0) : EscOk s 0 0 := by
  refine .inl ⟨rfl, fun wd ws => ?_⟩
  rw [Pl.from_lt s 1 h, Pl.run_cons _ _ _ rfl, ← hc, step_x _ _ _ h5, Pl.from_lt s 2 (by omega), Pl.run_cons _ _ _ rfl, ← ha]
  by_cases h0 : Pl.hex a < 0
  · exact Pl.run_bad _ _ (by simp [Pl.step, h0])
  · have h1 : Pl.hex b < 0 := by omega
    rw [Pl.from_lt s 3 h3, Pl.run_cons _ _ _ (by simp [Pl.step, h0]), ← hb]
    exact Pl.run_bad _ _ (by simp [Pl.step, h1])
theorem hex_lt {c : UInt8} (h : 0 ≤ Pl.hex c) : c.toNat < 128 := by
  unfold Pl.hex at h
  (repeat' split at h) <;> omega
theorem esc_x {s : ByteArray} (h : 1 < s.size) (h3 : 3 < s.size) (c a b : UInt8) (hc : c = s[1]'h) (ha : a = s[2]'(by omega)) (hb : b = s[3]'h3) (h5 : c.toNat = 120) (hx : 0 ≤ Pl.hex a) (hy : 0 ≤ Pl.hex b) : EscOk s (16 * Pl.hex a + Pl.hex b) 4 := by
  have r1 := Pl.hex_range a
  have r2 := Pl.hex_range b
  refine .inr ⟨by omega, by omega, by omega, by omega, fun k hk h1 h2 => ?_, fun wd ws => ?_⟩
  · rcases (show k = 1 ∨ k = 2 ∨ k = 3 by omega) with rfl | rfl | rfl
    · rw [← hc]; omega
    · rw [← ha]; exact hex_lt hx
    · rw [← hb]; exact hex_lt hy
  · have n1 : ¬ Pl.hex a < 0 := by omega
    have n2 : ¬ Pl.hex b < 0 := by omega
    rw [Pl.from_lt s 1 h, Pl.run_cons _ _ _ rfl, ← hc, step_x _ _ _ h5, Pl.from_lt s 2 (by omega), Pl.run_cons _ _ _ rfl, ← ha, Pl.from_lt s 3 h3, Pl.run_cons _ _ _ (by simp [Pl.step, n1]), ← hb]
    simp [Pl.step, n1, n2]

theorem escw (c : Nat) : (c = 92) ∨ (c ≠ 92 ∧ c = 34) ∨ (c ≠ 92 ∧ c ≠ 34 ∧ c = 110) ∨ (c ≠ 92 ∧ c ≠ 34 ∧ c ≠ 110 ∧ c = 116) ∨ (c ≠ 92 ∧ c ≠ 34 ∧ c ≠ 110 ∧ c ≠ 116) := by omega
theorem u8_is {c : UInt8} {k : Nat} (h : c.toNat = k) : ((c.toNat : Int) == (k : Int)) = true := Rf.u8_is h
theorem u8_not {c : UInt8} {k : Nat} (h : c.toNat ≠ k) : ((c.toNat : Int) == (k : Int)) = false := Rf.u8_not h

set_option maxHeartbeats 8000000 in
set_option maxRecDepth 100000 in
theorem escape_short (s : ByteArray) (w : World) (hs : s.size < 2) : Calls Tryd.prog 21 #[.string s] w (EscPost s w) := by
  have h' : (s.size : Int) < 2 := by omega
  go_enter Tryd.func21, Tryd.ntmps21
  go_wp2
  go_ret2
  exact ⟨⟨_, 0, rfl, esc_short hs⟩, Below.refl _ _⟩

set_option maxHeartbeats 16000000 in
set_option maxRecDepth 100000 in
theorem escape_four (s : ByteArray) (w : World) (hE : EscVar w) (hs : s.size ≤ 65536) (h1 : 1 < s.size) (hw : (s[1]'h1).toNat = 92 ∨ (s[1]'h1).toNat = 34 ∨ (s[1]'h1).toNat = 110 ∨ (s[1]'h1).toNat = 116) : Calls Tryd.prog 21 #[.string s] w (EscPost s w) := by
  have h' : ¬ (s.size : Int) < 2 := by omega
  have hi1 : (1 : Int) < (s.size : Int) := by omega
  have i0 := idx0
  have i1 := idx1
  have i2 := idx2
  have i3 := idx3
  rcases escw (s[1]'h1).toNat with t0 | ⟨t0, t1⟩ | ⟨t0, t1, t2⟩ | ⟨t0, t1, t2, t3⟩ | ⟨t0, t1, t2, t3⟩
  · have HR : Aside0 (EscOk s 92 2) := ⟨esc_one h1 _ rfl _ (by omega) (by omega) (by omega)⟩
    have e0 : (((s[1]'h1).toNat : Int) == 92) = true := u8_is (k := 92) t0
    clear t0 hw
    go_enter Tryd.func21, Tryd.ntmps21
    go_wp2_with (refine wpList_load_esc rfl _ rfl rfl hE ?_)
    refine wp_loop_rounds 1 ?_
    iterate 1 (rw [rounds_succ]; go_wp2; go_quiet (fail); go_wp2)
    go_ret2
    exact ⟨⟨_, 2, rfl, HR.out⟩, by repeat (first | exact Below.refl _ _ | refine Below.alloc ?_ (by first | (simp; done) | (simp; omega)) _ | refine below_drewN ?_ _ | refine Below.drew ?_)⟩
  · have HR : Aside0 (EscOk s 34 2) := ⟨esc_one h1 _ rfl _ (by omega) (by omega) (by omega)⟩
    have e0 : (((s[1]'h1).toNat : Int) == 92) = false := u8_not (k := 92) t0
    have e1 : (((s[1]'h1).toNat : Int) == 34) = true := u8_is (k := 34) t1
    clear t0 t1 hw
    go_enter Tryd.func21, Tryd.ntmps21
    go_wp2_with (refine wpList_load_esc rfl _ rfl rfl hE ?_)
    refine wp_loop_rounds 2 ?_
    iterate 2 (rw [rounds_succ]; go_wp2; go_quiet (fail); go_wp2)
    go_ret2
    exact ⟨⟨_, 2, rfl, HR.out⟩, by repeat (first | exact Below.refl _ _ | refine Below.alloc ?_ (by first | (simp; done) | (simp; omega)) _ | refine below_drewN ?_ _ | refine Below.drew ?_)⟩
  · have HR : Aside0 (EscOk s 10 2) := ⟨esc_one h1 _ rfl _ (by omega) (by omega) (by omega)⟩
    have e0 : (((s[1]'h1).toNat : Int) == 92) = false := u8_not (k := 92) t0
    have e1 : (((s[1]'h1).toNat : Int) == 34) = false := u8_not (k := 34) t1
    have e2 : (((s[1]'h1).toNat : Int) == 110) = true := u8_is (k := 110) t2
    clear t0 t1 t2 hw
    go_enter Tryd.func21, Tryd.ntmps21
    go_wp2_with (refine wpList_load_esc rfl _ rfl rfl hE ?_)
    refine wp_loop_rounds 3 ?_
    iterate 3 (rw [rounds_succ]; go_wp2; go_quiet (fail); go_wp2)
    go_ret2
    exact ⟨⟨_, 2, rfl, HR.out⟩, by repeat (first | exact Below.refl _ _ | refine Below.alloc ?_ (by first | (simp; done) | (simp; omega)) _ | refine below_drewN ?_ _ | refine Below.drew ?_)⟩
  · have HR : Aside0 (EscOk s 9 2) := ⟨esc_one h1 _ rfl _ (by omega) (by omega) (by omega)⟩
    have e0 : (((s[1]'h1).toNat : Int) == 92) = false := u8_not (k := 92) t0
    have e1 : (((s[1]'h1).toNat : Int) == 34) = false := u8_not (k := 34) t1
    have e2 : (((s[1]'h1).toNat : Int) == 110) = false := u8_not (k := 110) t2
    have e3 : (((s[1]'h1).toNat : Int) == 116) = true := u8_is (k := 116) t3
    clear t0 t1 t2 t3 hw
    go_enter Tryd.func21, Tryd.ntmps21
    go_wp2_with (refine wpList_load_esc rfl _ rfl rfl hE ?_)
    refine wp_loop_rounds 4 ?_
    iterate 4 (rw [rounds_succ]; go_wp2; go_quiet (fail); go_wp2)
    go_ret2
    exact ⟨⟨_, 2, rfl, HR.out⟩, by repeat (first | exact Below.refl _ _ | refine Below.alloc ?_ (by first | (simp; done) | (simp; omega)) _ | refine below_drewN ?_ _ | refine Below.drew ?_)⟩
  · omega

set_option maxHeartbeats 16000000 in
set_option maxRecDepth 100000 in
theorem escape_no (s : ByteArray) (w : World) (hE : EscVar w) (hs : s.size ≤ 65536) (h1 : 1 < s.size) (t0 : (s[1]'h1).toNat ≠ 92) (t1 : (s[1]'h1).toNat ≠ 34) (t2 : (s[1]'h1).toNat ≠ 110) (t3 : (s[1]'h1).toNat ≠ 116) (t4 : (s[1]'h1).toNat ≠ 120) : Calls Tryd.prog 21 #[.string s] w (EscPost s w) := by
  have h' : ¬ (s.size : Int) < 2 := by omega
  have hi1 : (1 : Int) < (s.size : Int) := by omega
  have i0 := idx0
  have i1 := idx1
  have i2 := idx2
  have i3 := idx3
  have e0 : (((s[1]'h1).toNat : Int) == 92) = false := u8_not (k := 92) t0
  have e1 : (((s[1]'h1).toNat : Int) == 34) = false := u8_not (k := 34) t1
  have e2 : (((s[1]'h1).toNat : Int) == 110) = false := u8_not (k := 110) t2
  have e3 : (((s[1]'h1).toNat : Int) == 116) = false := u8_not (k := 116) t3
  have HR : Aside0 (EscOk s 0 0) := ⟨esc_bad h1 _ rfl t0 t1 t2 t3 t4⟩
  have e4 : (((s[1]'h1).toNat : Int) == 120) = false := u8_not (k := 120) t4
  have g4 : (((s[1]'h1).toNat : Int) != 120) = true := by rw [bne, e4]; rfl
  clear t0 t1 t2 t3 t4
  go_enter Tryd.func21, Tryd.ntmps21
  go_wp2_with (refine wpList_load_esc rfl _ rfl rfl hE ?_)
  refine wp_loop_rounds 5 ?_
  iterate 4 (rw [rounds_succ]; go_wp2; go_quiet (fail); go_wp2)
  rw [rounds_succ]
  go_wp2
  go_ret2
  exact ⟨⟨_, 0, rfl, HR.out⟩, by repeat (first | exact Below.refl _ _ | refine Below.alloc ?_ (by first | (simp; done) | (simp; omega)) _ | refine below_drewN ?_ _ | refine Below.drew ?_)⟩

set_option maxHeartbeats 16000000 in
set_option maxRecDepth 100000 in
theorem escape_x_short (s : ByteArray) (w : World) (hE : EscVar w) (hs : s.size ≤ 65536) (h1 : 1 < s.size) (t0 : (s[1]'h1).toNat ≠ 92) (t1 : (s[1]'h1).toNat ≠ 34) (t2 : (s[1]'h1).toNat ≠ 110) (t3 : (s[1]'h1).toNat ≠ 116) (t4 : (s[1]'h1).toNat = 120) (h4 : s.size < 4) : Calls Tryd.prog 21 #[.string s] w (EscPost s w) := by
  have h' : ¬ (s.size : Int) < 2 := by omega
  have hi1 : (1 : Int) < (s.size : Int) := by omega
  have i0 := idx0
  have i1 := idx1
  have i2 := idx2
  have i3 := idx3
  have e0 : (((s[1]'h1).toNat : Int) == 92) = false := u8_not (k := 92) t0
  have e1 : (((s[1]'h1).toNat : Int) == 34) = false := u8_not (k := 34) t1
  have e2 : (((s[1]'h1).toNat : Int) == 110) = false := u8_not (k := 110) t2
  have e3 : (((s[1]'h1).toNat : Int) == 116) = false := u8_not (k := 116) t3
  have HR : Aside0 (EscOk s 0 0) := ⟨esc_xshort h1 _ rfl t4 h4⟩
  have e4 : (((s[1]'h1).toNat : Int) == 120) = true := u8_is (k := 120) t4
  have g4 : (((s[1]'h1).toNat : Int) != 120) = false := by rw [bne, e4]; rfl
  have l4 : (s.size : Int) < 4 := by omega
  clear t0 t1 t2 t3 t4
  go_enter Tryd.func21, Tryd.ntmps21
  go_wp2_with (refine wpList_load_esc rfl _ rfl rfl hE ?_)
  refine wp_loop_rounds 5 ?_
  iterate 4 (rw [rounds_succ]; go_wp2; go_quiet (fail); go_wp2)
  rw [rounds_succ]
  go_wp2
  go_ret2
  exact ⟨⟨_, 0, rfl, HR.out⟩, by repeat (first | exact Below.refl _ _ | refine Below.alloc ?_ (by first | (simp; done) | (simp; omega)) _ | refine below_drewN ?_ _ | refine Below.drew ?_)⟩

set_option maxHeartbeats 16000000 in
set_option maxRecDepth 100000 in
theorem escape_x_bad1 (s : ByteArray) (w : World) (hE : EscVar w) (hs : s.size ≤ 65536) (h1 : 1 < s.size) (t0 : (s[1]'h1).toNat ≠ 92) (t1 : (s[1]'h1).toNat ≠ 34) (t2 : (s[1]'h1).toNat ≠ 110) (t3 : (s[1]'h1).toNat ≠ 116) (t4 : (s[1]'h1).toNat = 120) (h2 : 2 < s.size) (h3 : 3 < s.size) (n1 : Pl.hex (s[2]'h2) < 0) : Calls Tryd.prog 21 #[.string s] w (EscPost s w) := by
  have h' : ¬ (s.size : Int) < 2 := by omega
  have hi1 : (1 : Int) < (s.size : Int) := by omega
  have i0 := idx0
  have i1 := idx1
  have i2 := idx2
  have i3 := idx3
  have e0 : (((s[1]'h1).toNat : Int) == 92) = false := u8_not (k := 92) t0
  have e1 : (((s[1]'h1).toNat : Int) == 34) = false := u8_not (k := 34) t1
  have e2 : (((s[1]'h1).toNat : Int) == 110) = false := u8_not (k := 110) t2
  have e3 : (((s[1]'h1).toNat : Int) == 116) = false := u8_not (k := 116) t3
  have HR : Aside0 (EscOk s 0 0) := ⟨esc_xbad h1 h3 _ _ _ rfl rfl rfl t4 (.inl n1)⟩
  have e4 : (((s[1]'h1).toNat : Int) == 120) = true := u8_is (k := 120) t4
  have g4 : (((s[1]'h1).toNat : Int) != 120) = false := by rw [bne, e4]; rfl
  have l4 : ¬ (s.size : Int) < 4 := by omega
  have l2 : (2 : Int) < (s.size : Int) := by omega
  clear t0 t1 t2 t3 t4
  go_enter Tryd.func21, Tryd.ntmps21
  go_wp2_with (refine wpList_load_esc rfl _ rfl rfl hE ?_)
  refine wp_loop_rounds 5 ?_
  iterate 4 (rw [rounds_succ]; go_wp2; go_quiet (fail); go_wp2)
  rw [rounds_succ]
  go_wp2_with (go_at_call 30; refine (Rf.digit _ _).mono ?_; rintro e w' ⟨rfl, rfl⟩)
  go_ret2
  exact ⟨⟨_, 0, rfl, HR.out⟩, by repeat (first | exact Below.refl _ _ | refine Below.alloc ?_ (by first | (simp; done) | (simp; omega)) _ | refine below_drewN ?_ _ | refine Below.drew ?_)⟩

set_option maxHeartbeats 16000000 in
set_option maxRecDepth 100000 in
theorem escape_x_bad2 (s : ByteArray) (w : World) (hE : EscVar w) (hs : s.size ≤ 65536) (h1 : 1 < s.size) (t0 : (s[1]'h1).toNat ≠ 92) (t1 : (s[1]'h1).toNat ≠ 34) (t2 : (s[1]'h1).toNat ≠ 110) (t3 : (s[1]'h1).toNat ≠ 116) (t4 : (s[1]'h1).toNat = 120) (h2 : 2 < s.size) (h3 : 3 < s.size) (n1 : ¬ Pl.hex (s[2]'h2) < 0) (n2 : Pl.hex (s[3]'h3) < 0) : Calls Tryd.prog 21 #[.string s] w (EscPost s w) := by
  have h' : ¬ (s.size : Int) < 2 := by omega
  have hi1 : (1 : Int) < (s.size : Int) := by omega
  have i0 := idx0
  have i1 := idx1
  have i2 := idx2
  have i3 := idx3
  have e0 : (((s[1]'h1).toNat : Int) == 92) = false := u8_not (k := 92) t0
  have e1 : (((s[1]'h1).toNat : Int) == 34) = false := u8_not (k := 34) t1
  have e2 : (((s[1]'h1).toNat : Int) == 110) = false := u8_not (k := 110) t2
  have e3 : (((s[1]'h1).toNat : Int) == 116) = false := u8_not (k := 116) t3
  have HR : Aside0 (EscOk s 0 0) := ⟨esc_xbad h1 h3 _ _ _ rfl rfl rfl t4 (.inr n2)⟩
  have e4 : (((s[1]'h1).toNat : Int) == 120) = true := u8_is (k := 120) t4
  have g4 : (((s[1]'h1).toNat : Int) != 120) = false := by rw [bne, e4]; rfl
  have l4 : ¬ (s.size : Int) < 4 := by omega
  have l2 : (2 : Int) < (s.size : Int) := by omega
  have l3 : (3 : Int) < (s.size : Int) := by omega
  clear t0 t1 t2 t3 t4
  go_enter Tryd.func21, Tryd.ntmps21
  go_wp2_with (refine wpList_load_esc rfl _ rfl rfl hE ?_)
  refine wp_loop_rounds 5 ?_
  iterate 4 (rw [rounds_succ]; go_wp2; go_quiet (fail); go_wp2)
  rw [rounds_succ]
  go_wp2_with (go_at_call 30; refine (Rf.digit _ _).mono ?_; rintro e w' ⟨rfl, rfl⟩)
  go_ret2
  exact ⟨⟨_, 0, rfl, HR.out⟩, by repeat (first | exact Below.refl _ _ | refine Below.alloc ?_ (by first | (simp; done) | (simp; omega)) _ | refine below_drewN ?_ _ | refine Below.drew ?_)⟩

set_option maxHeartbeats 16000000 in
set_option maxRecDepth 100000 in
theorem escape_x (s : ByteArray) (w : World) (hE : EscVar w) (hs : s.size ≤ 65536) (h1 : 1 < s.size) (t0 : (s[1]'h1).toNat ≠ 92) (t1 : (s[1]'h1).toNat ≠ 34) (t2 : (s[1]'h1).toNat ≠ 110) (t3 : (s[1]'h1).toNat ≠ 116) (t4 : (s[1]'h1).toNat = 120) (h2 : 2 < s.size) (h3 : 3 < s.size) (n1 : 0 ≤ Pl.hex (s[2]'h2)) (n2 : 0 ≤ Pl.hex (s[3]'h3)) : Calls Tryd.prog 21 #[.string s] w (EscPost s w) := by
  have h' : ¬ (s.size : Int) < 2 := by omega
  have hi1 : (1 : Int) < (s.size : Int) := by omega
  have i0 := idx0
  have i1 := idx1
  have i2 := idx2
  have i3 := idx3
  have e0 : (((s[1]'h1).toNat : Int) == 92) = false := u8_not (k := 92) t0
  have e1 : (((s[1]'h1).toNat : Int) == 34) = false := u8_not (k := 34) t1
  have e2 : (((s[1]'h1).toNat : Int) == 110) = false := u8_not (k := 110) t2
  have e3 : (((s[1]'h1).toNat : Int) == 116) = false := u8_not (k := 116) t3
  have HR : Aside0 (EscOk s (16 * Pl.hex (s[2]'h2) + Pl.hex (s[3]'h3)) 4) := ⟨esc_x h1 h3 _ _ _ rfl rfl rfl t4 n1 n2⟩
  have e4 : (((s[1]'h1).toNat : Int) == 120) = true := u8_is (k := 120) t4
  have g4 : (((s[1]'h1).toNat : Int) != 120) = false := by rw [bne, e4]; rfl
  have l4 : ¬ (s.size : Int) < 4 := by omega
  have l2 : (2 : Int) < (s.size : Int) := by omega
  have l3 : (3 : Int) < (s.size : Int) := by omega
  have r1 := Pl.hex_range (s[2]'h2)
  have r2 := Pl.hex_range (s[3]'h3)
  have w1e : IntKind.i64.wrap (16 * Pl.hex (s[2]'h2)) = 16 * Pl.hex (s[2]'h2) := IntWalk.i64_in _ (by omega)
  have w2e : IntKind.i64.wrap (16 * Pl.hex (s[2]'h2) + Pl.hex (s[3]'h3)) = 16 * Pl.hex (s[2]'h2) + Pl.hex (s[3]'h3) := IntWalk.i64_in _ (by omega)
  have w3e : IntKind.u8.wrap (16 * Pl.hex (s[2]'h2) + Pl.hex (s[3]'h3)) = 16 * Pl.hex (s[2]'h2) + Pl.hex (s[3]'h3) := IntWalk.u8_in _ (by omega)
  clear t0 t1 t2 t3 t4
  go_enter Tryd.func21, Tryd.ntmps21
  go_wp2_with (refine wpList_load_esc rfl _ rfl rfl hE ?_)
  refine wp_loop_rounds 5 ?_
  iterate 4 (rw [rounds_succ]; go_wp2; go_quiet (fail); go_wp2)
  rw [rounds_succ]
  go_wp2_with (go_at_call 30; refine (Rf.digit _ _).mono ?_; rintro e w' ⟨rfl, rfl⟩)
  go_quiet ((go_at_call 30; exact digit_quiet _ _ _ _))
  go_wp2
  go_ret2
  exact ⟨⟨_, 4, rfl, HR.out⟩, by repeat (first | exact Below.refl _ _ | refine Below.alloc ?_ (by first | (simp; done) | (simp; omega)) _ | refine below_drewN ?_ _ | refine Below.drew ?_)⟩

theorem escape (s : ByteArray) (w : World) (hE : EscVar w) (hs : s.size ≤ 65536) : Calls Tryd.prog 21 #[.string s] w (EscPost s w) := by
  by_cases h : s.size < 2
  · exact escape_short s w h
  · have h1 : 1 < s.size := by omega
    by_cases t0 : (s[1]'h1).toNat = 92
    · exact escape_four s w hE hs h1 (by omega)
    by_cases t1 : (s[1]'h1).toNat = 34
    · exact escape_four s w hE hs h1 (by omega)
    by_cases t2 : (s[1]'h1).toNat = 110
    · exact escape_four s w hE hs h1 (by omega)
    by_cases t3 : (s[1]'h1).toNat = 116
    · exact escape_four s w hE hs h1 (by omega)
    by_cases t4 : (s[1]'h1).toNat = 120
    · by_cases h4 : s.size < 4
      · exact escape_x_short s w hE hs h1 t0 t1 t2 t3 t4 h4
      · by_cases n1 : Pl.hex (s[2]'(by omega)) < 0
        · exact escape_x_bad1 s w hE hs h1 t0 t1 t2 t3 t4 (by omega) (by omega) n1
        · by_cases n2 : Pl.hex (s[3]'(by omega)) < 0
          · exact escape_x_bad2 s w hE hs h1 t0 t1 t2 t3 t4 (by omega) (by omega) n1 n2
          · exact escape_x s w hE hs h1 t0 t1 t2 t3 t4 (by omega) (by omega) (by omega) (by omega)
    · exact escape_no s w hE hs h1 t0 t1 t2 t3 t4
end Go.Proofs.YtecpdmoieoibnaaDoor.Sh
