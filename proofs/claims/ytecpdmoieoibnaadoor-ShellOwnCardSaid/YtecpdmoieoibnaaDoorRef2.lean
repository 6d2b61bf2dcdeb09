/- Proved: the reference's next and Words are the byte machine. Conditions: none (a line longer than MaxScript is told too). -/
import Derived.Test.YtecpdmoieoibnaaDoorRef
import Derived.IntWalk
set_option linter.unusedVariables false
set_option linter.unusedSimpArgs false
namespace Go.Proofs.YtecpdmoieoibnaaDoor.Rf
open Go.RowKit Go.Proofs.YtecpdmoieoibnaaDoorW.PrintWords

theorem hex_ways (n : Nat) : n < 48 ∨ (48 ≤ n ∧ n ≤ 57) ∨ (57 < n ∧ n < 65) ∨ (65 ≤ n ∧ n ≤ 70) ∨ (70 < n ∧ n < 97) ∨ (97 ≤ n ∧ n ≤ 102) ∨ 102 < n := by omega
theorem ret_int {k : IntKind} {a b : Int} (h : a = b) : Ending.returned (.int k a) = .returned (.int k b) := by rw [h]

set_option maxHeartbeats 2000000 in
set_option maxRecDepth 100000 in
theorem hex (w : World) (c : UInt8) : Calls Tryd.prog 28 #[.int .u8 c.toNat] w fun e w' => e = .returned (.int .i64 (Pl.hex c)) ∧ w = w' := by
  have hlt := Pl.byte_lt c
  rcases hex_ways c.toNat with h | ⟨h, h'⟩ | ⟨h, h'⟩ | ⟨h, h'⟩ | ⟨h, h'⟩ | ⟨h, h'⟩ | h
  · have HE : Aside0 (Pl.hex c = -1) := ⟨by unfold Pl.hex; (repeat' split) <;> omega⟩
    have a48 : ¬ (48 : Int) ≤ (c.toNat : Int) := by omega
    have a57 : (c.toNat : Int) ≤ 57 := by omega
    have a97 : ¬ (97 : Int) ≤ (c.toNat : Int) := by omega
    have a102 : (c.toNat : Int) ≤ 102 := by omega
    have a65 : ¬ (65 : Int) ≤ (c.toNat : Int) := by omega
    have a70 : (c.toNat : Int) ≤ 70 := by omega
    go_enter Tryd.func28, Tryd.ntmps28
    go_wp2
    go_ret
    exact ⟨ret_int (by rw [HE.out]; try omega), rfl⟩
  · have HE : Aside0 (Pl.hex c = (c.toNat : Int) - 48) := ⟨by unfold Pl.hex; (repeat' split) <;> omega⟩
    have a48 : (48 : Int) ≤ (c.toNat : Int) := by omega
    have a57 : (c.toNat : Int) ≤ 57 := by omega
    have a97 : ¬ (97 : Int) ≤ (c.toNat : Int) := by omega
    have a102 : (c.toNat : Int) ≤ 102 := by omega
    have a65 : ¬ (65 : Int) ≤ (c.toNat : Int) := by omega
    have a70 : (c.toNat : Int) ≤ 70 := by omega
    go_enter Tryd.func28, Tryd.ntmps28
    go_wp2
    go_ret
    exact ⟨ret_int (by rw [HE.out]; try omega), rfl⟩
  · have HE : Aside0 (Pl.hex c = -1) := ⟨by unfold Pl.hex; (repeat' split) <;> omega⟩
    have a48 : (48 : Int) ≤ (c.toNat : Int) := by omega
    have a57 : ¬ (c.toNat : Int) ≤ 57 := by omega
    have a97 : ¬ (97 : Int) ≤ (c.toNat : Int) := by omega
    have a102 : (c.toNat : Int) ≤ 102 := by omega
    have a65 : ¬ (65 : Int) ≤ (c.toNat : Int) := by omega
    have a70 : (c.toNat : Int) ≤ 70 := by omega
    go_enter Tryd.func28, Tryd.ntmps28
    go_wp2
    go_ret
    exact ⟨ret_int (by rw [HE.out]; try omega), rfl⟩
  · have HE : Aside0 (Pl.hex c = (c.toNat : Int) - 55) := ⟨by unfold Pl.hex; (repeat' split) <;> omega⟩
    have a48 : (48 : Int) ≤ (c.toNat : Int) := by omega
    have a57 : ¬ (c.toNat : Int) ≤ 57 := by omega
    have a97 : ¬ (97 : Int) ≤ (c.toNat : Int) := by omega
    have a102 : (c.toNat : Int) ≤ 102 := by omega
    have a65 : (65 : Int) ≤ (c.toNat : Int) := by omega
    have a70 : (c.toNat : Int) ≤ 70 := by omega
    go_enter Tryd.func28, Tryd.ntmps28
    go_wp2
    go_ret
    exact ⟨ret_int (by rw [HE.out]; try omega), rfl⟩
  · have HE : Aside0 (Pl.hex c = -1) := ⟨by unfold Pl.hex; (repeat' split) <;> omega⟩
    have a48 : (48 : Int) ≤ (c.toNat : Int) := by omega
    have a57 : ¬ (c.toNat : Int) ≤ 57 := by omega
    have a97 : ¬ (97 : Int) ≤ (c.toNat : Int) := by omega
    have a102 : (c.toNat : Int) ≤ 102 := by omega
    have a65 : (65 : Int) ≤ (c.toNat : Int) := by omega
    have a70 : ¬ (c.toNat : Int) ≤ 70 := by omega
    go_enter Tryd.func28, Tryd.ntmps28
    go_wp2
    go_ret
    exact ⟨ret_int (by rw [HE.out]; try omega), rfl⟩
  · have HE : Aside0 (Pl.hex c = (c.toNat : Int) - 87) := ⟨by unfold Pl.hex; (repeat' split) <;> omega⟩
    have a48 : (48 : Int) ≤ (c.toNat : Int) := by omega
    have a57 : ¬ (c.toNat : Int) ≤ 57 := by omega
    have a97 : (97 : Int) ≤ (c.toNat : Int) := by omega
    have a102 : (c.toNat : Int) ≤ 102 := by omega
    have a65 : (65 : Int) ≤ (c.toNat : Int) := by omega
    have a70 : ¬ (c.toNat : Int) ≤ 70 := by omega
    go_enter Tryd.func28, Tryd.ntmps28
    go_wp2
    go_ret
    exact ⟨ret_int (by rw [HE.out]; try omega), rfl⟩
  · have HE : Aside0 (Pl.hex c = -1) := ⟨by unfold Pl.hex; (repeat' split) <;> omega⟩
    have a48 : (48 : Int) ≤ (c.toNat : Int) := by omega
    have a57 : ¬ (c.toNat : Int) ≤ 57 := by omega
    have a97 : (97 : Int) ≤ (c.toNat : Int) := by omega
    have a102 : ¬ (c.toNat : Int) ≤ 102 := by omega
    have a65 : (65 : Int) ≤ (c.toNat : Int) := by omega
    have a70 : ¬ (c.toNat : Int) ≤ 70 := by omega
    go_enter Tryd.func28, Tryd.ntmps28
    go_wp2
    go_ret
    exact ⟨ret_int (by rw [HE.out]; try omega), rfl⟩

set_option maxHeartbeats 2000000 in
set_option maxRecDepth 100000 in
theorem digit (w : World) (c : UInt8) : Calls Tryd.prog 30 #[.int .u8 c.toNat] w fun e w' => e = .returned (.int .i64 (Pl.hex c)) ∧ w = w' := by
  have hlt := Pl.byte_lt c
  rcases hex_ways c.toNat with h | ⟨h, h'⟩ | ⟨h, h'⟩ | ⟨h, h'⟩ | ⟨h, h'⟩ | ⟨h, h'⟩ | h
  · have HE : Aside0 (Pl.hex c = -1) := ⟨by unfold Pl.hex; (repeat' split) <;> omega⟩
    have a48 : ¬ (48 : Int) ≤ (c.toNat : Int) := by omega
    have a57 : (c.toNat : Int) ≤ 57 := by omega
    have a97 : ¬ (97 : Int) ≤ (c.toNat : Int) := by omega
    have a102 : (c.toNat : Int) ≤ 102 := by omega
    have a65 : ¬ (65 : Int) ≤ (c.toNat : Int) := by omega
    have a70 : (c.toNat : Int) ≤ 70 := by omega
    go_enter Tryd.func30, Tryd.ntmps30
    go_wp2
    go_ret
    exact ⟨ret_int (by rw [HE.out]; try omega), rfl⟩
  · have HE : Aside0 (Pl.hex c = (c.toNat : Int) - 48) := ⟨by unfold Pl.hex; (repeat' split) <;> omega⟩
    have a48 : (48 : Int) ≤ (c.toNat : Int) := by omega
    have a57 : (c.toNat : Int) ≤ 57 := by omega
    have a97 : ¬ (97 : Int) ≤ (c.toNat : Int) := by omega
    have a102 : (c.toNat : Int) ≤ 102 := by omega
    have a65 : ¬ (65 : Int) ≤ (c.toNat : Int) := by omega
    have a70 : (c.toNat : Int) ≤ 70 := by omega
    go_enter Tryd.func30, Tryd.ntmps30
    go_wp2
    go_ret
    exact ⟨ret_int (by rw [HE.out]; try omega), rfl⟩
  · have HE : Aside0 (Pl.hex c = -1) := ⟨by unfold Pl.hex; (repeat' split) <;> omega⟩
    have a48 : (48 : Int) ≤ (c.toNat : Int) := by omega
    have a57 : ¬ (c.toNat : Int) ≤ 57 := by omega
    have a97 : ¬ (97 : Int) ≤ (c.toNat : Int) := by omega
    have a102 : (c.toNat : Int) ≤ 102 := by omega
    have a65 : ¬ (65 : Int) ≤ (c.toNat : Int) := by omega
    have a70 : (c.toNat : Int) ≤ 70 := by omega
    go_enter Tryd.func30, Tryd.ntmps30
    go_wp2
    go_ret
    exact ⟨ret_int (by rw [HE.out]; try omega), rfl⟩
  · have HE : Aside0 (Pl.hex c = (c.toNat : Int) - 55) := ⟨by unfold Pl.hex; (repeat' split) <;> omega⟩
    have a48 : (48 : Int) ≤ (c.toNat : Int) := by omega
    have a57 : ¬ (c.toNat : Int) ≤ 57 := by omega
    have a97 : ¬ (97 : Int) ≤ (c.toNat : Int) := by omega
    have a102 : (c.toNat : Int) ≤ 102 := by omega
    have a65 : (65 : Int) ≤ (c.toNat : Int) := by omega
    have a70 : (c.toNat : Int) ≤ 70 := by omega
    go_enter Tryd.func30, Tryd.ntmps30
    go_wp2
    go_ret
    exact ⟨ret_int (by rw [HE.out]; try omega), rfl⟩
  · have HE : Aside0 (Pl.hex c = -1) := ⟨by unfold Pl.hex; (repeat' split) <;> omega⟩
    have a48 : (48 : Int) ≤ (c.toNat : Int) := by omega
    have a57 : ¬ (c.toNat : Int) ≤ 57 := by omega
    have a97 : ¬ (97 : Int) ≤ (c.toNat : Int) := by omega
    have a102 : (c.toNat : Int) ≤ 102 := by omega
    have a65 : (65 : Int) ≤ (c.toNat : Int) := by omega
    have a70 : ¬ (c.toNat : Int) ≤ 70 := by omega
    go_enter Tryd.func30, Tryd.ntmps30
    go_wp2
    go_ret
    exact ⟨ret_int (by rw [HE.out]; try omega), rfl⟩
  · have HE : Aside0 (Pl.hex c = (c.toNat : Int) - 87) := ⟨by unfold Pl.hex; (repeat' split) <;> omega⟩
    have a48 : (48 : Int) ≤ (c.toNat : Int) := by omega
    have a57 : ¬ (c.toNat : Int) ≤ 57 := by omega
    have a97 : (97 : Int) ≤ (c.toNat : Int) := by omega
    have a102 : (c.toNat : Int) ≤ 102 := by omega
    have a65 : (65 : Int) ≤ (c.toNat : Int) := by omega
    have a70 : ¬ (c.toNat : Int) ≤ 70 := by omega
    go_enter Tryd.func30, Tryd.ntmps30
    go_wp2
    go_ret
    exact ⟨ret_int (by rw [HE.out]; try omega), rfl⟩
  · have HE : Aside0 (Pl.hex c = -1) := ⟨by unfold Pl.hex; (repeat' split) <;> omega⟩
    have a48 : (48 : Int) ≤ (c.toNat : Int) := by omega
    have a57 : ¬ (c.toNat : Int) ≤ 57 := by omega
    have a97 : (97 : Int) ≤ (c.toNat : Int) := by omega
    have a102 : ¬ (c.toNat : Int) ≤ 102 := by omega
    have a65 : (65 : Int) ≤ (c.toNat : Int) := by omega
    have a70 : ¬ (c.toNat : Int) ≤ 70 := by omega
    go_enter Tryd.func30, Tryd.ntmps30
    go_wp2
    go_ret
    exact ⟨ret_int (by rw [HE.out]; try omega), rfl⟩

/-- The digit that is kept is one. -/
def Fine (s : Pl.St) : Prop := ∀ d, s.m = .low d → s.bad = false → 0 ≤ d ∧ d ≤ 15

theorem byteOf_toNat {n : Int} (h0 : 0 ≤ n) (h1 : n ≤ 255) : ((Pl.byteOf n).toNat : Int) = n := by
  unfold Pl.byteOf
  simp
  omega

theorem undrew {w w1 : World} {row : Option Nat} (h : w.drew.grownBy w1 row) : w.grownBy w1 row := ⟨h.1, h.2, h.3, h.4, h.5⟩
theorem rdPre {B b : Nat} {w : World} {s : Pl.St} (h : Holds B b w s) : ∃ vw vs dg, (∀ d, s.m = .low d → dg = d) ∧ B ≤ b ∧ w.heap[b]? = some (.cells #[.int .i64 s.m.code, vw, vs, .int .i64 dg, .bool s.bad] 44 (0, 0)) ∧
    w.ownsRow B 5 1 vw s.word.length (Lib.byteCells s.word) ∧ w.ownsRow B 9 1 vs (s.words.map fun l => (⟨l.toArray⟩ : ByteArray)).length ((s.words.map fun l => (⟨l.toArray⟩ : ByteArray)).map Value.string) := by
  obtain ⟨dg, hdg, hB, vw, vs, hbk, h1, h2⟩ := h
  exact ⟨vw, vs, dg, hdg, hB, hbk, h1, h2⟩
theorem Holds.putDg {B b : Nat} {w : World} {s : Pl.St} (h : Holds B b w s) (x : Int) : ∃ W, W = w.setCell ⟨b, 3, none⟩ (.int .i64 x) ∧ RdAt B b W s.m.code s.word (s.words.map fun l => ⟨l.toArray⟩) x s.bad := by
  obtain ⟨dg, hdg, h⟩ := h
  exact ⟨_, rfl, h.putDg x⟩

set_option maxHeartbeats 8000000 in
set_option maxRecDepth 100000 in
theorem next_btw (B b : Nat) (w : World) (wd : List UInt8) (wds : List (List UInt8)) (bd : Bool) (c : UInt8) (h : Holds B b w ⟨.btw, wd, wds, bd⟩) (hBw : B ≤ w.heap.size) (hl : wd.length < 1000000) (hl2 : wds.length < 1000000) :
    Calls Tryd.prog 17 #[.pointer (some ⟨b, 0, none⟩), .int .u8 c.toNat] w (Became B b w (Pl.step ⟨.btw, wd, wds, bd⟩ c)) := by
  obtain ⟨vw, vs, dg, hdg, hB, hbk, h1, h2⟩ := rdPre h
  have d0 : w.cell? ⟨b, 0, none⟩ = some (.int .i64 0) := by rw [Lib.cell_of_heap hbk]; rfl
  have f0 : w.frozen? ⟨b, 0, none⟩ = false := Lib.frozen_of_heap hbk 0
  have d1 : w.cell? ⟨b, 1, none⟩ = some vw := by rw [Lib.cell_of_heap hbk]; rfl
  have d3 : w.cell? ⟨b, 3, none⟩ = some (.int .i64 dg) := by rw [Lib.cell_of_heap hbk]; rfl
  have f3 : w.frozen? ⟨b, 3, none⟩ = false := Lib.frozen_of_heap hbk 3
  have d4 : w.cell? ⟨b, 4, none⟩ = some (.bool bd) := by rw [Lib.cell_of_heap hbk]; rfl
  have f4 : w.frozen? ⟨b, 4, none⟩ = false := Lib.frozen_of_heap hbk 4
  go_enter Tryd.func17, Tryd.ntmps17
  go_wp2_with fail
  refine (first B b _ _ c h hBw hl).mono ?_
  rintro e W1 ⟨rfl, q1, q2⟩
  go_wp2
  go_end0
  exact ⟨rfl, q1, q2⟩

set_option maxHeartbeats 8000000 in
set_option maxRecDepth 100000 in
theorem next_quo (B b : Nat) (w : World) (wd : List UInt8) (wds : List (List UInt8)) (bd : Bool) (c : UInt8) (h : Holds B b w ⟨.quo, wd, wds, bd⟩) (hBw : B ≤ w.heap.size) (hl : wd.length < 1000000) (hl2 : wds.length < 1000000) :
    Calls Tryd.prog 17 #[.pointer (some ⟨b, 0, none⟩), .int .u8 c.toNat] w (Became B b w (Pl.step ⟨.quo, wd, wds, bd⟩ c)) := by
  obtain ⟨vw, vs, dg, hdg, hB, hbk, h1, h2⟩ := rdPre h
  have d0 : w.cell? ⟨b, 0, none⟩ = some (.int .i64 2) := by rw [Lib.cell_of_heap hbk]; rfl
  have f0 : w.frozen? ⟨b, 0, none⟩ = false := Lib.frozen_of_heap hbk 0
  have d1 : w.cell? ⟨b, 1, none⟩ = some vw := by rw [Lib.cell_of_heap hbk]; rfl
  have d3 : w.cell? ⟨b, 3, none⟩ = some (.int .i64 dg) := by rw [Lib.cell_of_heap hbk]; rfl
  have f3 : w.frozen? ⟨b, 3, none⟩ = false := Lib.frozen_of_heap hbk 3
  have d4 : w.cell? ⟨b, 4, none⟩ = some (.bool bd) := by rw [Lib.cell_of_heap hbk]; rfl
  have f4 : w.frozen? ⟨b, 4, none⟩ = false := Lib.frozen_of_heap hbk 4
  go_enter Tryd.func17, Tryd.ntmps17
  go_wp2_with fail
  refine (inside B b _ _ c h hBw hl hl2).mono ?_
  rintro e W1 ⟨rfl, q1, q2⟩
  go_wp2
  go_end0
  exact ⟨rfl, q1, q2⟩

set_option maxHeartbeats 8000000 in
set_option maxRecDepth 100000 in
theorem next_esc (B b : Nat) (w : World) (wd : List UInt8) (wds : List (List UInt8)) (bd : Bool) (c : UInt8) (h : Holds B b w ⟨.esc, wd, wds, bd⟩) (hBw : B ≤ w.heap.size) (hl : wd.length < 1000000) (hl2 : wds.length < 1000000) :
    Calls Tryd.prog 17 #[.pointer (some ⟨b, 0, none⟩), .int .u8 c.toNat] w (Became B b w (Pl.step ⟨.esc, wd, wds, bd⟩ c)) := by
  obtain ⟨vw, vs, dg, hdg, hB, hbk, h1, h2⟩ := rdPre h
  have d0 : w.cell? ⟨b, 0, none⟩ = some (.int .i64 3) := by rw [Lib.cell_of_heap hbk]; rfl
  have f0 : w.frozen? ⟨b, 0, none⟩ = false := Lib.frozen_of_heap hbk 0
  have d1 : w.cell? ⟨b, 1, none⟩ = some vw := by rw [Lib.cell_of_heap hbk]; rfl
  have d3 : w.cell? ⟨b, 3, none⟩ = some (.int .i64 dg) := by rw [Lib.cell_of_heap hbk]; rfl
  have f3 : w.frozen? ⟨b, 3, none⟩ = false := Lib.frozen_of_heap hbk 3
  have d4 : w.cell? ⟨b, 4, none⟩ = some (.bool bd) := by rw [Lib.cell_of_heap hbk]; rfl
  have f4 : w.frozen? ⟨b, 4, none⟩ = false := Lib.frozen_of_heap hbk 4
  go_enter Tryd.func17, Tryd.ntmps17
  go_wp2_with fail
  refine (escaped B b _ _ c h hBw hl hl2).mono ?_
  rintro e W1 ⟨rfl, q1, q2⟩
  go_wp2
  go_end0
  exact ⟨rfl, q1, q2⟩

theorem blank_ways (c : UInt8) : (c.toNat = 32) ∨ (¬ c.toNat = 32 ∧ c.toNat = 9) ∨ (¬ c.toNat = 32 ∧ ¬ c.toNat = 9) := by omega

set_option maxHeartbeats 8000000 in
set_option maxRecDepth 100000 in
theorem next_bare (B b : Nat) (w : World) (wd : List UInt8) (wds : List (List UInt8)) (bd : Bool) (c : UInt8) (h : Holds B b w ⟨.bare, wd, wds, bd⟩) (hBw : B ≤ w.heap.size) (hl : wd.length < 1000000) (hl2 : wds.length < 1000000) :
    Calls Tryd.prog 17 #[.pointer (some ⟨b, 0, none⟩), .int .u8 c.toNat] w (Became B b w (Pl.step ⟨.bare, wd, wds, bd⟩ c)) := by
  obtain ⟨vw, vs, dg, hdg, hB, hbk, h1, h2⟩ := rdPre h
  have d0 : w.cell? ⟨b, 0, none⟩ = some (.int .i64 1) := by rw [Lib.cell_of_heap hbk]; rfl
  have f0 : w.frozen? ⟨b, 0, none⟩ = false := Lib.frozen_of_heap hbk 0
  have d1 : w.cell? ⟨b, 1, none⟩ = some vw := by rw [Lib.cell_of_heap hbk]; rfl
  have d3 : w.cell? ⟨b, 3, none⟩ = some (.int .i64 dg) := by rw [Lib.cell_of_heap hbk]; rfl
  have f3 : w.frozen? ⟨b, 3, none⟩ = false := Lib.frozen_of_heap hbk 3
  have d4 : w.cell? ⟨b, 4, none⟩ = some (.bool bd) := by rw [Lib.cell_of_heap hbk]; rfl
  have f4 : w.frozen? ⟨b, 4, none⟩ = false := Lib.frozen_of_heap hbk 4
  rcases blank_ways c with t0 | ⟨t0, t1⟩ | ⟨t0, t1⟩
  · have hr : Pl.isBlank c = true := by simp [Pl.isBlank, t0]
    have HE : Aside0 (Pl.step ⟨.bare, wd, wds, bd⟩ c = { Pl.ends ⟨.bare, wd, wds, bd⟩ with m := .btw }) := ⟨by simp [Pl.step, hr]⟩
    clear hr
    have e0 : ((c.toNat : Int) == 32) = true := u8_is (k := 32) t0
    have g0 : ((c.toNat : Int) != 32) = false := by rw [bne, e0]; rfl
    clear t0
    go_enter Tryd.func17, Tryd.ntmps17
    go_wp2_with fail
    refine (ends' B b _ _ h hBw hl2).mono ?_
    rintro e W1 ⟨rfl, q1, q2⟩
    obtain ⟨vw', vs', dg', d0', f0', _, _, _, _, _, _, _, _⟩ := q1.known
    go_wp2
    go_end0
    exact ⟨rfl, by rw [HE.out]; exact q1.putIn .btw (fun d hd => by cases hd) 0 rfl, q2.setCell (p := ⟨b, 0, none⟩) hB _⟩
  · have hr : Pl.isBlank c = true := by simp [Pl.isBlank, t1]
    have HE : Aside0 (Pl.step ⟨.bare, wd, wds, bd⟩ c = { Pl.ends ⟨.bare, wd, wds, bd⟩ with m := .btw }) := ⟨by simp [Pl.step, hr]⟩
    clear hr
    have e0 : ((c.toNat : Int) == 32) = false := u8_not (k := 32) t0
    have g0 : ((c.toNat : Int) != 32) = true := by rw [bne, e0]; rfl
    have e1 : ((c.toNat : Int) == 9) = true := u8_is (k := 9) t1
    have g1 : ((c.toNat : Int) != 9) = false := by rw [bne, e1]; rfl
    clear t0 t1
    go_enter Tryd.func17, Tryd.ntmps17
    go_wp2_with fail
    refine (ends' B b _ _ h hBw hl2).mono ?_
    rintro e W1 ⟨rfl, q1, q2⟩
    obtain ⟨vw', vs', dg', d0', f0', _, _, _, _, _, _, _, _⟩ := q1.known
    go_wp2
    go_end0
    exact ⟨rfl, by rw [HE.out]; exact q1.putIn .btw (fun d hd => by cases hd) 0 rfl, q2.setCell (p := ⟨b, 0, none⟩) hB _⟩
  · have hr : Pl.isBlank c = false := by simp [Pl.isBlank, t0, t1]
    have HE : Aside0 (Pl.step ⟨.bare, wd, wds, bd⟩ c = Pl.plain ⟨.bare, wd, wds, bd⟩ c) := ⟨by simp [Pl.step, hr]⟩
    clear hr
    have e0 : ((c.toNat : Int) == 32) = false := u8_not (k := 32) t0
    have g0 : ((c.toNat : Int) != 32) = true := by rw [bne, e0]; rfl
    have e1 : ((c.toNat : Int) == 9) = false := u8_not (k := 9) t1
    have g1 : ((c.toNat : Int) != 9) = true := by rw [bne, e1]; rfl
    clear t0 t1
    go_enter Tryd.func17, Tryd.ntmps17
    go_wp2_with fail
    refine (plain B b _ _ c h hBw hl).mono ?_
    rintro e W1 ⟨rfl, q1, q2⟩
    go_wp2
    go_end0
    exact ⟨rfl, by rw [HE.out]; exact q1, q2⟩

set_option maxHeartbeats 8000000 in
set_option maxRecDepth 100000 in
theorem next_behind (B b : Nat) (w : World) (wd : List UInt8) (wds : List (List UInt8)) (bd : Bool) (c : UInt8) (h : Holds B b w ⟨.behind, wd, wds, bd⟩) (hBw : B ≤ w.heap.size) (hl : wd.length < 1000000) (hl2 : wds.length < 1000000) :
    Calls Tryd.prog 17 #[.pointer (some ⟨b, 0, none⟩), .int .u8 c.toNat] w (Became B b w (Pl.step ⟨.behind, wd, wds, bd⟩ c)) := by
  obtain ⟨vw, vs, dg, hdg, hB, hbk, h1, h2⟩ := rdPre h
  have d0 : w.cell? ⟨b, 0, none⟩ = some (.int .i64 6) := by rw [Lib.cell_of_heap hbk]; rfl
  have f0 : w.frozen? ⟨b, 0, none⟩ = false := Lib.frozen_of_heap hbk 0
  have d1 : w.cell? ⟨b, 1, none⟩ = some vw := by rw [Lib.cell_of_heap hbk]; rfl
  have d3 : w.cell? ⟨b, 3, none⟩ = some (.int .i64 dg) := by rw [Lib.cell_of_heap hbk]; rfl
  have f3 : w.frozen? ⟨b, 3, none⟩ = false := Lib.frozen_of_heap hbk 3
  have d4 : w.cell? ⟨b, 4, none⟩ = some (.bool bd) := by rw [Lib.cell_of_heap hbk]; rfl
  have f4 : w.frozen? ⟨b, 4, none⟩ = false := Lib.frozen_of_heap hbk 4
  rcases blank_ways c with t0 | ⟨t0, t1⟩ | ⟨t0, t1⟩
  · have hr : Pl.isBlank c = true := by simp [Pl.isBlank, t0]
    have HE : Aside0 (Pl.step ⟨.behind, wd, wds, bd⟩ c = ⟨.btw, wd, wds, bd⟩) := ⟨by simp [Pl.step, hr]⟩
    clear hr
    have e0 : ((c.toNat : Int) == 32) = true := u8_is (k := 32) t0
    have g0 : ((c.toNat : Int) != 32) = false := by rw [bne, e0]; rfl
    clear t0
    go_enter Tryd.func17, Tryd.ntmps17
    go_wp2
    go_end0
    exact ⟨rfl, by rw [HE.out]; exact h.putIn .btw (fun d hd => by cases hd) 0 rfl, below_put hB _ _⟩
  · have hr : Pl.isBlank c = true := by simp [Pl.isBlank, t1]
    have HE : Aside0 (Pl.step ⟨.behind, wd, wds, bd⟩ c = ⟨.btw, wd, wds, bd⟩) := ⟨by simp [Pl.step, hr]⟩
    clear hr
    have e0 : ((c.toNat : Int) == 32) = false := u8_not (k := 32) t0
    have g0 : ((c.toNat : Int) != 32) = true := by rw [bne, e0]; rfl
    have e1 : ((c.toNat : Int) == 9) = true := u8_is (k := 9) t1
    have g1 : ((c.toNat : Int) != 9) = false := by rw [bne, e1]; rfl
    clear t0 t1
    go_enter Tryd.func17, Tryd.ntmps17
    go_wp2
    go_end0
    exact ⟨rfl, by rw [HE.out]; exact h.putIn .btw (fun d hd => by cases hd) 0 rfl, below_put hB _ _⟩
  · have hr : Pl.isBlank c = false := by simp [Pl.isBlank, t0, t1]
    have HE : Aside0 (Pl.step ⟨.behind, wd, wds, bd⟩ c = ⟨.btw, wd, wds, true⟩) := ⟨by simp [Pl.step, hr]⟩
    clear hr
    have e0 : ((c.toNat : Int) == 32) = false := u8_not (k := 32) t0
    have g0 : ((c.toNat : Int) != 32) = true := by rw [bne, e0]; rfl
    have e1 : ((c.toNat : Int) == 9) = false := u8_not (k := 9) t1
    have g1 : ((c.toNat : Int) != 9) = true := by rw [bne, e1]; rfl
    clear t0 t1
    go_enter Tryd.func17, Tryd.ntmps17
    go_wp2
    go_end0
    exact ⟨rfl, by rw [HE.out]; exact h.putBad.putIn .btw (fun d hd => by cases hd) 0 rfl, (below_put hB _ _).setCell (p := ⟨b, 0, none⟩) hB _⟩

set_option maxHeartbeats 8000000 in
set_option maxRecDepth 100000 in
theorem next_comm (B b : Nat) (w : World) (wd : List UInt8) (wds : List (List UInt8)) (bd : Bool) (c : UInt8) (h : Holds B b w ⟨.comm, wd, wds, bd⟩) (hBw : B ≤ w.heap.size) (hl : wd.length < 1000000) (hl2 : wds.length < 1000000) :
    Calls Tryd.prog 17 #[.pointer (some ⟨b, 0, none⟩), .int .u8 c.toNat] w (Became B b w (Pl.step ⟨.comm, wd, wds, bd⟩ c)) := by
  obtain ⟨vw, vs, dg, hdg, hB, hbk, h1, h2⟩ := rdPre h
  have d0 : w.cell? ⟨b, 0, none⟩ = some (.int .i64 7) := by rw [Lib.cell_of_heap hbk]; rfl
  have f0 : w.frozen? ⟨b, 0, none⟩ = false := Lib.frozen_of_heap hbk 0
  have d1 : w.cell? ⟨b, 1, none⟩ = some vw := by rw [Lib.cell_of_heap hbk]; rfl
  have d3 : w.cell? ⟨b, 3, none⟩ = some (.int .i64 dg) := by rw [Lib.cell_of_heap hbk]; rfl
  have f3 : w.frozen? ⟨b, 3, none⟩ = false := Lib.frozen_of_heap hbk 3
  have d4 : w.cell? ⟨b, 4, none⟩ = some (.bool bd) := by rw [Lib.cell_of_heap hbk]; rfl
  have f4 : w.frozen? ⟨b, 4, none⟩ = false := Lib.frozen_of_heap hbk 4
  go_enter Tryd.func17, Tryd.ntmps17
  go_wp2
  go_end0
  exact ⟨rfl, h, Below.refl _ _⟩

set_option maxHeartbeats 8000000 in
set_option maxRecDepth 100000 in
theorem next_high (B b : Nat) (w : World) (wd : List UInt8) (wds : List (List UInt8)) (bd : Bool) (c : UInt8) (h : Holds B b w ⟨.high, wd, wds, bd⟩) (hBw : B ≤ w.heap.size) (hl : wd.length < 1000000) (hl2 : wds.length < 1000000) :
    Calls Tryd.prog 17 #[.pointer (some ⟨b, 0, none⟩), .int .u8 c.toNat] w (Became B b w (Pl.step ⟨.high, wd, wds, bd⟩ c)) := by
  obtain ⟨vw, vs, dg, hdg, hB, hbk, h1, h2⟩ := rdPre h
  have d0 : w.cell? ⟨b, 0, none⟩ = some (.int .i64 4) := by rw [Lib.cell_of_heap hbk]; rfl
  have f0 : w.frozen? ⟨b, 0, none⟩ = false := Lib.frozen_of_heap hbk 0
  have d1 : w.cell? ⟨b, 1, none⟩ = some vw := by rw [Lib.cell_of_heap hbk]; rfl
  have d3 : w.cell? ⟨b, 3, none⟩ = some (.int .i64 dg) := by rw [Lib.cell_of_heap hbk]; rfl
  have f3 : w.frozen? ⟨b, 3, none⟩ = false := Lib.frozen_of_heap hbk 3
  have d4 : w.cell? ⟨b, 4, none⟩ = some (.bool bd) := by rw [Lib.cell_of_heap hbk]; rfl
  have f4 : w.frozen? ⟨b, 4, none⟩ = false := Lib.frozen_of_heap hbk 4
  have hx := Pl.hex_range c
  obtain ⟨W, hW, hR⟩ := h.putDg (Pl.hex c)
  have HW := Aside0.mk hW
  clear hW
  by_cases hn : Pl.hex c < 0
  · have HE : Aside0 (Pl.step ⟨.high, wd, wds, bd⟩ c = ⟨.low (Pl.hex c), wd, wds, true⟩) := ⟨by simp [Pl.step, hn]⟩
    go_enter Tryd.func17, Tryd.ntmps17
    go_wp2_with (go_at_call 28; refine (hex _ c).mono ?_; rintro e w' ⟨rfl, rfl⟩)
    go_end0
    refine ⟨rfl, ?_, ((below_put hB _ _).setCell (p := ⟨b, 0, none⟩) hB _).setCell (p := ⟨b, 4, none⟩) hB _⟩
    rw [HE.out, ← HW.out]
    exact ⟨Pl.hex c, fun d hd => by cases hd; rfl, (hR.putIn 5).putBad true⟩
  · have HE : Aside0 (Pl.step ⟨.high, wd, wds, bd⟩ c = ⟨.low (Pl.hex c), wd, wds, bd⟩) := ⟨by simp [Pl.step, hn]⟩
    go_enter Tryd.func17, Tryd.ntmps17
    go_wp2_with (go_at_call 28; refine (hex _ c).mono ?_; rintro e w' ⟨rfl, rfl⟩)
    go_end0
    refine ⟨rfl, ?_, (below_put hB _ _).setCell (p := ⟨b, 0, none⟩) hB _⟩
    rw [HE.out, ← HW.out]
    exact ⟨Pl.hex c, fun d hd => by cases hd; rfl, hR.putIn 5⟩

set_option maxHeartbeats 8000000 in
set_option maxRecDepth 100000 in
theorem next_low_bad (B b : Nat) (w : World) (wd : List UInt8) (wds : List (List UInt8)) (bd : Bool) (c : UInt8) (d : Int) (hn : Pl.hex c < 0) (h : Holds B b w ⟨(.low d), wd, wds, bd⟩) (hBw : B ≤ w.heap.size) (hl : wd.length < 1000000) (hl2 : wds.length < 1000000) :
    Calls Tryd.prog 17 #[.pointer (some ⟨b, 0, none⟩), .int .u8 c.toNat] w (Became B b w (Pl.step ⟨(.low d), wd, wds, bd⟩ c)) := by
  obtain ⟨vw, vs, dg, hdg, hB, hbk, h1, h2⟩ := rdPre h
  have d0 : w.cell? ⟨b, 0, none⟩ = some (.int .i64 5) := by rw [Lib.cell_of_heap hbk]; rfl
  have f0 : w.frozen? ⟨b, 0, none⟩ = false := Lib.frozen_of_heap hbk 0
  have d1 : w.cell? ⟨b, 1, none⟩ = some vw := by rw [Lib.cell_of_heap hbk]; rfl
  have d3 : w.cell? ⟨b, 3, none⟩ = some (.int .i64 dg) := by rw [Lib.cell_of_heap hbk]; rfl
  have f3 : w.frozen? ⟨b, 3, none⟩ = false := Lib.frozen_of_heap hbk 3
  have d4 : w.cell? ⟨b, 4, none⟩ = some (.bool bd) := by rw [Lib.cell_of_heap hbk]; rfl
  have f4 : w.frozen? ⟨b, 4, none⟩ = false := Lib.frozen_of_heap hbk 4
  have HE : Aside0 (Pl.step ⟨.low d, wd, wds, bd⟩ c = ⟨.quo, wd, wds, true⟩) := ⟨by simp [Pl.step, hn]⟩
  go_enter Tryd.func17, Tryd.ntmps17
  go_wp2_with (go_at_call 28; refine (hex _ c).mono ?_; rintro e w' ⟨rfl, rfl⟩)
  go_end0
  refine ⟨rfl, ?_, (below_put hB _ _).setCell (p := ⟨b, 0, none⟩) hB _⟩
  rw [HE.out]
  exact h.putBad.putIn .quo (fun d hd => by cases hd) 2 rfl

set_option maxHeartbeats 8000000 in
set_option maxRecDepth 100000 in
theorem next_low_ok (B b : Nat) (w : World) (wd : List UInt8) (wds : List (List UInt8)) (bd : Bool) (c : UInt8) (d : Int) (hn : 0 ≤ Pl.hex c) (hd0 : 0 ≤ d) (hd1 : d ≤ 15) (h : Holds B b w ⟨(.low d), wd, wds, bd⟩) (hBw : B ≤ w.heap.size) (hl : wd.length < 1000000) (hl2 : wds.length < 1000000) :
    Calls Tryd.prog 17 #[.pointer (some ⟨b, 0, none⟩), .int .u8 c.toNat] w (Became B b w (Pl.step ⟨(.low d), wd, wds, bd⟩ c)) := by
  obtain ⟨vw, vs, dg, hdg, hB, hbk, h1, h2⟩ := rdPre h
  have d0 : w.cell? ⟨b, 0, none⟩ = some (.int .i64 5) := by rw [Lib.cell_of_heap hbk]; rfl
  have f0 : w.frozen? ⟨b, 0, none⟩ = false := Lib.frozen_of_heap hbk 0
  have d1 : w.cell? ⟨b, 1, none⟩ = some vw := by rw [Lib.cell_of_heap hbk]; rfl
  have d3 : w.cell? ⟨b, 3, none⟩ = some (.int .i64 dg) := by rw [Lib.cell_of_heap hbk]; rfl
  have f3 : w.frozen? ⟨b, 3, none⟩ = false := Lib.frozen_of_heap hbk 3
  have d4 : w.cell? ⟨b, 4, none⟩ = some (.bool bd) := by rw [Lib.cell_of_heap hbk]; rfl
  have f4 : w.frozen? ⟨b, 4, none⟩ = false := Lib.frozen_of_heap hbk 4
  have hx := Pl.hex_range c
  obtain rfl : dg = d := hdg d rfl
  have HE : Aside0 (Pl.step ⟨.low dg, wd, wds, bd⟩ c = ⟨.quo, wd ++ [Pl.byteOf (16 * dg + Pl.hex c)], wds, bd⟩) := ⟨by have : ¬ Pl.hex c < 0 := (by omega); simp [Pl.step, this]⟩
  have hl' : wd.length < 1000000 := hl
  obtain ⟨i0, hi0, hz0, hz1, hz2⟩ := info_parts info5
  have hv := byteOf_toNat (n := 16 * dg + Pl.hex c) (by omega) (by omega)
  have HV := Aside0.mk hv
  clear hv
  have k0 : 0 ≤ 16 * dg + Pl.hex c := by omega
  have k1 : 16 * dg + Pl.hex c ≤ 255 := by omega
  have d1a : (w.alloc (.cells #[.int .u8 (16 * dg + Pl.hex c)] 5)).cell? ⟨b, 1, none⟩ = some vw := by rw [Lib.cell_of_heap ((Lib.alloc_old w _ b (heap_lt hbk)).trans hbk)]; rfl
  have w1e : IntKind.i64.wrap (16 * dg) = 16 * dg := IntWalk.i64_in _ (by omega)
  have w2e : IntKind.i64.wrap (16 * dg + Pl.hex c) = 16 * dg + Pl.hex c := IntWalk.i64_in _ (by omega)
  have w3e : IntKind.u8.wrap (16 * dg + Pl.hex c) = 16 * dg + Pl.hex c := IntWalk.u8_in _ (by omega)
  go_enter Tryd.func17, Tryd.ntmps17
  go_wp2_with (go_at_call 28; refine (hex _ c).mono ?_; rintro e w' ⟨rfl, rfl⟩)
  go_region_law (first | (refine step_append_lies _ (by rfl) _ _ _ (by rfl) B 5 i0 _ 1 1 Tryd.underlying33 hi0 hz0 hz1 hz2 rfl (by omega) vw wd.length (Lib.byteCells wd) (by rfl) ((h1.alloc _).drew) ⟨w.heap.size, 0, none⟩ 1 1 [.int .u8 (16 * dg + Pl.hex c)] (by rfl) (by rfl) (World.news_of_block (cs := #[.int .u8 (16 * dg + Pl.hex c)]) (t := 5) (fr := (0, 0)) (heap_alloc_new w _)) (by simp [Value.oneCell']) (by omega) (by unfold maxLen; omega) (by omega) (by simp; omega) (w.heap.size + 1) (by simp) ?_; intro gg cap w1 hown1 hgrow hat hlt1; obtain ⟨hb2, p1, p2⟩ := pushed (Pl.byteOf (16 * dg + Pl.hex c)) hB hBw hbk h1 h2 (by rw [HV.out]; exact hown1) (undrew hgrow); have d1' : w1.cell? ⟨b, 1, none⟩ = some vw := (by rw [Lib.cell_of_heap hb2]; rfl); have f1 : w1.frozen? ⟨b, 1, none⟩ = false := Lib.frozen_of_heap hb2 1; have d0' : w1.cell? ⟨b, 0, none⟩ = some (.int .i64 5) := (by rw [Lib.cell_of_heap hb2]; rfl); have f0' : w1.frozen? ⟨b, 0, none⟩ = false := Lib.frozen_of_heap hb2 0))
  all_goals
    go_wp2
    go_end0
    refine ⟨rfl, ?_, p2.setCell (p := ⟨b, 0, none⟩) hB _⟩
    rw [HE.out]
    exact ⟨dg, (fun d hd => by cases hd), p1.putIn 2⟩

theorem next (B b : Nat) (w : World) (s : Pl.St) (c : UInt8) (hf : Fine s) (hb : s.bad = false) (h : Holds B b w s) (hBw : B ≤ w.heap.size) (hl : s.word.length < 1000000) (hl2 : s.words.length < 1000000) :
    Calls Tryd.prog 17 #[.pointer (some ⟨b, 0, none⟩), .int .u8 c.toNat] w (Became B b w (Pl.step s c)) := by
  obtain ⟨m, wd, wds, bd⟩ := s
  cases m with
  | btw => exact next_btw B b w wd wds bd c h hBw hl hl2
  | bare => exact next_bare B b w wd wds bd c h hBw hl hl2
  | quo => exact next_quo B b w wd wds bd c h hBw hl hl2
  | esc => exact next_esc B b w wd wds bd c h hBw hl hl2
  | high => exact next_high B b w wd wds bd c h hBw hl hl2
  | behind => exact next_behind B b w wd wds bd c h hBw hl hl2
  | comm => exact next_comm B b w wd wds bd c h hBw hl hl2
  | low d =>
    by_cases hn : Pl.hex c < 0
    · exact next_low_bad B b w wd wds bd c d hn h hBw hl hl2
    · exact next_low_ok B b w wd wds bd c d (by omega) (hf d rfl hb).1 (hf d rfl hb).2 h hBw hl hl2
end Go.Proofs.YtecpdmoieoibnaaDoor.Rf
