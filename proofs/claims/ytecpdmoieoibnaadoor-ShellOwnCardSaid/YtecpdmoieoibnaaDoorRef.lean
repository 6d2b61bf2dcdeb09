/- Proved: the reference's reader of words, method by method, is the byte machine. Conditions: none. -/
import Derived.Test.YtecpdmoieoibnaaDoorPlain
import Derived.Test.YtecpdmoieoibnaaDoorProg
import Derived.Test.YtecpdmoieoibnaaDoorWWords
import Derived.WalkKit
import Derived.Outline
import Derived.Lib.FrozenHead2
import Derived.Deep.RegionLaw
import Derived.MapKept
import Derived.Deep.AppendLies
set_option linter.unusedVariables false
set_option linter.unusedSimpArgs false
namespace Go.Proofs.YtecpdmoieoibnaaDoor.Rf
open Go.RowKit Go.Proofs.YtecpdmoieoibnaaDoorW.PrintWords

theorem info5 : (Tryd.prog.info? 5).map (fun i => (i.zero, i.size, i.bytes)) = some (some (.int .u8 0), 1, 1) := by kernel_rfl
theorem info9 : (Tryd.prog.info? 9).map (fun i => (i.zero, i.size, i.bytes)) = some (some (.string ⟨#[]⟩), 1, 16) := by kernel_rfl

/-- The reader in block b, one of the call's own (from B on). -/
def RdAt (B b : Nat) (w : World) (cin : Int) (word : List UInt8) (words : List ByteArray) (dg : Int) (bad : Bool) : Prop :=
  B ≤ b ∧ ∃ vw vs, w.heap[b]? = some (.cells #[.int .i64 cin, vw, vs, .int .i64 dg, .bool bad] 44 (0, 0)) ∧ w.ownsRow B 5 1 vw word.length (Lib.byteCells word) ∧ w.ownsRow B 9 1 vs words.length (words.map Value.string)

theorem heap_lt {w : World} {b : Nat} {o : Obj} (h : w.heap[b]? = some o) : b < w.heap.size := (Array.getElem?_eq_some_iff.1 h).1

theorem heap_put {w : World} {b i : Nat} {cs : Array Value} {t : TypeId} (v : Value) (h : w.heap[b]? = some (.cells cs t (0, 0))) : (w.setCell ⟨b, i, none⟩ v).heap[b]? = some (.cells (cs.setIfInBounds i v) t (0, 0)) := blk_set h i v

theorem own_put {w : World} {B b e i n : Nat} {v : Value} {xs : List Value} {cs : Array Value} (hv : w.ownsRow B e 1 v n xs) (h : w.heap[b]? = some (.cells cs 44 (0, 0))) (he : e ≠ 44) (u : Value) : (w.setCell ⟨b, i, none⟩ u).ownsRow B e 1 v n xs :=
  own_setCell hv (own_ne hv h he) u

theorem RdAt.putIn {B b : Nat} {w : World} {cin dg : Int} {word words bad} (h : RdAt B b w cin word words dg bad) (x : Int) : RdAt B b (w.setCell ⟨b, 0, none⟩ (.int .i64 x)) x word words dg bad := by
  obtain ⟨hB, vw, vs, hb, h1, h2⟩ := h
  exact ⟨hB, vw, vs, heap_put _ hb, own_put h1 hb (by decide) _, own_put h2 hb (by decide) _⟩
theorem RdAt.putBad {B b : Nat} {w : World} {cin dg : Int} {word words bad} (h : RdAt B b w cin word words dg bad) (x : Bool) : RdAt B b (w.setCell ⟨b, 4, none⟩ (.bool x)) cin word words dg x := by
  obtain ⟨hB, vw, vs, hb, h1, h2⟩ := h
  exact ⟨hB, vw, vs, heap_put _ hb, own_put h1 hb (by decide) _, own_put h2 hb (by decide) _⟩
theorem RdAt.putDg {B b : Nat} {w : World} {cin dg : Int} {word words bad} (h : RdAt B b w cin word words dg bad) (x : Int) : RdAt B b (w.setCell ⟨b, 3, none⟩ (.int .i64 x)) cin word words x bad := by
  obtain ⟨hB, vw, vs, hb, h1, h2⟩ := h
  exact ⟨hB, vw, vs, heap_put _ hb, own_put h1 hb (by decide) _, own_put h2 hb (by decide) _⟩
theorem RdAt.drewN {B b : Nat} {w : World} {cin dg : Int} {word words bad} (h : RdAt B b w cin word words dg bad) (n : Nat) : RdAt B b (w.drewN n) cin word words dg bad := by
  obtain ⟨hB, vw, vs, hb, h1, h2⟩ := h
  have e : ∀ k : Nat, (w.drewN n).heap[k]? = w.heap[k]? := fun k => by simp
  exact ⟨hB, vw, vs, (e b).trans hb, own_move h1 (fun k _ => e k), own_move h2 (fun k _ => e k)⟩

theorem own_apart {w : World} {B e e' n n' : Nat} {v v' : Value} {xs xs' : List Value} (h : w.ownsRow B e 1 v n xs) (h' : w.ownsRow B e' 1 v' n' xs') (hne : e ≠ e') : v.ownBlock = none ∨ v.ownBlock ≠ v'.ownBlock := by
  cases hv : v.ownBlock with
  | none => exact .inl rfl
  | some k =>
    right
    intro e2
    obtain ⟨c, hc⟩ := own_typed h k hv
    obtain ⟨c', hc'⟩ := own_typed h' k e2.symm
    rw [hc] at hc'
    injection hc' with hc'
    injection hc' with _ hc'
    exact hne hc'

/-- Behind an append to the word. -/
theorem pushed {B b : Nat} {w w2 : World} {cin dg : Int} {bad : Bool} {vw vs v' : Value} {word : List UInt8} {words : List ByteArray} {o : Obj} (c : UInt8) (hB : B ≤ b) (hBw : B ≤ w.heap.size)
    (hbk : w.heap[b]? = some (.cells #[.int .i64 cin, vw, vs, .int .i64 dg, .bool bad] 44 (0, 0))) (h1 : w.ownsRow B 5 1 vw word.length (Lib.byteCells word)) (h2 : w.ownsRow B 9 1 vs words.length (words.map Value.string))
    (hown' : w2.ownsRow B 5 1 v' (word.length + 1) (Lib.byteCells word ++ [.int .u8 c.toNat])) (hg : (w.alloc o).grownBy w2 vw.ownBlock) :
    w2.heap[b]? = some (.cells #[.int .i64 cin, vw, vs, .int .i64 dg, .bool bad] 44 (0, 0)) ∧ RdAt B b (w2.setCell ⟨b, 1, none⟩ v') cin (word ++ [c]) words dg bad ∧ Below B w (w2.setCell ⟨b, 1, none⟩ v') := by
  have hlt := heap_lt hbk
  have hbA : (w.alloc o).heap[b]? = some (.cells #[.int .i64 cin, vw, vs, .int .i64 dg, .bool bad] 44 (0, 0)) := by rw [Lib.alloc_old w o b hlt]; exact hbk
  have hb2 : w2.heap[b]? = some (.cells #[.int .i64 cin, vw, vs, .int .i64 dg, .bool bad] 44 (0, 0)) := by
    rw [hg.block b (heap_lt hbA) (own_ne h1 hbk (by decide))]
    exact hbA
  have h2' : w2.ownsRow B 9 1 vs words.length (words.map Value.string) := own_other (h2.alloc o) hg (own_apart h2 h1 (by decide))
  refine ⟨hb2, ⟨hB, v', vs, heap_put _ hb2, ?_, own_put h2' hb2 (by decide) _⟩, ?_⟩
  · have := own_put (i := 1) hown' hb2 (by decide) v'
    simpa [Lib.byteCells_append, Lib.byteCells] using this
  · exact (((Below.refl B w).alloc hBw o).grown hg (by simp; omega) (fun k hk => (h1.lt k hk).1)).setCell (p := ⟨b, 1, none⟩) hB _

theorem slice_of {w : World} {B e n : Nat} {v : Value} {xs : List Value} (h : w.ownsRow B e 1 v n xs) : ∃ ao n' cap, v = .slice ao n' cap := by
  rcases h.2 with ⟨hv, _⟩ | ⟨g, cap, cur, hv, _⟩
  · exact ⟨_, _, _, hv⟩
  · exact ⟨_, _, _, hv⟩
theorem slice_len {w : World} {B e n : Nat} {v : Value} {xs : List Value} (h : w.ownsRow B e 1 v n xs) : ∃ ao cap, v = .slice ao n cap := by
  rcases h.2 with ⟨hv, rfl⟩ | ⟨g, cap, cur, hv, _⟩
  · exact ⟨_, _, hv⟩
  · exact ⟨_, _, hv⟩

theorem alloc_at {W : World} {o : Obj} {k : Nat} (h : k = W.heap.size) : (W.alloc o).heap[k]? = some o := by subst h; exact (MapKept.heap_alloc W o).1
theorem le_alloc {W : World} {o : Obj} {B : Nat} (h : B ≤ W.heap.size) : B ≤ (W.alloc o).heap.size := by show B ≤ (W.heap.push o).size; simp; omega
section
variable {P : Program}
/-- One byte appended to a row of bytes of the call's own. -/
theorem push1 {w : World} {ops : Array Oper} {rest : List Oper} {o : Oper} {a : Act} {Q : Exit → Act → World → Prop} (hgd : o.guard = none) (s x : Operand)
    (ho : o.op = .call { callee := .builtin .append, args := #[s, x], argTypes := #[33, 33] }) (base : Nat) (v : Value) (n : Nat) (xs : List Value) (hs : a.eval s = v) (hown : w.ownsRow base 5 1 v n xs)
    (k : Nat) (c : Int) (hx : a.eval x = .slice (some ⟨k, 0, none⟩) 1 1) (hk : w.heap[k]? = some (.cells #[.int .u8 c] 5 (0, 0))) (hn : n < 1000000) (hb : base ≤ w.heap.size)
    (h : ∀ v' w', w'.ownsRow base 5 1 v' (n + 1) (xs ++ [.int .u8 c]) → w.grownBy w' v.ownBlock → wpList Tryd.prog ops Q rest (a.put o.dst v') w') : wpList Tryd.prog ops Q (o :: rest) a w := by
  obtain ⟨i0, hi, hz0, hz1, hz2⟩ := info_parts info5
  refine wpList_append_own w hgd s x 33 ho base 5 i0 (.int .u8 0) 1 1 Tryd.underlying33 hi hz0 hz1 hz2 rfl (by decide) v n xs hs hown ⟨k, 0, none⟩ 1 1 [.int .u8 c] hx rfl ?_ ?_ (by unfold maxLen; omega) (by omega) hb (fun v' w' h1 h2 _ => h v' w' h1 h2)
  · intro j u hj
    match j, hj with
    | 0, hj => simp at hj; subst hj; simp [Addr.add, World.cell?, hk]
  · intro u hu; simp at hu; subst hu; rfl
/-- One string appended to a row of strings of the call's own. -/
theorem push9 {w : World} {ops : Array Oper} {rest : List Oper} {o : Oper} {a : Act} {Q : Exit → Act → World → Prop} (hgd : o.guard = none) (s x : Operand)
    (ho : o.op = .call { callee := .builtin .append, args := #[s, x], argTypes := #[22, 22] }) (base : Nat) (v : Value) (n : Nat) (xs : List Value) (hs : a.eval s = v) (hown : w.ownsRow base 9 1 v n xs)
    (k : Nat) (c : ByteArray) (hx : a.eval x = .slice (some ⟨k, 0, none⟩) 1 1) (hk : w.heap[k]? = some (.cells #[.string c] 9 (0, 0))) (hn : n < 1000000) (hb : base ≤ w.heap.size)
    (h : ∀ v' w', w'.ownsRow base 9 1 v' (n + 1) (xs ++ [.string c]) → w.grownBy w' v.ownBlock → wpList Tryd.prog ops Q rest (a.put o.dst v') w') : wpList Tryd.prog ops Q (o :: rest) a w := by
  obtain ⟨i0, hi, hz0, hz1, hz2⟩ := info_parts info9
  refine wpList_append_own w hgd s x 22 ho base 9 i0 (.string ⟨#[]⟩) 1 16 Tryd.underlying22 hi hz0 hz1 hz2 rfl (by decide) v n xs hs hown ⟨k, 0, none⟩ 1 1 [.string c] hx rfl ?_ ?_ (by unfold maxLen; omega) (by omega) hb (fun v' w' h1 h2 _ => h v' w' h1 h2)
  · intro j u hj
    match j, hj with
    | 0, hj => simp at hj; subst hj; simp [Addr.add, World.cell?, hk]
  · intro u hu; simp at hu; subst hu; rfl
end

theorem u8_eq (c : UInt8) (k : Nat) : ((c.toNat : Int) == (k : Int)) = (c.toNat == k) := by
  rw [Bool.eq_iff_iff]; simp; omega
theorem u8_is {c : UInt8} {k : Nat} (h : c.toNat = k) : ((c.toNat : Int) == (k : Int)) = true := by rw [u8_eq]; simpa using h
theorem u8_not {c : UInt8} {k : Nat} (h : c.toNat ≠ k) : ((c.toNat : Int) == (k : Int)) = false := by rw [u8_eq]; simpa using h

set_option maxHeartbeats 2000000 in
set_option maxRecDepth 100000 in
/-- plain at a byte that may stand. -/
theorem plain_ok (B b : Nat) (w : World) (cin : Int) (word : List UInt8) (words : List ByteArray) (dg : Int) (bad : Bool) (c : UInt8) (h : RdAt B b w cin word words dg bad) (hBw : B ≤ w.heap.size) (hl : word.length < 1000000) (hc : Pl.isBar c = false) :
    Calls Tryd.prog 25 #[.pointer (some ⟨b, 0, none⟩), .int .u8 c.toNat] w fun e w' => e = .returned (.tuple #[]) ∧ RdAt B b w' cin (word ++ [c]) words dg bad ∧ Below B w w' := by
  obtain ⟨hB, vw, vs, hbk, h1, h2⟩ := h
  have d1 : w.cell? ⟨b, 1, none⟩ = some vw := by rw [Lib.cell_of_heap hbk]; rfl
  simp only [Pl.isBar, Bool.or_eq_false_iff] at hc
  obtain ⟨⟨⟨t1, t2⟩, t3⟩, t4⟩ := hc
  have e1 : ¬ ((c.toNat : Int) < 32) := by simp at t1; omega
  have e2 : ((c.toNat : Int) == 127) = false := u8_not (k := 127) (by simpa using t2)
  have e3 : ((c.toNat : Int) == 34) = false := u8_not (k := 34) (by simpa using t3)
  have e4 : ((c.toNat : Int) == 92) = false := u8_not (k := 92) (by simpa using t4)
  clear t1 t2 t3 t4
  go_enter Tryd.func25, Tryd.ntmps25
  go_wp2_with (at_builtin; refine push1 rfl _ _ rfl B _ _ _ rfl (h1.alloc _) _ _ rfl (alloc_at (by first | rfl | simp [World.setCell])) hl (le_alloc hBw) ?_)
  intro v' w2 hown' hgrow
  obtain ⟨hb2, p1, p2⟩ := pushed c hB hBw hbk h1 h2 hown' hgrow
  have d1' : w2.cell? ⟨b, 1, none⟩ = some vw := by rw [Lib.cell_of_heap hb2]; rfl
  have f1 : w2.frozen? ⟨b, 1, none⟩ = false := Lib.frozen_of_heap hb2 1
  obtain ⟨ao, n', cap, rfl⟩ := slice_of hown'
  go_wp2
  go_end0
  exact ⟨rfl, p1, p2⟩

theorem bar_ways {c : UInt8} (h : Pl.isBar c = true) : (c.toNat < 32) ∨ (¬ c.toNat < 32 ∧ c.toNat = 127) ∨ (¬ c.toNat < 32 ∧ c.toNat ≠ 127 ∧ c.toNat = 34) ∨ (¬ c.toNat < 32 ∧ c.toNat ≠ 127 ∧ c.toNat ≠ 34 ∧ c.toNat = 92) := by
  simp only [Pl.isBar, Bool.or_eq_true, decide_eq_true_eq, beq_iff_eq] at h
  omega

set_option maxHeartbeats 4000000 in
set_option maxRecDepth 100000 in
/-- plain at a byte that may not stand. -/
theorem plain_bad (B b : Nat) (w : World) (cin : Int) (word : List UInt8) (words : List ByteArray) (dg : Int) (bad : Bool) (c : UInt8) (h : RdAt B b w cin word words dg bad) (hBw : B ≤ w.heap.size) (hl : word.length < 1000000) (hc : Pl.isBar c = true) :
    Calls Tryd.prog 25 #[.pointer (some ⟨b, 0, none⟩), .int .u8 c.toNat] w fun e w' => e = .returned (.tuple #[]) ∧ RdAt B b w' cin (word ++ [c]) words dg true ∧ Below B w w' := by
  obtain ⟨hB, vw, vs, hbk, h1, h2⟩ := h
  have d1 : w.cell? ⟨b, 1, none⟩ = some vw := by rw [Lib.cell_of_heap hbk]; rfl
  have d4 : w.cell? ⟨b, 4, none⟩ = some (.bool bad) := by rw [Lib.cell_of_heap hbk]; rfl
  have f4 : w.frozen? ⟨b, 4, none⟩ = false := Lib.frozen_of_heap hbk 4
  have hbk' : (w.setCell ⟨b, 4, none⟩ (.bool true)).heap[b]? = some (.cells #[.int .i64 cin, vw, vs, .int .i64 dg, .bool true] 44 (0, 0)) := heap_put _ hbk
  have h1' := own_put (i := 4) h1 hbk (by decide) (.bool true)
  have h2' := own_put (i := 4) h2 hbk (by decide) (.bool true)
  have hB1 : Below B w (w.setCell ⟨b, 4, none⟩ (.bool true)) := (Below.refl B w).setCell (p := ⟨b, 4, none⟩) hB _
  have hBw' := Nat.le_trans hBw hB1.size
  rcases bar_ways hc with t1 | ⟨t1, t2⟩ | ⟨t1, t2, t3⟩ | ⟨t1, t2, t3, t4⟩
  · have e1 : ((c.toNat : Int) < 32) := by omega
    clear t1
    go_enter Tryd.func25, Tryd.ntmps25
    go_wp2_with (at_builtin; refine push1 rfl _ _ rfl B _ _ _ rfl (h1'.alloc _) _ _ rfl (alloc_at (by first | rfl | simp [World.setCell])) hl (le_alloc hBw') ?_)
    intro v' w2 hown' hgrow
    obtain ⟨hb2, p1, p2⟩ := pushed c hB hBw' hbk' h1' h2' hown' hgrow
    have d1' : w2.cell? ⟨b, 1, none⟩ = some vw := by rw [Lib.cell_of_heap hb2]; rfl
    have f1 : w2.frozen? ⟨b, 1, none⟩ = false := Lib.frozen_of_heap hb2 1
    obtain ⟨ao, n', cap, rfl⟩ := slice_of hown'
    go_wp2
    go_end0
    exact ⟨rfl, p1, hB1.trans p2⟩
  · have e1 : ¬ ((c.toNat : Int) < 32) := by omega
    have e2 : ((c.toNat : Int) == 127) = true := u8_is (k := 127) t2
    clear t1 t2
    go_enter Tryd.func25, Tryd.ntmps25
    go_wp2_with (at_builtin; refine push1 rfl _ _ rfl B _ _ _ rfl (h1'.alloc _) _ _ rfl (alloc_at (by first | rfl | simp [World.setCell])) hl (le_alloc hBw') ?_)
    intro v' w2 hown' hgrow
    obtain ⟨hb2, p1, p2⟩ := pushed c hB hBw' hbk' h1' h2' hown' hgrow
    have d1' : w2.cell? ⟨b, 1, none⟩ = some vw := by rw [Lib.cell_of_heap hb2]; rfl
    have f1 : w2.frozen? ⟨b, 1, none⟩ = false := Lib.frozen_of_heap hb2 1
    obtain ⟨ao, n', cap, rfl⟩ := slice_of hown'
    go_wp2
    go_end0
    exact ⟨rfl, p1, hB1.trans p2⟩
  · have e1 : ¬ ((c.toNat : Int) < 32) := by omega
    have e2 : ((c.toNat : Int) == 127) = false := u8_not (k := 127) t2
    have e3 : ((c.toNat : Int) == 34) = true := u8_is (k := 34) t3
    clear t1 t2 t3
    go_enter Tryd.func25, Tryd.ntmps25
    go_wp2_with (at_builtin; refine push1 rfl _ _ rfl B _ _ _ rfl (h1'.alloc _) _ _ rfl (alloc_at (by first | rfl | simp [World.setCell])) hl (le_alloc hBw') ?_)
    intro v' w2 hown' hgrow
    obtain ⟨hb2, p1, p2⟩ := pushed c hB hBw' hbk' h1' h2' hown' hgrow
    have d1' : w2.cell? ⟨b, 1, none⟩ = some vw := by rw [Lib.cell_of_heap hb2]; rfl
    have f1 : w2.frozen? ⟨b, 1, none⟩ = false := Lib.frozen_of_heap hb2 1
    obtain ⟨ao, n', cap, rfl⟩ := slice_of hown'
    go_wp2
    go_end0
    exact ⟨rfl, p1, hB1.trans p2⟩
  · have e1 : ¬ ((c.toNat : Int) < 32) := by omega
    have e2 : ((c.toNat : Int) == 127) = false := u8_not (k := 127) t2
    have e3 : ((c.toNat : Int) == 34) = false := u8_not (k := 34) t3
    have e4 : ((c.toNat : Int) == 92) = true := u8_is (k := 92) t4
    clear t1 t2 t3 t4
    go_enter Tryd.func25, Tryd.ntmps25
    go_wp2_with (at_builtin; refine push1 rfl _ _ rfl B _ _ _ rfl (h1'.alloc _) _ _ rfl (alloc_at (by first | rfl | simp [World.setCell])) hl (le_alloc hBw') ?_)
    intro v' w2 hown' hgrow
    obtain ⟨hb2, p1, p2⟩ := pushed c hB hBw' hbk' h1' h2' hown' hgrow
    have d1' : w2.cell? ⟨b, 1, none⟩ = some vw := by rw [Lib.cell_of_heap hb2]; rfl
    have f1 : w2.frozen? ⟨b, 1, none⟩ = false := Lib.frozen_of_heap hb2 1
    obtain ⟨ao, n', cap, rfl⟩ := slice_of hown'
    go_wp2
    go_end0
    exact ⟨rfl, p1, hB1.trans p2⟩
theorem strOf_bytes (word : List UInt8) : strOfNums (word.map fun b => (b.toNat : Int)) = ⟨word.toArray⟩ := by
  simp [strOfNums, Function.comp_def]
theorem conv_word {w : World} {B n : Nat} {v : Value} {word : List UInt8} (h : w.ownsRow B 5 1 v n (Lib.byteCells word)) : (convert 33 9 v).run Tryd.prog w = .ok (.string ⟨word.toArray⟩) w := by
  rw [← strOf_bytes]
  refine own_string (base := B) (n := n) (e' := 5) Tryd.underlying33 Tryd.underlying5 Tryd.underlying9 ?_
  simpa [nums, Lib.byteCells, Function.comp_def] using h

/-- Behind an append to the words. -/
theorem pushedS {B b : Nat} {w w2 : World} {cin dg : Int} {bad : Bool} {vw vs v' : Value} {word : List UInt8} {words : List ByteArray} {o : Obj} {c : ByteArray} (hB : B ≤ b) (hBw : B ≤ w.heap.size)
    (hbk : w.heap[b]? = some (.cells #[.int .i64 cin, vw, vs, .int .i64 dg, .bool bad] 44 (0, 0))) (h1 : w.ownsRow B 5 1 vw word.length (Lib.byteCells word)) (h2 : w.ownsRow B 9 1 vs words.length (words.map Value.string))
    (hown' : w2.ownsRow B 9 1 v' (words.length + 1) (words.map Value.string ++ [.string c])) (hg : (w.alloc o).drew.grownBy w2 vs.ownBlock) :
    w2.heap[b]? = some (.cells #[.int .i64 cin, vw, vs, .int .i64 dg, .bool bad] 44 (0, 0)) ∧ RdAt B b (w2.setCell ⟨b, 2, none⟩ v') cin word (words ++ [c]) dg bad ∧ Below B w (w2.setCell ⟨b, 2, none⟩ v') := by
  have hlt := heap_lt hbk
  have hbA : (w.alloc o).drew.heap[b]? = some (.cells #[.int .i64 cin, vw, vs, .int .i64 dg, .bool bad] 44 (0, 0)) := (Lib.alloc_old w o b hlt).trans hbk
  have hb2 : w2.heap[b]? = some (.cells #[.int .i64 cin, vw, vs, .int .i64 dg, .bool bad] 44 (0, 0)) := by
    rw [hg.block b (heap_lt hbA) (own_ne h2 hbk (by decide))]
    exact hbA
  have h1' : w2.ownsRow B 5 1 vw word.length (Lib.byteCells word) := own_other ((h1.alloc o).drew) hg (own_apart h1 h2 (by decide))
  refine ⟨hb2, ⟨hB, vw, v', heap_put _ hb2, own_put h1' hb2 (by decide) _, ?_⟩, ?_⟩
  · have := own_put (i := 2) hown' hb2 (by decide) v'
    simpa using this
  · exact ((((Below.refl B w).alloc hBw o).drew).grown hg (by simp; omega) (fun k hk => (h2.lt k hk).1)).setCell (p := ⟨b, 2, none⟩) hB _

theorem RdAt.clear {B b : Nat} {w : World} {cin dg : Int} {word words bad} (h : RdAt B b w cin word words dg bad) : RdAt B b (w.setCell ⟨b, 1, none⟩ (.slice none 0 0)) cin [] words dg bad := by
  obtain ⟨hB, vw, vs, hb, h1, h2⟩ := h
  exact ⟨hB, _, vs, heap_put _ hb, World.ownsRow_nil _ _ _ _, own_put h2 hb (by decide) _⟩

set_option maxHeartbeats 4000000 in
set_option maxRecDepth 100000 in
theorem ends (B b : Nat) (w : World) (cin : Int) (word : List UInt8) (words : List ByteArray) (dg : Int) (bad : Bool) (h : RdAt B b w cin word words dg bad) (hBw : B ≤ w.heap.size) (hl : words.length < 1000000) :
    Calls Tryd.prog 18 #[.pointer (some ⟨b, 0, none⟩)] w fun e w' => e = .returned (.tuple #[]) ∧ RdAt B b w' cin [] (words ++ [⟨word.toArray⟩]) dg bad ∧ Below B w w' := by
  obtain ⟨i0, hi0, hz0, hz1, hz2⟩ := info_parts info9
  obtain ⟨hB, vw, vs, hbk, h1, h2⟩ := h
  have d1 : w.cell? ⟨b, 1, none⟩ = some vw := by rw [Lib.cell_of_heap hbk]; rfl
  have d2 : w.cell? ⟨b, 2, none⟩ = some vs := by rw [Lib.cell_of_heap hbk]; rfl
  have hcv : (convert 33 9 vw).run Tryd.prog w.drew = .ok (.string ⟨word.toArray⟩) w.drew := conv_word (w := w.drew) h1
  have hlt := heap_lt hbk
  go_enter Tryd.func18, Tryd.ntmps18
  go_wp2_with fail
  go_region_law (first | (refine step_append_lies _ (by rfl) _ _ _ (by rfl) B 9 i0 _ 1 16 Tryd.underlying22 hi0 hz0 hz1 hz2 rfl (by omega) vs words.length (words.map Value.string) (by rfl) ((h2.alloc _).drew) ⟨w.heap.size, 0, none⟩ 1 1 [.string ⟨word.toArray⟩] (by rfl) (by rfl) (World.news_of_block (cs := #[.string ⟨word.toArray⟩]) (t := 9) (fr := (0, 0)) (heap_alloc_new w _)) (by simp [Value.oneCell']) (by omega) (by unfold maxLen; omega) (by omega) (by simp; omega) (w.heap.size + 1) (by simp) ?_; intro gg cap w1 hown1 hgrow hat hlt1; obtain ⟨hb2, p1, p2⟩ := pushedS hB hBw hbk h1 h2 hown1 hgrow; have d2' : w1.cell? ⟨b, 2, none⟩ = some vs := (by rw [Lib.cell_of_heap hb2]; rfl); have f2 : w1.frozen? ⟨b, 2, none⟩ = false := Lib.frozen_of_heap hb2 2; have d1' : w1.cell? ⟨b, 1, none⟩ = some vw := (by rw [Lib.cell_of_heap hb2]; rfl); have f1 : w1.frozen? ⟨b, 1, none⟩ = false := Lib.frozen_of_heap hb2 1))
  all_goals
    go_wp2
    go_end0
    exact ⟨rfl, p1.clear, p2.setCell (p := ⟨b, 1, none⟩) hB _⟩

theorem below_put {B b : Nat} {w : World} (hB : B ≤ b) (i : Nat) (v : Value) : Below B w (w.setCell ⟨b, i, none⟩ v) := (Below.refl B w).setCell (p := ⟨b, i, none⟩) hB _
theorem size_put {w : World} {B b i : Nat} {v : Value} (h : B ≤ w.heap.size) : B ≤ (w.setCell ⟨b, i, none⟩ v).heap.size := by simpa [World.setCell] using h

/-- The reader in block b stands as the machine's state s. -/
def Holds (B b : Nat) (w : World) (s : Pl.St) : Prop := ∃ dg : Int, (∀ d, s.m = .low d → dg = d) ∧ RdAt B b w s.m.code s.word (s.words.map fun l => ⟨l.toArray⟩) dg s.bad
/-- What a method's call comes to. -/
def Became (B b : Nat) (w : World) (s : Pl.St) (e : Ending) (w' : World) : Prop := e = .returned (.tuple #[]) ∧ Holds B b w' s ∧ Below B w w'

theorem plain (B b : Nat) (w : World) (s : Pl.St) (c : UInt8) (h : Holds B b w s) (hBw : B ≤ w.heap.size) (hl : s.word.length < 1000000) :
    Calls Tryd.prog 25 #[.pointer (some ⟨b, 0, none⟩), .int .u8 c.toNat] w (Became B b w (Pl.plain s c)) := by
  obtain ⟨dg, hd, h⟩ := h
  cases hbar : Pl.isBar c with
  | false =>
    refine (plain_ok B b w _ _ _ _ _ c h hBw hl hbar).mono ?_
    rintro e W1 ⟨rfl, q1, q2⟩
    exact ⟨rfl, ⟨dg, hd, by simpa [Pl.plain, hbar] using q1⟩, q2⟩
  | true =>
    refine (plain_bad B b w _ _ _ _ _ c h hBw hl hbar).mono ?_
    rintro e W1 ⟨rfl, q1, q2⟩
    exact ⟨rfl, ⟨dg, hd, by simpa [Pl.plain, hbar] using q1⟩, q2⟩
theorem ends' (B b : Nat) (w : World) (s : Pl.St) (h : Holds B b w s) (hBw : B ≤ w.heap.size) (hl : s.words.length < 1000000) :
    Calls Tryd.prog 18 #[.pointer (some ⟨b, 0, none⟩)] w (Became B b w (Pl.ends s)) := by
  obtain ⟨dg, hd, h⟩ := h
  refine (ends B b w _ _ _ _ _ h hBw (by simpa using hl)).mono ?_
  rintro e W1 ⟨rfl, q1, q2⟩
  exact ⟨rfl, ⟨dg, hd, by simpa [Pl.ends] using q1⟩, q2⟩
theorem Holds.putIn {B b : Nat} {w : World} {s : Pl.St} (h : Holds B b w s) (m : Pl.Mode) (hm : ∀ d, m ≠ .low d) (x : Int) (hx : m.code = x) : Holds B b (w.setCell ⟨b, 0, none⟩ (.int .i64 x)) { s with m := m } := by
  obtain ⟨dg, hd, h⟩ := h
  exact ⟨dg, fun d hd' => absurd hd' (hm d), by subst hx; exact h.putIn _⟩
theorem Holds.putBad {B b : Nat} {w : World} {s : Pl.St} (h : Holds B b w s) : Holds B b (w.setCell ⟨b, 4, none⟩ (.bool true)) { s with bad := true } := by
  obtain ⟨dg, hd, h⟩ := h
  exact ⟨dg, hd, h.putBad true⟩
theorem Holds.known {B b : Nat} {w : World} {s : Pl.St} (h : Holds B b w s) : ∃ vw vs dg, w.cell? ⟨b, 0, none⟩ = some (.int .i64 s.m.code) ∧ w.frozen? ⟨b, 0, none⟩ = false ∧ w.cell? ⟨b, 1, none⟩ = some vw ∧ w.frozen? ⟨b, 1, none⟩ = false ∧
    w.cell? ⟨b, 3, none⟩ = some (.int .i64 dg) ∧ w.frozen? ⟨b, 3, none⟩ = false ∧ w.cell? ⟨b, 4, none⟩ = some (.bool s.bad) ∧ w.frozen? ⟨b, 4, none⟩ = false ∧ (∀ d, s.m = .low d → dg = d) ∧ w.cell? ⟨b, 2, none⟩ = some vs := by
  obtain ⟨dg, hd, hB, vw, vs, hbk, h1, h2⟩ := h
  refine ⟨vw, vs, dg, ?_, Lib.frozen_of_heap hbk 0, ?_, Lib.frozen_of_heap hbk 1, ?_, Lib.frozen_of_heap hbk 3, ?_, Lib.frozen_of_heap hbk 4, hd, ?_⟩ <;> (rw [Lib.cell_of_heap hbk]; rfl)
theorem Holds.le {B b : Nat} {w : World} {s : Pl.St} (h : Holds B b w s) : B ≤ b := by
  obtain ⟨dg, hd, hB, _⟩ := h
  exact hB

theorem first_ways (c : UInt8) : (c.toNat = 32) ∨ (¬ c.toNat = 32 ∧ c.toNat = 9) ∨ (¬ c.toNat = 32 ∧ ¬ c.toNat = 9 ∧ c.toNat = 35) ∨ (¬ c.toNat = 32 ∧ ¬ c.toNat = 9 ∧ ¬ c.toNat = 35 ∧ c.toNat = 34) ∨ (¬ c.toNat = 32 ∧ ¬ c.toNat = 9 ∧ ¬ c.toNat = 35 ∧ ¬ c.toNat = 34) := by omega

set_option maxHeartbeats 4000000 in
set_option maxRecDepth 100000 in
theorem first (B b : Nat) (w : World) (s : Pl.St) (c : UInt8) (h : Holds B b w s) (hBw : B ≤ w.heap.size) (hl : s.word.length < 1000000) :
    Calls Tryd.prog 24 #[.pointer (some ⟨b, 0, none⟩), .int .u8 c.toNat] w (Became B b w (Pl.first s c)) := by
  obtain ⟨vw, vs, dg, d0, f0, d1, f1, d3, f3, d4, f4, hdg, d2⟩ := h.known
  have hB := h.le
  rcases first_ways c with t0 | ⟨t0, t1⟩ | ⟨t0, t1, t2⟩ | ⟨t0, t1, t2, t3⟩ | ⟨t0, t1, t2, t3⟩
  · have hr : Pl.isBlank c = true := by simp [Pl.isBlank, t0]
    have HE : Aside0 (Pl.first s c = { s with m := .btw }) := ⟨by simp [Pl.first, hr]⟩
    clear hr
    have e0 : ((c.toNat : Int) == 32) = true := u8_is (k := 32) t0
    have g0 : ((c.toNat : Int) != 32) = false := by rw [bne, e0]; rfl
    clear t0
    go_enter Tryd.func24, Tryd.ntmps24
    go_wp2
    go_end0
    exact ⟨rfl, by rw [HE.out]; exact h.putIn _ (fun d hd => by cases hd) _ rfl, below_put hB _ _⟩
  · have hr : Pl.isBlank c = true := by simp [Pl.isBlank, t1]
    have HE : Aside0 (Pl.first s c = { s with m := .btw }) := ⟨by simp [Pl.first, hr]⟩
    clear hr
    have e0 : ((c.toNat : Int) == 32) = false := u8_not (k := 32) t0
    have g0 : ((c.toNat : Int) != 32) = true := by rw [bne, e0]; rfl
    have e1 : ((c.toNat : Int) == 9) = true := u8_is (k := 9) t1
    have g1 : ((c.toNat : Int) != 9) = false := by rw [bne, e1]; rfl
    clear t0 t1
    go_enter Tryd.func24, Tryd.ntmps24
    go_wp2
    go_end0
    exact ⟨rfl, by rw [HE.out]; exact h.putIn _ (fun d hd => by cases hd) _ rfl, below_put hB _ _⟩
  · have hr : Pl.isBlank c = false := by simp [Pl.isBlank, t0, t1]
    have HE : Aside0 (Pl.first s c = { s with m := .comm }) := ⟨by simp [Pl.first, hr, t2]⟩
    clear hr
    have e0 : ((c.toNat : Int) == 32) = false := u8_not (k := 32) t0
    have g0 : ((c.toNat : Int) != 32) = true := by rw [bne, e0]; rfl
    have e1 : ((c.toNat : Int) == 9) = false := u8_not (k := 9) t1
    have g1 : ((c.toNat : Int) != 9) = true := by rw [bne, e1]; rfl
    have e2 : ((c.toNat : Int) == 35) = true := u8_is (k := 35) t2
    have g2 : ((c.toNat : Int) != 35) = false := by rw [bne, e2]; rfl
    clear t0 t1 t2
    go_enter Tryd.func24, Tryd.ntmps24
    go_wp2
    go_end0
    exact ⟨rfl, by rw [HE.out]; exact h.putIn _ (fun d hd => by cases hd) _ rfl, below_put hB _ _⟩
  · have hr : Pl.isBlank c = false := by simp [Pl.isBlank, t0, t1]
    have HE : Aside0 (Pl.first s c = { s with m := .quo }) := ⟨by simp [Pl.first, hr, t2, t3]⟩
    clear hr
    have e0 : ((c.toNat : Int) == 32) = false := u8_not (k := 32) t0
    have g0 : ((c.toNat : Int) != 32) = true := by rw [bne, e0]; rfl
    have e1 : ((c.toNat : Int) == 9) = false := u8_not (k := 9) t1
    have g1 : ((c.toNat : Int) != 9) = true := by rw [bne, e1]; rfl
    have e2 : ((c.toNat : Int) == 35) = false := u8_not (k := 35) t2
    have g2 : ((c.toNat : Int) != 35) = true := by rw [bne, e2]; rfl
    have e3 : ((c.toNat : Int) == 34) = true := u8_is (k := 34) t3
    have g3 : ((c.toNat : Int) != 34) = false := by rw [bne, e3]; rfl
    clear t0 t1 t2 t3
    go_enter Tryd.func24, Tryd.ntmps24
    go_wp2
    go_end0
    exact ⟨rfl, by rw [HE.out]; exact h.putIn _ (fun d hd => by cases hd) _ rfl, below_put hB _ _⟩
  · have hr : Pl.isBlank c = false := by simp [Pl.isBlank, t0, t1]
    have HE : Aside0 (Pl.first s c = Pl.plain { s with m := .bare } c) := ⟨by simp [Pl.first, hr, t2, t3]⟩
    have hk2 := h.putIn .bare (fun d hd => by cases hd) 1 rfl
    clear hr
    have e0 : ((c.toNat : Int) == 32) = false := u8_not (k := 32) t0
    have g0 : ((c.toNat : Int) != 32) = true := by rw [bne, e0]; rfl
    have e1 : ((c.toNat : Int) == 9) = false := u8_not (k := 9) t1
    have g1 : ((c.toNat : Int) != 9) = true := by rw [bne, e1]; rfl
    have e2 : ((c.toNat : Int) == 35) = false := u8_not (k := 35) t2
    have g2 : ((c.toNat : Int) != 35) = true := by rw [bne, e2]; rfl
    have e3 : ((c.toNat : Int) == 34) = false := u8_not (k := 34) t3
    have g3 : ((c.toNat : Int) != 34) = true := by rw [bne, e3]; rfl
    clear t0 t1 t2 t3
    go_enter Tryd.func24, Tryd.ntmps24
    go_wp2_with fail
    refine (plain B b _ _ c hk2 (size_put hBw) hl).mono ?_
    rintro e W1 ⟨rfl, q1, q2⟩
    go_wp2
    go_end0
    exact ⟨rfl, by rw [HE.out]; exact q1, (below_put hB _ _).trans q2⟩

theorem inside_ways (c : UInt8) : (c.toNat = 34) ∨ (¬ c.toNat = 34 ∧ c.toNat = 92) ∨ (¬ c.toNat = 34 ∧ ¬ c.toNat = 92 ∧ c.toNat < 32) ∨ (¬ c.toNat = 34 ∧ ¬ c.toNat = 92 ∧ ¬ c.toNat < 32 ∧ c.toNat = 127) ∨ (¬ c.toNat = 34 ∧ ¬ c.toNat = 92 ∧ ¬ c.toNat < 32 ∧ ¬ c.toNat = 127) := by omega

set_option maxHeartbeats 8000000 in
set_option maxRecDepth 100000 in
theorem inside (B b : Nat) (w : World) (s : Pl.St) (c : UInt8) (h : Holds B b w s) (hBw : B ≤ w.heap.size) (hl : s.word.length < 1000000) (hl2 : s.words.length < 1000000) :
    Calls Tryd.prog 26 #[.pointer (some ⟨b, 0, none⟩), .int .u8 c.toNat] w (Became B b w (Pl.inside s c)) := by
  obtain ⟨dg, hdg, hR⟩ := h
  have h : Holds B b w s := ⟨dg, hdg, hR⟩
  obtain ⟨hB, vw, vs, hbk, h1, h2⟩ := hR
  have d0 : w.cell? ⟨b, 0, none⟩ = some (.int .i64 s.m.code) := by rw [Lib.cell_of_heap hbk]; rfl
  have f0 : w.frozen? ⟨b, 0, none⟩ = false := Lib.frozen_of_heap hbk 0
  have d1 : w.cell? ⟨b, 1, none⟩ = some vw := by rw [Lib.cell_of_heap hbk]; rfl
  have d3 : w.cell? ⟨b, 3, none⟩ = some (.int .i64 dg) := by rw [Lib.cell_of_heap hbk]; rfl
  have f3 : w.frozen? ⟨b, 3, none⟩ = false := Lib.frozen_of_heap hbk 3
  have d4 : w.cell? ⟨b, 4, none⟩ = some (.bool s.bad) := by rw [Lib.cell_of_heap hbk]; rfl
  have f4 : w.frozen? ⟨b, 4, none⟩ = false := Lib.frozen_of_heap hbk 4
  rcases inside_ways c with t0 | ⟨t0, t1⟩ | ⟨t0, t1, t2⟩ | ⟨t0, t1, t2, t3⟩ | ⟨t0, t1, t2, t3⟩
  · have HE : Aside0 (Pl.inside s c = { Pl.ends s with m := .behind }) := ⟨by simp [Pl.inside, t0]⟩
    have e0 : ((c.toNat : Int) == 34) = true := u8_is (k := 34) t0
    have g0 : ((c.toNat : Int) != 34) = false := by rw [bne, e0]; rfl
    clear t0
    go_enter Tryd.func26, Tryd.ntmps26
    go_wp2_with fail
    refine (ends' B b _ s h hBw hl2).mono ?_
    rintro e W1 ⟨rfl, q1, q2⟩
    obtain ⟨vw', vs', dg', d0', f0', _, _, _, _, _, _, _, _⟩ := q1.known
    go_wp2
    go_end0
    exact ⟨rfl, by rw [HE.out]; exact q1.putIn .behind (fun d hd => by cases hd) 6 rfl, q2.setCell (p := ⟨b, 0, none⟩) hB _⟩
  · have HE : Aside0 (Pl.inside s c = { s with m := .esc }) := ⟨by simp [Pl.inside, t0, t1]⟩
    have e0 : ((c.toNat : Int) == 34) = false := u8_not (k := 34) t0
    have g0 : ((c.toNat : Int) != 34) = true := by rw [bne, e0]; rfl
    have e1 : ((c.toNat : Int) == 92) = true := u8_is (k := 92) t1
    have g1 : ((c.toNat : Int) != 92) = false := by rw [bne, e1]; rfl
    clear t0 t1
    go_enter Tryd.func26, Tryd.ntmps26
    go_wp2
    go_end0
    exact ⟨rfl, by rw [HE.out]; exact h.putIn .esc (fun d hd => by cases hd) 3 rfl, below_put hB _ _⟩
  · have hr : Pl.isCtl c = true := by simp [Pl.isCtl, t2]
    have HE : Aside0 (Pl.inside s c = { s with bad := true }) := ⟨by simp [Pl.inside, hr, t0, t1]⟩
    clear hr
    have e0 : ((c.toNat : Int) == 34) = false := u8_not (k := 34) t0
    have g0 : ((c.toNat : Int) != 34) = true := by rw [bne, e0]; rfl
    have e1 : ((c.toNat : Int) == 92) = false := u8_not (k := 92) t1
    have g1 : ((c.toNat : Int) != 92) = true := by rw [bne, e1]; rfl
    have e2 : ((c.toNat : Int) < 32) := by omega
    clear t0 t1 t2
    go_enter Tryd.func26, Tryd.ntmps26
    go_wp2
    go_end0
    exact ⟨rfl, by rw [HE.out]; exact h.putBad, below_put hB _ _⟩
  · have hr : Pl.isCtl c = true := by simp [Pl.isCtl, t3]
    have HE : Aside0 (Pl.inside s c = { s with bad := true }) := ⟨by simp [Pl.inside, hr, t0, t1]⟩
    clear hr
    have e0 : ((c.toNat : Int) == 34) = false := u8_not (k := 34) t0
    have g0 : ((c.toNat : Int) != 34) = true := by rw [bne, e0]; rfl
    have e1 : ((c.toNat : Int) == 92) = false := u8_not (k := 92) t1
    have g1 : ((c.toNat : Int) != 92) = true := by rw [bne, e1]; rfl
    have e2 : ¬ ((c.toNat : Int) < 32) := by omega
    have e3 : ((c.toNat : Int) == 127) = true := u8_is (k := 127) t3
    have g3 : ((c.toNat : Int) != 127) = false := by rw [bne, e3]; rfl
    clear t0 t1 t2 t3
    go_enter Tryd.func26, Tryd.ntmps26
    go_wp2
    go_end0
    exact ⟨rfl, by rw [HE.out]; exact h.putBad, below_put hB _ _⟩
  · have hr : Pl.isCtl c = false := by simp [Pl.isCtl, t3]; omega
    have HE : Aside0 (Pl.inside s c = { s with word := s.word ++ [c] }) := ⟨by simp [Pl.inside, hr, t0, t1]⟩
    clear hr
    have e0 : ((c.toNat : Int) == 34) = false := u8_not (k := 34) t0
    have g0 : ((c.toNat : Int) != 34) = true := by rw [bne, e0]; rfl
    have e1 : ((c.toNat : Int) == 92) = false := u8_not (k := 92) t1
    have g1 : ((c.toNat : Int) != 92) = true := by rw [bne, e1]; rfl
    have e2 : ¬ ((c.toNat : Int) < 32) := by omega
    have e3 : ((c.toNat : Int) == 127) = false := u8_not (k := 127) t3
    have g3 : ((c.toNat : Int) != 127) = true := by rw [bne, e3]; rfl
    clear t0 t1 t2 t3
    go_enter Tryd.func26, Tryd.ntmps26
    go_wp2_with (at_builtin; refine push1 rfl _ _ rfl B _ _ _ rfl (h1.alloc _) _ _ rfl (alloc_at (by first | rfl | simp [World.setCell])) hl (le_alloc hBw) ?_)
    intro v' w2 hown' hgrow
    obtain ⟨hb2, p1, p2⟩ := pushed c hB hBw hbk h1 h2 hown' hgrow
    have d1' : w2.cell? ⟨b, 1, none⟩ = some vw := by rw [Lib.cell_of_heap hb2]; rfl
    have f1 : w2.frozen? ⟨b, 1, none⟩ = false := Lib.frozen_of_heap hb2 1
    obtain ⟨ao, n', cap, rfl⟩ := slice_of hown'
    go_wp2
    go_end0
    exact ⟨rfl, by rw [HE.out]; exact ⟨dg, hdg, p1⟩, p2⟩

theorem escaped_ways (c : UInt8) : (c.toNat = 92) ∨ (¬ c.toNat = 92 ∧ c.toNat = 34) ∨ (¬ c.toNat = 92 ∧ ¬ c.toNat = 34 ∧ c.toNat = 110) ∨ (¬ c.toNat = 92 ∧ ¬ c.toNat = 34 ∧ ¬ c.toNat = 110 ∧ c.toNat = 116) ∨ (¬ c.toNat = 92 ∧ ¬ c.toNat = 34 ∧ ¬ c.toNat = 110 ∧ ¬ c.toNat = 116 ∧ c.toNat = 120) ∨ (¬ c.toNat = 92 ∧ ¬ c.toNat = 34 ∧ ¬ c.toNat = 110 ∧ ¬ c.toNat = 116 ∧ ¬ c.toNat = 120) := by omega

set_option maxHeartbeats 8000000 in
set_option maxRecDepth 100000 in
theorem escaped (B b : Nat) (w : World) (s : Pl.St) (c : UInt8) (h : Holds B b w s) (hBw : B ≤ w.heap.size) (hl : s.word.length < 1000000) (hl2 : s.words.length < 1000000) :
    Calls Tryd.prog 27 #[.pointer (some ⟨b, 0, none⟩), .int .u8 c.toNat] w (Became B b w (Pl.escaped s c)) := by
  obtain ⟨dg, hdg, hR⟩ := h
  have h : Holds B b w s := ⟨dg, hdg, hR⟩
  obtain ⟨hB, vw, vs, hbk, h1, h2⟩ := hR
  have d0 : w.cell? ⟨b, 0, none⟩ = some (.int .i64 s.m.code) := by rw [Lib.cell_of_heap hbk]; rfl
  have f0 : w.frozen? ⟨b, 0, none⟩ = false := Lib.frozen_of_heap hbk 0
  have d1 : w.cell? ⟨b, 1, none⟩ = some vw := by rw [Lib.cell_of_heap hbk]; rfl
  have d3 : w.cell? ⟨b, 3, none⟩ = some (.int .i64 dg) := by rw [Lib.cell_of_heap hbk]; rfl
  have f3 : w.frozen? ⟨b, 3, none⟩ = false := Lib.frozen_of_heap hbk 3
  have d4 : w.cell? ⟨b, 4, none⟩ = some (.bool s.bad) := by rw [Lib.cell_of_heap hbk]; rfl
  have f4 : w.frozen? ⟨b, 4, none⟩ = false := Lib.frozen_of_heap hbk 4
  have hk2 := h.putIn .quo (fun d hd => by cases hd) 2 rfl
  have hbk' : (w.setCell ⟨b, 0, none⟩ (.int .i64 2)).heap[b]? = some (.cells #[.int .i64 2, vw, vs, .int .i64 dg, .bool s.bad] 44 (0, 0)) := heap_put _ hbk
  have h1' := own_put (i := 0) h1 hbk (by decide) (.int .i64 2)
  have h2' := own_put (i := 0) h2 hbk (by decide) (.int .i64 2)
  have hB1 : Below B w (w.setCell ⟨b, 0, none⟩ (.int .i64 2)) := below_put hB _ _
  have hBw' := Nat.le_trans hBw hB1.size
  rcases escaped_ways c with t0 | ⟨t0, t1⟩ | ⟨t0, t1, t2⟩ | ⟨t0, t1, t2, t3⟩ | ⟨t0, t1, t2, t3, t4⟩ | ⟨t0, t1, t2, t3, t4⟩
  · have HE : Aside0 (Pl.escaped s c = { s with m := .quo, word := s.word ++ [c] }) := ⟨by simp [Pl.escaped, t0]⟩
    have e0 : ((c.toNat : Int) == 92) = true := u8_is (k := 92) t0
    have g0 : ((c.toNat : Int) != 92) = false := by rw [bne, e0]; rfl
    clear t0
    go_enter Tryd.func27, Tryd.ntmps27
    go_wp2_with (at_builtin; refine push1 rfl _ _ rfl B _ _ _ rfl (h1'.alloc _) _ _ rfl (alloc_at (by first | rfl | simp [World.setCell])) hl (le_alloc hBw') ?_)
    intro v' w2 hown' hgrow
    obtain ⟨hb2, p1, p2⟩ := pushed c hB hBw' hbk' h1' h2' hown' hgrow
    have d1' : w2.cell? ⟨b, 1, none⟩ = some vw := by rw [Lib.cell_of_heap hb2]; rfl
    have f1 : w2.frozen? ⟨b, 1, none⟩ = false := Lib.frozen_of_heap hb2 1
    obtain ⟨ao, n', cap, rfl⟩ := slice_of hown'
    go_wp2
    go_end0
    exact ⟨rfl, by rw [HE.out]; exact ⟨dg, fun d hd => (by cases hd), p1⟩, hB1.trans p2⟩
  · have HE : Aside0 (Pl.escaped s c = { s with m := .quo, word := s.word ++ [c] }) := ⟨by simp [Pl.escaped, t1]⟩
    have e0 : ((c.toNat : Int) == 92) = false := u8_not (k := 92) t0
    have g0 : ((c.toNat : Int) != 92) = true := by rw [bne, e0]; rfl
    have e1 : ((c.toNat : Int) == 34) = true := u8_is (k := 34) t1
    have g1 : ((c.toNat : Int) != 34) = false := by rw [bne, e1]; rfl
    clear t0 t1
    go_enter Tryd.func27, Tryd.ntmps27
    go_wp2_with (at_builtin; refine push1 rfl _ _ rfl B _ _ _ rfl (h1'.alloc _) _ _ rfl (alloc_at (by first | rfl | simp [World.setCell])) hl (le_alloc hBw') ?_)
    intro v' w2 hown' hgrow
    obtain ⟨hb2, p1, p2⟩ := pushed c hB hBw' hbk' h1' h2' hown' hgrow
    have d1' : w2.cell? ⟨b, 1, none⟩ = some vw := by rw [Lib.cell_of_heap hb2]; rfl
    have f1 : w2.frozen? ⟨b, 1, none⟩ = false := Lib.frozen_of_heap hb2 1
    obtain ⟨ao, n', cap, rfl⟩ := slice_of hown'
    go_wp2
    go_end0
    exact ⟨rfl, by rw [HE.out]; exact ⟨dg, fun d hd => (by cases hd), p1⟩, hB1.trans p2⟩
  · have HE : Aside0 (Pl.escaped s c = { s with m := .quo, word := s.word ++ [10] }) := ⟨by simp [Pl.escaped, t2]⟩
    have e0 : ((c.toNat : Int) == 92) = false := u8_not (k := 92) t0
    have g0 : ((c.toNat : Int) != 92) = true := by rw [bne, e0]; rfl
    have e1 : ((c.toNat : Int) == 34) = false := u8_not (k := 34) t1
    have g1 : ((c.toNat : Int) != 34) = true := by rw [bne, e1]; rfl
    have e2 : ((c.toNat : Int) == 110) = true := u8_is (k := 110) t2
    have g2 : ((c.toNat : Int) != 110) = false := by rw [bne, e2]; rfl
    clear t0 t1 t2
    go_enter Tryd.func27, Tryd.ntmps27
    go_wp2_with (at_builtin; refine push1 rfl _ _ rfl B _ _ _ rfl (h1'.alloc _) _ _ rfl (alloc_at (by first | rfl | simp [World.setCell])) hl (le_alloc hBw') ?_)
    intro v' w2 hown' hgrow
    obtain ⟨hb2, p1, p2⟩ := pushed (10 : UInt8) hB hBw' hbk' h1' h2' hown' hgrow
    have d1' : w2.cell? ⟨b, 1, none⟩ = some vw := by rw [Lib.cell_of_heap hb2]; rfl
    have f1 : w2.frozen? ⟨b, 1, none⟩ = false := Lib.frozen_of_heap hb2 1
    obtain ⟨ao, n', cap, rfl⟩ := slice_of hown'
    go_wp2
    go_end0
    exact ⟨rfl, by rw [HE.out]; exact ⟨dg, fun d hd => (by cases hd), p1⟩, hB1.trans p2⟩
  · have HE : Aside0 (Pl.escaped s c = { s with m := .quo, word := s.word ++ [9] }) := ⟨by simp [Pl.escaped, t3]⟩
    have e0 : ((c.toNat : Int) == 92) = false := u8_not (k := 92) t0
    have g0 : ((c.toNat : Int) != 92) = true := by rw [bne, e0]; rfl
    have e1 : ((c.toNat : Int) == 34) = false := u8_not (k := 34) t1
    have g1 : ((c.toNat : Int) != 34) = true := by rw [bne, e1]; rfl
    have e2 : ((c.toNat : Int) == 110) = false := u8_not (k := 110) t2
    have g2 : ((c.toNat : Int) != 110) = true := by rw [bne, e2]; rfl
    have e3 : ((c.toNat : Int) == 116) = true := u8_is (k := 116) t3
    have g3 : ((c.toNat : Int) != 116) = false := by rw [bne, e3]; rfl
    clear t0 t1 t2 t3
    go_enter Tryd.func27, Tryd.ntmps27
    go_wp2_with (at_builtin; refine push1 rfl _ _ rfl B _ _ _ rfl (h1'.alloc _) _ _ rfl (alloc_at (by first | rfl | simp [World.setCell])) hl (le_alloc hBw') ?_)
    intro v' w2 hown' hgrow
    obtain ⟨hb2, p1, p2⟩ := pushed (9 : UInt8) hB hBw' hbk' h1' h2' hown' hgrow
    have d1' : w2.cell? ⟨b, 1, none⟩ = some vw := by rw [Lib.cell_of_heap hb2]; rfl
    have f1 : w2.frozen? ⟨b, 1, none⟩ = false := Lib.frozen_of_heap hb2 1
    obtain ⟨ao, n', cap, rfl⟩ := slice_of hown'
    go_wp2
    go_end0
    exact ⟨rfl, by rw [HE.out]; exact ⟨dg, fun d hd => (by cases hd), p1⟩, hB1.trans p2⟩
  · have HE : Aside0 (Pl.escaped s c = { s with m := .high }) := ⟨by simp [Pl.escaped, t4]⟩
    have e0 : ((c.toNat : Int) == 92) = false := u8_not (k := 92) t0
    have g0 : ((c.toNat : Int) != 92) = true := by rw [bne, e0]; rfl
    have e1 : ((c.toNat : Int) == 34) = false := u8_not (k := 34) t1
    have g1 : ((c.toNat : Int) != 34) = true := by rw [bne, e1]; rfl
    have e2 : ((c.toNat : Int) == 110) = false := u8_not (k := 110) t2
    have g2 : ((c.toNat : Int) != 110) = true := by rw [bne, e2]; rfl
    have e3 : ((c.toNat : Int) == 116) = false := u8_not (k := 116) t3
    have g3 : ((c.toNat : Int) != 116) = true := by rw [bne, e3]; rfl
    have e4 : ((c.toNat : Int) == 120) = true := u8_is (k := 120) t4
    have g4 : ((c.toNat : Int) != 120) = false := by rw [bne, e4]; rfl
    clear t0 t1 t2 t3 t4
    go_enter Tryd.func27, Tryd.ntmps27
    go_wp2
    go_end0
    exact ⟨rfl, by rw [HE.out]; exact hk2.putIn .high (fun d hd => by cases hd) 4 rfl, hB1.setCell (p := ⟨b, 0, none⟩) hB _⟩
  · have HE : Aside0 (Pl.escaped s c = { s with m := .quo, bad := true }) := ⟨by simp [Pl.escaped, t0, t1, t2, t3, t4]⟩
    have e0 : ((c.toNat : Int) == 92) = false := u8_not (k := 92) t0
    have g0 : ((c.toNat : Int) != 92) = true := by rw [bne, e0]; rfl
    have e1 : ((c.toNat : Int) == 34) = false := u8_not (k := 34) t1
    have g1 : ((c.toNat : Int) != 34) = true := by rw [bne, e1]; rfl
    have e2 : ((c.toNat : Int) == 110) = false := u8_not (k := 110) t2
    have g2 : ((c.toNat : Int) != 110) = true := by rw [bne, e2]; rfl
    have e3 : ((c.toNat : Int) == 116) = false := u8_not (k := 116) t3
    have g3 : ((c.toNat : Int) != 116) = true := by rw [bne, e3]; rfl
    have e4 : ((c.toNat : Int) == 120) = false := u8_not (k := 120) t4
    have g4 : ((c.toNat : Int) != 120) = true := by rw [bne, e4]; rfl
    clear t0 t1 t2 t3 t4
    go_enter Tryd.func27, Tryd.ntmps27
    go_wp2
    go_end0
    exact ⟨rfl, by rw [HE.out]; exact hk2.putBad, hB1.setCell (p := ⟨b, 4, none⟩) hB _⟩
end Go.Proofs.YtecpdmoieoibnaaDoor.Rf
