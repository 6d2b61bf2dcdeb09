/- Proved: the reference's Words is the byte machine at every line; a line longer than MaxScript is refused. Conditions: none. -/
import Derived.Test.YtecpdmoieoibnaaDoorRef2
set_option linter.unusedVariables false
set_option linter.unusedSimpArgs false
namespace Go.Proofs.YtecpdmoieoibnaaDoor.Rf
open Go.RowKit Go.Proofs.YtecpdmoieoibnaaDoorW.PrintWords

theorem step_word (s : Pl.St) (c : UInt8) : (Pl.step s c).word.length ≤ s.word.length + 1 ∧ (Pl.step s c).words.length ≤ s.words.length + 1 := by
  obtain ⟨m, wd, wds, bd⟩ := s
  cases m <;> simp only [Pl.step, Pl.first, Pl.inside, Pl.escaped, Pl.plain, Pl.ends] <;> (repeat' split) <;> simp
theorem step_fine (s : Pl.St) (c : UInt8) (hb : s.bad = false) : Fine (Pl.step s c) := by
  have hx := Pl.hex_range c
  obtain ⟨m, wd, wds, bd⟩ := s
  intro d hd h0
  cases m <;> simp only [Pl.step, Pl.first, Pl.inside, Pl.escaped, Pl.plain, Pl.ends] at hd h0 <;> (repeat' split at hd) <;> simp_all

/-- What a call of Words answers. -/
def Tells (s : ByteArray) (w : World) (e : Ending) (w' : World) : Prop :=
  Below w.heap.size w w' ∧
  ((65536 < s.size ∧ e = .returned (.tuple #[.slice none 0 0, .int .i64 2])) ∨
   (s.size ≤ 65536 ∧ Pl.wordsOf s.data.toList = none ∧ e = .returned (.tuple #[.slice none 0 0, .int .i64 200])) ∨
   (s.size ≤ 65536 ∧ ∃ ws v, Pl.wordsOf s.data.toList = some ws ∧ e = .returned (.tuple #[v, .int .i64 0]) ∧ w'.ownsRow w.heap.size 9 1 v ws.length (ws.map fun l => Value.string ⟨l.toArray⟩)))

def Here (s : ByteArray) (k : Nat) (x : Pl.St) : Prop := Pl.wordsOf s.data.toList = Pl.run x (Pl.from_ s k) ∧ x.word.length ≤ k ∧ x.words.length ≤ k ∧ Fine x

theorem here_start (s : ByteArray) : Here s 0 Pl.start := ⟨rfl, by simp [Pl.start], by simp [Pl.start], fun d hd => by cases hd⟩
theorem here_step {s : ByteArray} {k : Nat} {x : Pl.St} (h : Here s k x) (hk : k < s.size) (hb : x.bad = false) : Here s (k + 1) (Pl.step x (s[k]'hk)) := by
  obtain ⟨h1, h2, h3, h4⟩ := h
  have hs := step_word x (s[k]'hk)
  refine ⟨?_, by omega, by omega, step_fine _ _ hb⟩
  rw [h1, Pl.from_lt s k hk, Pl.run_cons _ _ _ hb]
theorem here_end {s : ByteArray} {k : Nat} {x : Pl.St} (h : Here s k x) (hk : s.size ≤ k) : Pl.wordsOf s.data.toList = Pl.fin x := by
  rw [h.1, Pl.from_ge s k hk]; rfl
theorem here_bad {s : ByteArray} {k : Nat} {x : Pl.St} (h : Here s k x) (hb : x.bad = true) : Pl.wordsOf s.data.toList = none := by
  rw [h.1, Pl.run_bad _ _ hb]

theorem tells_none {s : ByteArray} {w w' : World} {e : Ending} (hs : s.size ≤ 65536) (h : Pl.wordsOf s.data.toList = none) (hb : Below w.heap.size w w') (he : e = .returned (.tuple #[.slice none 0 0, .int .i64 200])) : Tells s w e w' :=
  ⟨hb, .inr (.inl ⟨hs, h, he⟩)⟩
theorem tells_some {s : ByteArray} {w w' : World} {b : Nat} {x : Pl.St} {e : Ending} (hs : s.size ≤ 65536) (h : Pl.wordsOf s.data.toList = some x.words) (hb : Below w.heap.size w w') (hx : Holds w.heap.size b w' x) (vs : Value) (hv : w'.cell? ⟨b, 2, none⟩ = some vs) (he : e = .returned (.tuple #[vs, .int .i64 0])) : Tells s w e w' := by
  obtain ⟨dg, hd, hB, vw, vs', hbk, h1, h2⟩ := hx
  have : vs' = vs := by
    rw [Lib.cell_of_heap hbk] at hv
    simpa using hv
  subst this
  exact ⟨hb, .inr (.inr ⟨hs, _, _, h, he, by simpa [Function.comp_def] using h2⟩)⟩

theorem box44 : ∀ w, (Instr.build 44 #[]).run Tryd.prog w = .ok (.agg #[.int .i64 0, .slice none 0 0, .slice none 0 0, .int .i64 0, .bool false]) w := fun w => by kernel_rfl

theorem holds_new (w : World) (t : Nat) : Holds w.heap.size w.heap.size (w.alloc (.cells #[.int .i64 0, .slice none 0 0, .slice none 0 0, .int .i64 0, .bool false] 44)) Pl.start :=
  ⟨0, fun d hd => (by cases hd), Nat.le_refl _, _, _, (MapKept.heap_alloc w _).1, World.ownsRow_nil _ _ _ _, World.ownsRow_nil _ _ _ _⟩

set_option maxHeartbeats 8000000 in
set_option maxRecDepth 100000 in
theorem words_long (s : ByteArray) (w : World) (hs : 65536 < s.size) (hm : s.size ≤ 140737488355328) : Calls Tryd.prog 8 #[.string s] w (Tells s w) := by
  go_enter Tryd.func8, Tryd.ntmps8
  have hs' : (65536 : Int) < (s.size : Int) := by omega
  go_wp2
  go_ret2
  exact ⟨Below.refl _ _, .inl ⟨hs, rfl⟩⟩

set_option maxHeartbeats 8000000 in
set_option maxRecDepth 100000 in
theorem words_short (s : ByteArray) (w : World) (hs : s.size ≤ 65536) : Calls Tryd.prog 8 #[.string s] w (Tells s w) := by
  have hbox := box44
  have hs' : ¬ (65536 : Int) < (s.size : Int) := by omega
  go_enter Tryd.func8, Tryd.ntmps8
  go_wp2
  go_loopw [5] (fun i wr => ∃ (k : Nat) (x : Pl.St), k ≤ s.size ∧ i = .int .i64 k ∧ Here s k x ∧ Holds w.heap.size w.heap.size wr x ∧ Below w.heap.size w wr) (fun i _ => s.size - (intOf i).toNat)
  case atStart => exact ⟨0, Pl.start, by omega, rfl, here_start s, holds_new w 0, (Below.refl _ _).alloc (Nat.le_refl _) _⟩
  case round =>
    obtain ⟨k, x, hk, rfl, hh, hx, hbw⟩ := hrel
    clear hbox
    have hBw := hbw.size
    obtain ⟨vw, vs, dg, d0, f0, d1, f1, d3, f3, d4, f4, _, d2⟩ := hx.known
    by_cases hlt : k < s.size
    · have hlti : (k : Int) < (s.size : Int) := by omega
      cases hbad : x.bad with
      | false =>
        rw [hbad] at d4
        have hl1 : x.word.length < 1000000 := by have := hh.2.1; omega
        have hl2 : x.words.length < 1000000 := by have := hh.2.2.1; omega
        go_wp2_with fail
        refine (next w.heap.size w.heap.size wr x s[k] hh.2.2.2 hbad hx hBw hl1 hl2).mono ?_
        rintro e W1 ⟨rfl, q1, q2⟩
        go_wp2
        go_roundw
        case rel => exact ⟨k + 1, _, by omega, by go_num, here_step hh hlt hbad, q1, hbw.trans q2⟩
        case measure => simp [intOf]; omega
      | true =>
        rw [hbad] at d4
        have HN := Aside0.mk (here_bad hh hbad)
        have HB := Aside0.mk hbad
        clear hbad
        have hl2 : x.words.length < 1000000 := by have := hh.2.2.1; omega
        by_cases hc : x.m.code = 1
        · have c1 : (x.m.code == 1) = true := by rw [hc]; rfl
          clear hc
          go_wp2_with fail
          refine (ends' w.heap.size w.heap.size wr x hx hBw hl2).mono ?_
          rintro e W1 ⟨rfl, q1, q2⟩
          obtain ⟨vw', vs', dg', d0', f0', d1', f1', d3', f3', d4', f4', _, d2'⟩ := q1.known
          have d4'' : W1.cell? ⟨w.heap.size, 4, none⟩ = some (.bool true) := by have := HB.out; rw [d4']; simp [Pl.ends, this]
          clear d4'
          go_wp2
          go_ret2
          exact tells_none hs HN.out (hbw.trans q2) rfl
        · have c1 : (x.m.code == 1) = false := by simpa using hc
          clear hc
          go_wp2
          go_ret2
          exact tells_none hs HN.out hbw rfl
    · have hlti : ¬ (k : Int) < (s.size : Int) := by omega
      cases hbad : x.bad with
      | true =>
        rw [hbad] at d4
        have HN := Aside0.mk (here_bad hh hbad)
        have HB := Aside0.mk hbad
        clear hbad
        have hl2 : x.words.length < 1000000 := by have := hh.2.2.1; omega
        by_cases hc : x.m.code = 1
        · have c1 : (x.m.code == 1) = true := by rw [hc]; rfl
          clear hc
          go_wp2_with fail
          refine (ends' w.heap.size w.heap.size wr x hx hBw hl2).mono ?_
          rintro e W1 ⟨rfl, q1, q2⟩
          obtain ⟨vw', vs', dg', d0', f0', d1', f1', d3', f3', d4', f4', _, d2'⟩ := q1.known
          have d4'' : W1.cell? ⟨w.heap.size, 4, none⟩ = some (.bool true) := by have := HB.out; rw [d4']; simp [Pl.ends, this]
          clear d4'
          go_wp2
          go_ret2
          exact tells_none hs HN.out (hbw.trans q2) rfl
        · have c1 : (x.m.code == 1) = false := by simpa using hc
          clear hc
          go_wp2
          go_ret2
          exact tells_none hs HN.out hbw rfl
      | false =>
        rw [hbad] at d4
        have hl2 : x.words.length < 1000000 := by have := hh.2.2.1; omega
        have HE := Aside0.mk (here_end hh (by omega))
        have HB := Aside0.mk hbad
        clear hbad hh
        obtain ⟨m, wd, wds, bd⟩ := x
        have hb0 : bd = false := HB.out
        subst hb0
        clear HB
        cases m
        case btw =>
          have e0 : wr.cell? ⟨w.heap.size, 0, none⟩ = some (.int .i64 0) := d0
          clear d0
          go_wp2
          go_ret2
          exact tells_some hs (by rw [HE.out]; rfl) hbw hx vs d2 rfl
        case bare =>
          have e0 : wr.cell? ⟨w.heap.size, 0, none⟩ = some (.int .i64 1) := d0
          clear d0
          go_wp2_with fail
          refine (ends' w.heap.size w.heap.size wr _ hx hBw hl2).mono ?_
          rintro e W1 ⟨rfl, q1, q2⟩
          obtain ⟨vw', vs', dg', d0', f0', d1', f1', d3', f3', d4', f4', _, d2'⟩ := q1.known
          have e0' : W1.cell? ⟨w.heap.size, 0, none⟩ = some (.int .i64 1) := d0'
          have e4' : W1.cell? ⟨w.heap.size, 4, none⟩ = some (.bool false) := d4'
          clear d0' d4'
          go_wp2
          go_ret2
          exact tells_some hs (by rw [HE.out]; rfl) (hbw.trans q2) q1 vs' d2' rfl
        case quo =>
          have e0 : wr.cell? ⟨w.heap.size, 0, none⟩ = some (.int .i64 2) := d0
          clear d0
          go_wp2
          go_ret2
          exact tells_none hs (by rw [HE.out]; rfl) hbw rfl
        case esc =>
          have e0 : wr.cell? ⟨w.heap.size, 0, none⟩ = some (.int .i64 3) := d0
          clear d0
          go_wp2
          go_ret2
          exact tells_none hs (by rw [HE.out]; rfl) hbw rfl
        case high =>
          have e0 : wr.cell? ⟨w.heap.size, 0, none⟩ = some (.int .i64 4) := d0
          clear d0
          go_wp2
          go_ret2
          exact tells_none hs (by rw [HE.out]; rfl) hbw rfl
        case low dd =>
          have e0 : wr.cell? ⟨w.heap.size, 0, none⟩ = some (.int .i64 5) := d0
          clear d0
          go_wp2
          go_ret2
          exact tells_none hs (by rw [HE.out]; rfl) hbw rfl
        case behind =>
          have e0 : wr.cell? ⟨w.heap.size, 0, none⟩ = some (.int .i64 6) := d0
          clear d0
          go_wp2
          go_ret2
          exact tells_some hs (by rw [HE.out]; rfl) hbw hx vs d2 rfl
        case comm =>
          have e0 : wr.cell? ⟨w.heap.size, 0, none⟩ = some (.int .i64 7) := d0
          clear d0
          go_wp2
          go_ret2
          exact tells_some hs (by rw [HE.out]; rfl) hbw hx vs d2 rfl

theorem words (s : ByteArray) (w : World) (hm : s.size ≤ 140737488355328) : Calls Tryd.prog 8 #[.string s] w (Tells s w) := by
  by_cases h : 65536 < s.size
  · exact words_long s w h hm
  · exact words_short s w (by omega)
end Go.Proofs.YtecpdmoieoibnaaDoor.Rf
