/- Proved: the reference's Quote writes the quoted word. Conditions: none but on the length (less than a million bytes). -/
import Derived.Test.YtecpdmoieoibnaaDoorRef2
import Derived.IntWalk
set_option linter.unusedVariables false
set_option linter.unusedSimpArgs false
namespace Go.Proofs.YtecpdmoieoibnaaDoor.Qt
open Go.RowKit Go.Lib Go.Proofs.YtecpdmoieoibnaaDoorW.PrintWords

/-- A hexadecimal digit's byte. -/
def hexd (n : Nat) : UInt8 := if n < 10 then UInt8.ofNat (48 + n) else UInt8.ofNat (87 + n)
def quoteB (c : UInt8) : List UInt8 :=
  if c.toNat = 34 ∨ c.toNat = 92 then [92, c] else if c.toNat = 10 then [92, 110] else if c.toNat = 9 then [92, 116]
  else if c.toNat < 32 ∨ 126 < c.toNat then [92, 120, hexd (c.toNat / 16), hexd (c.toNat % 16)] else [c]
def quoteL (l : List UInt8) : List UInt8 := 34 :: (l.flatMap quoteB ++ [34])

theorem quoteB_len (c : UInt8) : (quoteB c).length ≤ 4 := by
  unfold quoteB
  repeat' split
  all_goals simp
theorem flat_len : ∀ l : List UInt8, (l.flatMap quoteB).length ≤ 4 * l.length
  | [] => by simp
  | c :: r => by
    have h1 := quoteB_len c
    have h2 := flat_len r
    simp only [List.flatMap_cons, List.length_append, List.length_cons]
    omega

/-- A row of bytes that is read. -/
def Rd (w : World) (A : Option Addr) (l : List UInt8) : Prop := ∀ j b, l[j]? = some b → ∃ ad, A = some ad ∧ w.cell? (ad.add j) = some (.int .u8 b.toNat)
theorem Rd.below {w w' : World} {A : Option Addr} {l : List UInt8} (h : Rd w A l) (hb : Below w.heap.size w w') : Rd w' A l := fun j b hj => by
  obtain ⟨ad, e, hc⟩ := h j b hj
  exact ⟨ad, e, pw_cell_below hb hc⟩

theorem quo_ways (c : UInt8) : (c.toNat = 34) ∨ (¬ c.toNat = 34 ∧ c.toNat = 92) ∨ (¬ c.toNat = 34 ∧ ¬ c.toNat = 92 ∧ c.toNat = 10) ∨ (¬ c.toNat = 34 ∧ ¬ c.toNat = 92 ∧ ¬ c.toNat = 10 ∧ c.toNat = 9) ∨
    (¬ c.toNat = 34 ∧ ¬ c.toNat = 92 ∧ ¬ c.toNat = 10 ∧ ¬ c.toNat = 9 ∧ c.toNat < 32) ∨ (¬ c.toNat = 34 ∧ ¬ c.toNat = 92 ∧ ¬ c.toNat = 10 ∧ ¬ c.toNat = 9 ∧ ¬ c.toNat < 32 ∧ 126 < c.toNat) ∨
    (¬ c.toNat = 34 ∧ ¬ c.toNat = 92 ∧ ¬ c.toNat = 10 ∧ ¬ c.toNat = 9 ∧ ¬ c.toNat < 32 ∧ ¬ 126 < c.toNat) := by omega

section
variable {P : Program}
/-- A few bytes appended to a row of bytes of the call's own. -/
theorem pushN {w : World} {ops : Array Oper} {rest : List Oper} {o : Oper} {a : Act} {Q : Exit → Act → World → Prop} (bs : List UInt8) (hgd : o.guard = none) (s x : Operand)
    (ho : o.op = .call { callee := .builtin .append, args := #[s, x], argTypes := #[33, 33] }) (base : Nat) (v : Value) (acc : List UInt8) (hs : a.eval s = v) (hown : w.ownsRow base 5 1 v acc.length (Lib.byteCells acc))
    (k : Nat) (hx : a.eval x = .slice (some ⟨k, 0, none⟩) bs.length bs.length) (hk : w.heap[k]? = some (.cells (Lib.byteCells bs).toArray 5 (0, 0))) (hn : acc.length + bs.length < 1000000) (hb : base ≤ w.heap.size)
    (h : ∀ v' w', w'.ownsRow base 5 1 v' (acc ++ bs).length (Lib.byteCells (acc ++ bs)) → w.grownBy w' v.ownBlock → wpList Tryd.prog ops Q rest (a.put o.dst v') w') : wpList Tryd.prog ops Q (o :: rest) a w := by
  obtain ⟨i0, hi, hz0, hz1, hz2⟩ := info_parts Rf.info5
  refine wpList_append_own w hgd s x 33 ho base 5 i0 (.int .u8 0) 1 1 Tryd.underlying33 hi hz0 hz1 hz2 rfl (by decide) v acc.length (Lib.byteCells acc) hs hown ⟨k, 0, none⟩ bs.length bs.length (Lib.byteCells bs) hx (by simp [Lib.byteCells_length]) ?_ ?_ (by unfold maxLen; omega) (by omega) hb (fun v' w' h1 h2 _ => h v' w' (by rw [Lib.byteCells_append, List.length_append]; exact h1) h2)
  · intro j u hj
    have e : ((⟨k, 0, none⟩ : Addr).add j) = ⟨k, j, none⟩ := by unfold Addr.add; split <;> simp_all
    rw [e]
    simpa [World.cell?, hk] using hj
  · intro u hu
    simp [Lib.byteCells] at hu
    obtain ⟨b, _, rfl⟩ := hu
    rfl
end

theorem few {a : List UInt8} {bs : List UInt8} (h : a.length < 900000) (hb : bs.length < 100) : a.length + bs.length < 1000000 := by omega
theorem take_next (l : List UInt8) (k : Nat) (h : k < l.length) : (l.take (k + 1)).flatMap quoteB = (l.take k).flatMap quoteB ++ quoteB l[k] := by
  rw [List.take_succ_eq_append_getElem h, List.flatMap_append]
  simp

def digits : ByteArray := ⟨#[48, 49, 50, 51, 52, 53, 54, 55, 56, 57, 97, 98, 99, 100, 101, 102]⟩
theorem digit_at : ∀ (m : Nat) (h : m < (⟨#[48, 49, 50, 51, 52, 53, 54, 55, 56, 57, 97, 98, 99, 100, 101, 102]⟩ : ByteArray).size), (⟨#[48, 49, 50, 51, 52, 53, 54, 55, 56, 57, 97, 98, 99, 100, 101, 102]⟩ : ByteArray)[m]'h = hexd m := by
  intro m h
  have h16 : m < 16 := h
  have key : ∀ k : Fin 16, (⟨#[48, 49, 50, 51, 52, 53, 54, 55, 56, 57, 97, 98, 99, 100, 101, 102]⟩ : ByteArray)[k.val]'(by exact k.isLt) = hexd k.val := by decide +kernel
  exact key ⟨m, h16⟩
theorem wrap_quo (c : UInt8) : IntKind.u8.wrap ((c.toNat : Int) / 16) = ((c.toNat / 16 : Nat) : Int) := by
  have := Pl.byte_lt c
  rw [IntWalk.u8_in _ (by omega)]
  omega
theorem tmod_rem (c : UInt8) : (c.toNat : Int).tmod 16 = ((c.toNat % 16 : Nat) : Int) := by
  rw [Int.tmod_eq_emod_of_nonneg (by omega)]
  omega
theorem four {w : World} {B : Nat} {v : Value} {acc : List UInt8} {a b c d : UInt8} (h : w.ownsRow B 5 1 v (acc.length + 4) (Lib.byteCells acc ++ [.int .u8 a.toNat, .int .u8 b.toNat, .int .u8 c.toNat, .int .u8 d.toNat])) : w.ownsRow B 5 1 v (acc ++ [a, b, c, d]).length (Lib.byteCells (acc ++ [a, b, c, d])) := by
  simpa [Lib.byteCells] using h
theorem wrap_rem (c : UInt8) : IntKind.u8.wrap ((c.toNat : Int) % 16) = ((c.toNat % 16 : Nat) : Int) := by
  rw [IntWalk.u8_in _ (by omega)]
  omega

set_option maxHeartbeats 16000000 in
set_option maxRecDepth 100000 in
theorem refQuote (w : World) (A : Option Addr) (cap : Nat) (l : List UInt8) (h : Rd w A l) (hl : l.length ≤ 16000) :
    Calls Tryd.prog 12 #[.slice A l.length cap] w fun e w' => e = .returned (.string ⟨(quoteL l).toArray⟩) ∧ Below w.heap.size w w' := by
  have HR := Aside0.mk h
  clear h
  obtain ⟨i0, hi0, hz0, hz1, hz2⟩ := info_parts Rf.info5
  go_enter Tryd.func12, Tryd.ntmps12
  go_wp2_with (at_builtin; refine pushN [34] rfl _ _ rfl w.heap.size _ [] rfl (World.ownsRow_nil _ _ _ _) _ rfl (Rf.alloc_at rfl) (by decide) (Rf.le_alloc (Nat.le_refl _)) ?_)
  intro v1 w1 hown1 hgrow1
  have hb1 : Below w.heap.size w w1 := ((Below.refl _ w).alloc (Nat.le_refl _) _).grown hgrow1 (by simp) (fun k hk => by simp [Value.ownBlock] at hk)
  go_wp2
  go_loopw [3, 4] (fun v i wr => ∃ k : Nat, k ≤ l.length ∧ i = .int .i64 k ∧ wr.ownsRow w.heap.size 5 1 v (34 :: (l.take k).flatMap quoteB).length (Lib.byteCells (34 :: (l.take k).flatMap quoteB)) ∧ Below w.heap.size w wr) (fun _ i _ => l.length - (intOf i).toNat)
  case atStart => exact ⟨0, by omega, rfl, by simpa using hown1, hb1⟩
  case round =>
    obtain ⟨k, hk, rfl, hown, hbw⟩ := hrel
    have hBw := hbw.size
    have hfl := flat_len (l.take k)
    have htk : (l.take k).length = k := by simp; omega
    have hLN : Aside0 ((34 :: (l.take k).flatMap quoteB).length < 900000) := ⟨by simp only [List.length_cons]; omega⟩
    clear hfl htk
    obtain ⟨acc, hacc⟩ : ∃ acc, acc = 34 :: (l.take k).flatMap quoteB := ⟨_, rfl⟩
    rw [← hacc] at hown hLN
    have HA := Aside0.mk hacc
    clear hacc
    by_cases hlt : k < l.length
    · have hki : (k : Int) < (l.length : Int) := by omega
      have hk0 : (0 : Int) ≤ (k : Int) := Int.natCast_nonneg _
      obtain ⟨ad, e, hc⟩ := HR.out.below hbw k l[k] (by simp [hlt])
      cases e
      have HT := Aside0.mk (take_next l k hlt)
      generalize hcc : l[k] = c at hc HT
      clear hcc
      rcases quo_ways c with t0 | ⟨t0, t1⟩ | ⟨t0, t1, t2⟩ | ⟨t0, t1, t2, t3⟩ | ⟨t0, t1, t2, t3, t4⟩ | ⟨t0, t1, t2, t3, t4, t5⟩ | ⟨t0, t1, t2, t3, t4, t5⟩
      · have HQ : Aside0 (quoteB c = [92, c]) := ⟨by simp [quoteB, t0]⟩
        have e0 : ((c.toNat : Int) == 34) = true := Rf.u8_is (k := 34) t0
        clear t0
        go_wp2_with (at_builtin; refine pushN [92, c] rfl _ _ rfl w.heap.size _ _ rfl (hown.alloc _) _ rfl (Rf.alloc_at rfl) (few hLN.out (by simp)) (Rf.le_alloc hBw) ?_)
        intro v2 w2 hown2 hgrow
        have hbw2 : Below w.heap.size w w2 := (hbw.alloc hBw _).grown hgrow (by simp; omega) (fun k hk => (hown.lt k hk).1)
        go_wp2
        go_roundw
        case rel => exact ⟨k + 1, by omega, by go_num, by rw [HT.out, HQ.out, ← List.cons_append, ← HA.out]; first | exact hown2 | simpa using hown2, hbw2⟩
        case measure => simp [intOf]; omega
      · have HQ : Aside0 (quoteB c = [92, c]) := ⟨by simp [quoteB, t1]⟩
        have e0 : ((c.toNat : Int) == 34) = false := Rf.u8_not (k := 34) t0
        have e1 : ((c.toNat : Int) == 92) = true := Rf.u8_is (k := 92) t1
        clear t0 t1
        go_wp2_with (at_builtin; refine pushN [92, c] rfl _ _ rfl w.heap.size _ _ rfl (hown.alloc _) _ rfl (Rf.alloc_at rfl) (few hLN.out (by simp)) (Rf.le_alloc hBw) ?_)
        intro v2 w2 hown2 hgrow
        have hbw2 : Below w.heap.size w w2 := (hbw.alloc hBw _).grown hgrow (by simp; omega) (fun k hk => (hown.lt k hk).1)
        go_wp2
        go_roundw
        case rel => exact ⟨k + 1, by omega, by go_num, by rw [HT.out, HQ.out, ← List.cons_append, ← HA.out]; first | exact hown2 | simpa using hown2, hbw2⟩
        case measure => simp [intOf]; omega
      · have HQ : Aside0 (quoteB c = [92, 110]) := ⟨by simp [quoteB, t2]⟩
        have e0 : ((c.toNat : Int) == 34) = false := Rf.u8_not (k := 34) t0
        have e1 : ((c.toNat : Int) == 92) = false := Rf.u8_not (k := 92) t1
        have e2 : ((c.toNat : Int) == 10) = true := Rf.u8_is (k := 10) t2
        clear t0 t1 t2
        go_wp2_with (at_builtin; refine pushN [92, 110] rfl _ _ rfl w.heap.size _ _ rfl (hown.alloc _) _ rfl (Rf.alloc_at rfl) (few hLN.out (by simp)) (Rf.le_alloc hBw) ?_)
        intro v2 w2 hown2 hgrow
        have hbw2 : Below w.heap.size w w2 := (hbw.alloc hBw _).grown hgrow (by simp; omega) (fun k hk => (hown.lt k hk).1)
        go_wp2
        go_roundw
        case rel => exact ⟨k + 1, by omega, by go_num, by rw [HT.out, HQ.out, ← List.cons_append, ← HA.out]; first | exact hown2 | simpa using hown2, hbw2⟩
        case measure => simp [intOf]; omega
      · have HQ : Aside0 (quoteB c = [92, 116]) := ⟨by simp [quoteB, t3]⟩
        have e0 : ((c.toNat : Int) == 34) = false := Rf.u8_not (k := 34) t0
        have e1 : ((c.toNat : Int) == 92) = false := Rf.u8_not (k := 92) t1
        have e2 : ((c.toNat : Int) == 10) = false := Rf.u8_not (k := 10) t2
        have e3 : ((c.toNat : Int) == 9) = true := Rf.u8_is (k := 9) t3
        clear t0 t1 t2 t3
        go_wp2_with (at_builtin; refine pushN [92, 116] rfl _ _ rfl w.heap.size _ _ rfl (hown.alloc _) _ rfl (Rf.alloc_at rfl) (few hLN.out (by simp)) (Rf.le_alloc hBw) ?_)
        intro v2 w2 hown2 hgrow
        have hbw2 : Below w.heap.size w w2 := (hbw.alloc hBw _).grown hgrow (by simp; omega) (fun k hk => (hown.lt k hk).1)
        go_wp2
        go_roundw
        case rel => exact ⟨k + 1, by omega, by go_num, by rw [HT.out, HQ.out, ← List.cons_append, ← HA.out]; first | exact hown2 | simpa using hown2, hbw2⟩
        case measure => simp [intOf]; omega
      · have HQ : Aside0 (quoteB c = [92, 120, hexd (c.toNat / 16), hexd (c.toNat % 16)]) := ⟨by simp [quoteB, t0, t1, t2, t3, t4]⟩
        have e0 : ((c.toNat : Int) == 34) = false := Rf.u8_not (k := 34) t0
        have e1 : ((c.toNat : Int) == 92) = false := Rf.u8_not (k := 92) t1
        have e2 : ((c.toNat : Int) == 10) = false := Rf.u8_not (k := 10) t2
        have e3 : ((c.toNat : Int) == 9) = false := Rf.u8_not (k := 9) t3
        have e4 : (c.toNat : Int) < 32 := by omega
        clear t0 t1 t2 t3 t4
        have hq := wrap_quo c
        have hr := tmod_rem c
        have hq2 := digit_at
        have hm : c.toNat / 16 < 16 := by have := Pl.byte_lt c; omega
        have hn : c.toNat % 16 < 16 := by omega
        have hmi : ((c.toNat / 16 : Nat) : Int) < 16 := by omega
        have hni : ((c.toNat % 16 : Nat) : Int) < 16 := by omega
        generalize hgm : c.toNat / 16 = m at hq hm hmi HQ
        generalize hgn : c.toNat % 16 = n at hr hn hni HQ
        clear hgm hgn
        go_wp2
        go_region_law (first | (refine step_append_lies _ (by rfl) _ _ _ (by rfl) w.heap.size 5 i0 _ 1 1 Tryd.underlying33 hi0 hz0 hz1 hz2 rfl (by omega) u3 _ (Lib.byteCells acc) (by rfl) ((hown.alloc _).drew) ⟨wr.heap.size, 0, none⟩ 4 4 [.int .u8 92, .int .u8 120, .int .u8 (hexd m).toNat, .int .u8 (hexd n).toNat] (by rfl) (by rfl) (World.news_of_block (cs := #[.int .u8 92, .int .u8 120, .int .u8 (hexd m).toNat, .int .u8 (hexd n).toNat]) (t := 5) (fr := (0, 0)) (heap_alloc_new wr _)) (by simp [Value.oneCell']) (by omega) (by have := hLN.out; unfold maxLen; omega) (by have := hLN.out; omega) (by simp; omega) (wr.heap.size + 1) (by simp) ?_; intro gg cap2 w2 hown2 hgrow hat hlt1))
        all_goals
          have hbw2 : Below w.heap.size w w2 := ((hbw.alloc hBw _).drew).grown hgrow (by simp; omega) (fun k hk => (hown.lt k hk).1)
          go_wp2
          go_roundw
          case rel => exact ⟨k + 1, by omega, by go_num, by rw [HT.out, HQ.out, ← List.cons_append, ← HA.out]; exact four hown2, hbw2⟩
          case measure => simp [intOf]; omega
      · have HQ : Aside0 (quoteB c = [92, 120, hexd (c.toNat / 16), hexd (c.toNat % 16)]) := ⟨by simp [quoteB, t0, t1, t2, t3, t5]⟩
        have e0 : ((c.toNat : Int) == 34) = false := Rf.u8_not (k := 34) t0
        have e1 : ((c.toNat : Int) == 92) = false := Rf.u8_not (k := 92) t1
        have e2 : ((c.toNat : Int) == 10) = false := Rf.u8_not (k := 10) t2
        have e3 : ((c.toNat : Int) == 9) = false := Rf.u8_not (k := 9) t3
        have e4 : ¬ (c.toNat : Int) < 32 := by omega
        have e5 : 126 < (c.toNat : Int) := by omega
        clear t0 t1 t2 t3 t4 t5
        have hq := wrap_quo c
        have hr := tmod_rem c
        have hq2 := digit_at
        have hm : c.toNat / 16 < 16 := by have := Pl.byte_lt c; omega
        have hn : c.toNat % 16 < 16 := by omega
        have hmi : ((c.toNat / 16 : Nat) : Int) < 16 := by omega
        have hni : ((c.toNat % 16 : Nat) : Int) < 16 := by omega
        generalize hgm : c.toNat / 16 = m at hq hm hmi HQ
        generalize hgn : c.toNat % 16 = n at hr hn hni HQ
        clear hgm hgn
        go_wp2
        go_region_law (first | (refine step_append_lies _ (by rfl) _ _ _ (by rfl) w.heap.size 5 i0 _ 1 1 Tryd.underlying33 hi0 hz0 hz1 hz2 rfl (by omega) u3 _ (Lib.byteCells acc) (by rfl) ((hown.alloc _).drew) ⟨wr.heap.size, 0, none⟩ 4 4 [.int .u8 92, .int .u8 120, .int .u8 (hexd m).toNat, .int .u8 (hexd n).toNat] (by rfl) (by rfl) (World.news_of_block (cs := #[.int .u8 92, .int .u8 120, .int .u8 (hexd m).toNat, .int .u8 (hexd n).toNat]) (t := 5) (fr := (0, 0)) (heap_alloc_new wr _)) (by simp [Value.oneCell']) (by omega) (by have := hLN.out; unfold maxLen; omega) (by have := hLN.out; omega) (by simp; omega) (wr.heap.size + 1) (by simp) ?_; intro gg cap2 w2 hown2 hgrow hat hlt1))
        all_goals
          have hbw2 : Below w.heap.size w w2 := ((hbw.alloc hBw _).drew).grown hgrow (by simp; omega) (fun k hk => (hown.lt k hk).1)
          go_wp2
          go_roundw
          case rel => exact ⟨k + 1, by omega, by go_num, by rw [HT.out, HQ.out, ← List.cons_append, ← HA.out]; exact four hown2, hbw2⟩
          case measure => simp [intOf]; omega
      · have HQ : Aside0 (quoteB c = [c]) := ⟨by simp only [quoteB]; rw [if_neg (by omega), if_neg t2, if_neg t3, if_neg (by omega)]⟩
        have e0 : ((c.toNat : Int) == 34) = false := Rf.u8_not (k := 34) t0
        have e1 : ((c.toNat : Int) == 92) = false := Rf.u8_not (k := 92) t1
        have e2 : ((c.toNat : Int) == 10) = false := Rf.u8_not (k := 10) t2
        have e3 : ((c.toNat : Int) == 9) = false := Rf.u8_not (k := 9) t3
        have e4 : ¬ (c.toNat : Int) < 32 := by omega
        have e5 : ¬ 126 < (c.toNat : Int) := by omega
        clear t0 t1 t2 t3 t4 t5
        go_wp2_with (at_builtin; refine pushN [c] rfl _ _ rfl w.heap.size _ _ rfl (hown.alloc _) _ rfl (Rf.alloc_at rfl) (few hLN.out (by simp)) (Rf.le_alloc hBw) ?_)
        intro v2 w2 hown2 hgrow
        have hbw2 : Below w.heap.size w w2 := (hbw.alloc hBw _).grown hgrow (by simp; omega) (fun k hk => (hown.lt k hk).1)
        go_wp2
        go_roundw
        case rel => exact ⟨k + 1, by omega, by go_num, by rw [HT.out, HQ.out, ← List.cons_append, ← HA.out]; first | exact hown2 | simpa using hown2, hbw2⟩
        case measure => simp [intOf]; omega
    · have hki : ¬ (k : Int) < (l.length : Int) := by omega
      obtain rfl : k = l.length := by omega
      rw [List.take_length] at HA
      go_wp2_with (at_builtin; refine pushN [34] rfl _ _ rfl w.heap.size _ _ rfl (hown.alloc _) _ rfl (Rf.alloc_at rfl) (few hLN.out (by simp)) (Rf.le_alloc hBw) ?_)
      intro v2 w2 hown2 hgrow
      have hbw2 : Below w.heap.size w w2 := (hbw.alloc hBw _).grown hgrow (by simp; omega) (fun k hk => (hown.lt k hk).1)
      have hcv := Rf.conv_word hown2
      have HF : Aside0 ((⟨(acc ++ [34]).toArray⟩ : ByteArray) = ⟨(quoteL l).toArray⟩) := ⟨by rw [HA.out]; rfl⟩
      go_wp2
      go_ret
      exact ⟨by rw [← HF.out]; rfl, hbw2⟩
end Go.Proofs.YtecpdmoieoibnaaDoor.Qt
