/- Proved: the walk of the law ShellOwn. Conditions: the variable escapes reads as listed. -/
import Derived.Test.YtecpdmoieoibnaaDoorOw3
import Derived.Test.YtecpdmoieoibnaaDoorLw
import Derived.Lib.SmallJoins
import Derived.Deep.RegionHeld3
import Derived.Deep.RegionLaw
import Derived.Deep.RegionWith
set_option linter.unusedVariables false
set_option linter.unusedSimpArgs false
namespace Go.Proofs.YtecpdmoieoibnaaDoor.Ow
open Go.RowKit Go.Lib Go.Proofs.YtecpdmoieoibnaaDoorW.PrintWords
open Go.Proofs.YtecpdmoieoibnaaDoor.Sh (EscVar)
open Go.Proofs.YtecpdmoieoibnaaDoor.Lw (row_form same_true tells_two tells_form words_few)

def kt (M : Nat → ByteArray) (i : Nat) : Value := .string (⟨#[107, 101, 112, 116, 32]⟩ ++ M i)
def mt (M : Nat → ByteArray) (i : Nat) : Value := .string (⟨#[109, 111, 114, 101, 32]⟩ ++ M i)
def SRow (w : World) (A : Option Addr) (xs : List ByteArray) : Prop := ∀ (j : Nat) (x : ByteArray), xs[j]? = some x → ∃ ad, A = some ad ∧ w.cell? (ad.add j) = some (.string x)
theorem SRow.below {w w' : World} {A : Option Addr} {xs : List ByteArray} (h : SRow w A xs) (hb : Below w.heap.size w w') : SRow w' A xs := fun j x hj => by
  obtain ⟨ad, e, hc⟩ := h j x hj
  exact ⟨ad, e, pw_cell_below hb hc⟩
theorem words_head : Pl.wordsOf [97, 32, 34, 98, 34] = some [[97], [98]] := by decide +kernel
theorem tells_head {w w' : World} {e : Ending} (h : Rf.Tells ⟨#[97, 32, 34, 98, 34]⟩ w e w') : ∃ g cap, e = .returned (.tuple #[.slice (some ⟨g, 0, none⟩) 2 cap, .int .i64 0]) ∧ w'.cell? ⟨g, 0, none⟩ = some (.string ⟨#[97]⟩) ∧ w'.cell? ⟨g, 1, none⟩ = some (.string ⟨#[98]⟩) ∧ w'.ownsRow w.heap.size 9 1 (.slice (some ⟨g, 0, none⟩) 2 cap) 2 [.string ⟨#[97]⟩, .string ⟨#[98]⟩] := by
  obtain ⟨_, h⟩ := h
  rcases h with ⟨a1, rfl⟩ | ⟨a1, a2, rfl⟩ | ⟨a1, ws, v, a2, rfl, a3⟩
  · exact absurd a1 (by decide)
  · rw [words_head] at a2; cases a2
  · rw [words_head] at a2
    obtain rfl := Option.some.inj a2
    obtain ⟨g, cap, rfl, hc⟩ := row_form a3 (by decide)
    exact ⟨g, cap, rfl, hc 0 _ rfl, hc 1 _ rfl, a3⟩
theorem KA.first {w : World} {B n : Nat} {v : Value} {xs : List Value} (hv : w.ownsRow B 9 1 v n xs) (hn : n ≤ 70000) (hB : B ≤ w.heap.size) : KA (w.alloc (.cells #[v] 22)) B (.slice (some ⟨w.heap.size, 0, none⟩) 1 1) [v] := by
  have hxn : xs.length = n := by have := hv.1; omega
  subst hxn
  refine ⟨World.ownsRow_lit (base := B) (e := 22) (size := 1) w #[v] 1 hB (by decide) rfl, fun i j u u' hi hj hne => ?_, fun _ => xs, fun i u hi => ?_, fun _ => hn⟩
  · have h1 := (List.getElem?_eq_some_iff.1 hi).1
    have h2 := (List.getElem?_eq_some_iff.1 hj).1
    simp at h1 h2
    omega
  · have h1 := (List.getElem?_eq_some_iff.1 hi).1
    obtain rfl : i = 0 := by simp at h1; omega
    obtain rfl : v = u := by simpa using hi
    exact hv.alloc _
/-- One answer of Words: its list is no longer than 70000. -/
theorem tells_list {s : ByteArray} {w w' : World} {e : Ending} (h : Rf.Tells s w e w') : ∃ (A : Option Addr) (n q : Nat) (c : Int) (l : List Value), e = .returned (.tuple #[.slice A n q, .int .i64 c]) ∧ n ≤ 70000 ∧ w'.ownsRow w.heap.size 9 1 (.slice A n q) n l := by
  obtain ⟨_, h⟩ := h
  rcases h with ⟨a1, rfl⟩ | ⟨a1, a2, rfl⟩ | ⟨a1, ws, v, a2, rfl, a3⟩
  · exact ⟨none, 0, 0, _, [], rfl, by omega, World.ownsRow_nil _ _ _ _⟩
  · exact ⟨none, 0, 0, _, [], rfl, by omega, World.ownsRow_nil _ _ _ _⟩
  · obtain ⟨A, q, rfl⟩ := own_slice a3
    refine ⟨A, _, q, _, _, rfl, ?_, a3⟩
    have := words_few a2
    simp at this
    omega
/-- Two lists more: the shell's two answers. -/
theorem grow_two {w0 wr W1 W2 W5 W6 W7 : World} {kv kv1 kv2 v1 v2 : Value} {V l1 l2 : List Value} {n1 n2 : Nat} {o1 o2 : Obj} (hB : w0.heap.size ≤ wr.heap.size) (h : KA wr w0.heap.size kv V) (b1 : Below wr.heap.size wr W1) (b2 : Below W1.heap.size W1 W2) (b5 : Below W2.heap.size W2 W5)
    (o1h : W1.ownsRow wr.heap.size 9 1 v1 n1 l1) (o2h : W2.ownsRow W1.heap.size 9 1 v2 n2 l2) (hn1 : n1 ≤ 70000) (hn2 : n2 ≤ 70000)
    (g1 : (W5.alloc o1).grownBy W6 kv.ownBlock) (p1 : W6.ownsRow w0.heap.size 22 1 kv1 (V.length + 1) (V ++ [v1]))
    (g2 : (W6.alloc o2).grownBy W7 kv1.ownBlock) (p2 : W7.ownsRow w0.heap.size 22 1 kv2 (V.length + 1 + 1) (V ++ [v1] ++ [v2])) : KA W7 w0.heap.size kv2 (V ++ [v1] ++ [v2]) := by
  have b12 := b1.trans (b2.mono b1.size)
  have b15 := b12.trans (b5.mono b12.size)
  have hA := ((h.below b15).below ((Below.refl _ W5).alloc (Nat.le_refl _) o1))
  have ow1 := (pw_own_below (pw_own_below o1h b2) b5).alloc o1
  have ow2 := (pw_own_below o2h b5).alloc o1
  obtain ⟨C, f1, f2⟩ := h.fam
  have hA1 := hA.grow (own_weaken ow1 hB) hn1 (fun i u hi => apart_new (f1 i u hi) ow1 (Nat.le_refl _)) g1 p1
  have t1 : v1.ownBlock = none ∨ v1.ownBlock ≠ kv.ownBlock := own_type_ne ow1 hA.own (by decide)
  have t2 : v2.ownBlock = none ∨ v2.ownBlock ≠ kv.ownBlock := own_type_ne ow2 hA.own (by decide)
  have ow2' := (ow2.kept g1 t2).alloc o2
  refine (hA1.below ((Below.refl _ W6).alloc (Nat.le_refl _) o2)).grow (own_weaken ow2' (Nat.le_trans hB b1.size)) hn2 (fun i u hi => ?_) g2 (by simpa using p2)
  by_cases hlt : i < V.length
  · rw [List.getElem?_append_left hlt] at hi
    exact apart_new (f1 i u hi) ow2 b1.size
  · rw [List.getElem?_append_right (by omega)] at hi
    have h0 := (List.getElem?_eq_some_iff.1 hi).1
    have e0 : i - V.length = 0 := by simp at h0; omega
    rw [e0] at hi
    obtain rfl : v1 = u := by simpa using hi
    exact apart_new o1h ow2 (Nat.le_refl _)
theorem KB.toC' {w : World} {B : Nat} {kv : Value} {V : List Value} {N : Nat → Nat} {mk : Nat → Value} (mo : Nat → Value) (h : KB w B kv V N mk V.length 0) (hB : B ≤ w.heap.size) : ∃ B1, B ≤ B1 ∧ Aside0 (KC w B B1 kv (.slice none 0 0) V [] N mk mo 0) := ⟨_, hB, ⟨h.toC⟩⟩
theorem looks_low {w : World} {B B1 : Nat} {kv lv : Value} {V U : List Value} {N : Nat → Nat} {M : Nat → ByteArray} (h : KC w B B1 kv lv V U N (kt M) (mt M) V.length) (hVS : ∀ (i : Nat) (hi : i < V.length), ∃ A c, V[i] = .slice A (N i) c) {a j : Nat} (ha : a < V.length) (hj : j < N a) :
    ∃ gv cv, V[a] = .slice (some ⟨gv, 0, none⟩) (N a) cv ∧ w.cell? ⟨gv, j, none⟩ = some (.string (⟨#[107, 101, 112, 116, 32]⟩ ++ M a)) := by
  obtain ⟨g, n, c, e, hc⟩ := (h.rv a V[a] ha (by simp [ha])).cell (j := j) (u := kt M a) (by simp [rep, hj])
  obtain ⟨A, c', e'⟩ := hVS a ha
  have e2 := e.symm.trans e'
  simp only [Value.slice.injEq] at e2
  obtain ⟨_, rfl, _⟩ := e2
  exact ⟨g, c, e, hc⟩
theorem looks_long {w : World} {B B1 : Nat} {kv lv : Value} {V U : List Value} {N : Nat → Nat} {M : Nat → ByteArray} (h : KC w B B1 kv lv V U N (kt M) (mt M) V.length) {a : Nat} (ha : a < V.length) :
    ∃ gu cu, (∃ hu : a < U.length, U[a] = .slice (some ⟨gu, 0, none⟩) (N a + 71) cu) ∧ (∀ j, j < N a → w.cell? ⟨gu, j, none⟩ = some (.string (⟨#[107, 101, 112, 116, 32]⟩ ++ M a))) ∧ (∀ j, N a ≤ j → j < N a + 71 → w.cell? ⟨gu, j, none⟩ = some (.string (⟨#[109, 111, 114, 101, 32]⟩ ++ M a))) := by
  have hu : a < U.length := by have := h.ul; omega
  obtain ⟨⟨A, c, e⟩, hr⟩ := h.ru a U[a] (by simp [hu])
  obtain ⟨g, n, c', e', _⟩ := hr.cell (j := N a) (u := mt M a) (by simp [rep2])
  have e2 := e'.symm.trans e
  simp only [Value.slice.injEq] at e2
  obtain ⟨rfl, rfl, rfl⟩ := e2
  have look : ∀ j v, (rep2 N (kt M) (mt M) a 71)[j]? = some v → w.cell? ⟨g, j, none⟩ = some v := fun j v hj => by
    obtain ⟨g2, n2, c2, e2, hc⟩ := hr.cell hj
    have e3 := e.symm.trans e2
    simp only [Value.slice.injEq, Option.some.injEq, Addr.mk.injEq] at e3
    rw [e3.1.1]
    exact hc
  refine ⟨g, c', ⟨hu, e⟩, fun j hj => look j _ ?_, fun j h1 h2 => look j _ ?_⟩
  · rw [rep2, List.getElem?_append_left (by simpa using hj)]
    simp [hj, kt]
  · rw [rep2, List.getElem?_append_right (by simpa using h1)]
    rw [List.getElem?_replicate, if_pos (by simp; omega)]
    rfl
theorem KI.more {w0 w wx w' : World} {B1 H k t : Nat} {kv lv l l' : Value} {V U : List Value} {N : Nat → Nat} {mk mo : Nat → Value} (hd : Dist V) (h : KI w w0.heap.size B1 H kv lv V U N mk mo k t l) (hb : Below w0.heap.size w0 w) (hx : Below w.heap.size w wx) (g : InOrNew wx w' l l') (p : w'.ownsRow w0.heap.size 9 1 l' (N k + t + 1) (rep2 N mk mo k t ++ [mo k])) :
    Below w0.heap.size w0 w' ∧ Aside0 (KI w' w0.heap.size B1 H kv lv V U N mk mo k (t + 1) l') := by
  have hk := h.below hx
  have hbx := hb.trans (hx.mono hb.size)
  refine ⟨?_, ⟨hk.step hd g p⟩⟩
  rcases g with ⟨g, n, c, rfl, rfl, hg⟩ | ⟨_, hb2⟩
  · exact hbx.grown hg hbx.size (fun q hq => (hk.lo.lt q hq).1)
  · exact hbx.trans (hb2.mono hbx.size)
theorem KC.toI' {w : World} {B B1 k : Nat} {kv lv v : Value} {V U : List Value} {N : Nat → Nat} {mk mo : Nat → Value} (h : KC w B B1 kv lv V U N mk mo k) (hk : V[k]? = some v) : ∃ H, Aside0 (KI w B B1 H kv lv V U N mk mo k 0 v) := ⟨_, ⟨h.toI hk⟩⟩

set_option maxHeartbeats 32000000 in
set_option maxRecDepth 100000 in
/-- The law ShellOwn returns true. -/
theorem walk_own (A : Option Addr) (n cap : Nat) (xs : List ByteArray) (w : World) (hE : EscVar w) (h0 : SRow w A xs) (hn : xs.length = n) (hx : ∀ x ∈ xs, x.size ≤ 140737488355328) : Calls Tryd.prog 4 #[.slice A n cap] w fun e w' => e = .returned (.bool true) ∧ Below w.heap.size w w' := by
  have hw0 := hE.pos
  subst hn
  have HR := Aside0.mk h0
  have HX := Aside0.mk hx
  clear h0 hx
  obtain ⟨M, hM⟩ := marks
  have HM := Aside0.mk hM
  clear hM
  go_enter Tryd.func4, Tryd.ntmps4
  go_wp2_with fail
  refine (Sh.words ⟨#[97, 32, 34, 98, 34]⟩ w hE (by decide)).mono ?_
  intro e W0 h0
  have b0 := h0.1
  obtain ⟨g, hcap, rfl, hc0, hc1, hown⟩ := tells_head h0
  clear h0
  have HK := Aside0.mk (KA.first hown (by decide) b0.size)
  clear hown
  go_wp2
  have hb0 := b0.alloc b0.size (.cells #[.slice (some ⟨g, 0, none⟩) 2 hcap] 22)
  go_loopw [5, 7] (fun kv i wr => ∃ (k : Nat) (V : List Value), k ≤ xs.length ∧ k ≤ 4096 ∧ i = .int .i64 k ∧ Below w.heap.size w wr ∧ V.length = 1 + 2 * k ∧ Aside0 (KA wr w.heap.size kv V)) (fun _ i _ => 4096 - (intOf i).toNat)
  case atStart => exact ⟨0, _, Nat.zero_le _, by omega, rfl, hb0, rfl, HK⟩
  case round =>
    clear HK hc0 hc1 hb0
    obtain ⟨k, V, hk, hk2, rfl, hbw, hVl, hKA⟩ := hrel
    have hVK : V.length ≤ 8193 := by omega
    have hV0 : 0 < V.length := by omega
    have HVl := Aside0.mk hVl
    clear hVl
    have hBw := hbw.size
    by_cases hlt : k < xs.length ∧ k < 4096
    · obtain ⟨hlt, hlt2⟩ := hlt
      have hki : (k : Int) < (xs.length : Int) := by omega
      have hki2 : (k : Int) < 4096 := by omega
      have hk0 : (0 : Int) ≤ (k : Int) := Int.natCast_nonneg _
      have hxk := HX.out xs[k] (List.getElem_mem hlt)
      obtain ⟨ad, e, hc⟩ := HR.out.below hbw k xs[k] (by simp [hlt])
      cases e
      generalize xs[k] = s at hc hxk
      go_wp2_with fail
      refine (Sh.words s wr (hE.below hw0 hbw) hxk).mono ?_
      intro e W1 h1
      have b1 := h1.1
      have hb1 := hbw.trans (b1.mono hBw)
      obtain ⟨A1, n1, q1, c1, l1, rfl, hn1, o1⟩ := tells_list h1
      have H1 := Aside0.mk h1
      have O1 := Aside0.mk o1
      clear h1 o1
      have hc := pw_cell_below b1 hc
      go_wp2_with fail
      refine (Sh.words s W1 (hE.below hw0 hb1) hxk).mono ?_
      intro e W2 h2
      have b2 := h2.1
      have hb2 := hb1.trans (b2.mono hb1.size)
      obtain ⟨A2, n2, q2, c2, l2, rfl, hn2, o2⟩ := tells_list h2
      have H2 := Aside0.mk h2
      have O2 := Aside0.mk o2
      clear h2 o2
      have hc := pw_cell_below b2 hc
      go_wp2_with fail
      refine (Rf.words s W2 hxk).mono ?_
      intro e W3 h3
      have b3 := h3.1
      have hb3 := hb2.trans (b3.mono hb2.size)
      obtain ⟨v1, v3, c3, ws, p1, p2, p3, p4, p5⟩ := tells_two H1.out h3
      obtain ⟨rfl, rfl⟩ : Value.slice A1 n1 q1 = v1 ∧ c1 = c3 := by simpa using p1
      obtain ⟨v2, v3', c3', ws', r1, r2, r3, r4, r5⟩ := tells_two H2.out h3
      obtain ⟨rfl, rfl⟩ : Value.slice A2 n2 q2 = v2 ∧ c2 = c3' := by simpa using r1
      subst p2
      obtain ⟨rfl, rfl⟩ : v3 = v3' ∧ c1 = c2 := by simpa using r2
      clear p1 r1 r2 h3 H1 H2
      have hcc : (c1 == c1) = true := by simp
      have S1 := Aside0.mk (same_true W3 _ _ _ v3 ws p3 (pw_own_below (pw_own_below p4 b2) b3) p5)
      have S2 := Aside0.mk (fun (W4 : World) (b4 : Below W3.heap.size W3 W4) => same_true W4 _ _ _ v3 ws' r3 (pw_own_below (pw_own_below r4 b3) b4) (pw_own_below r5 b4))
      clear p3 p4 p5 r3 r4 r5
      go_wp2_with fail
      refine S1.out.mono ?_
      rintro e W4 ⟨rfl, b4⟩
      have hb4 := hb3.trans (b4.mono hb3.size)
      go_wp2_with fail
      refine (S2.out W4 b4).mono ?_
      rintro e W5 ⟨rfl, b5⟩
      have hb5 := hb4.trans (b5.mono hb4.size)
      have HKA5 := Aside0.mk (pw_own_below (pw_own_below (pw_own_below (pw_own_below (pw_own_below hKA.out.own b1) b2) b3) b4) b5)
      go_wp2_with (at_builtin; refine push22 _ rfl _ _ rfl w.heap.size _ _ _ rfl (HKA5.out.alloc _) _ _ _ _ rfl (Rf.alloc_at rfl) (by omega) (Rf.le_alloc hb5.size) ?_)
      intro kv1 W6 p1 g1
      have hb6 := (hb5.alloc hb5.size (.cells #[.slice A1 n1 q1] 22)).grown g1 (Rf.le_alloc hb5.size) (fun k hk => (hKA.out.own.lt k hk).1)
      have P1 := Aside0.mk p1
      clear p1
      go_wp2_with (at_builtin; refine push22 _ rfl _ _ rfl w.heap.size _ _ _ rfl (P1.out.alloc _) _ _ _ _ rfl (Rf.alloc_at rfl) (by omega) (Rf.le_alloc hb6.size) ?_)
      intro kv2 W7 p2 g2
      have hb7 := (hb6.alloc hb6.size (.cells #[.slice A2 n2 q2] 22)).grown g2 (Rf.le_alloc hb6.size) (fun k hk => (P1.out.lt k hk).1)
      have HK7 := Aside0.mk (grow_two hBw hKA.out b1 b2 ((b3.trans (b4.mono b3.size)).trans (b5.mono (b3.trans (b4.mono b3.size)).size)) O1.out O2.out hn1 hn2 g1 P1.out g2 (by rw [List.append_assoc]; exact p2))
      clear p2
      go_wp2
      go_roundw
      case rel => exact ⟨k + 1, V ++ [.slice A1 n1 q1, .slice A2 n2 q2], by omega, by omega, by go_num, hb7, by have := HVl.out; simp; omega, by first | exact HK7 | exact ⟨by simpa using HK7.out⟩⟩
      case measure => simp [intOf]; omega
    · have hguard : (k = xs.length) ∨ (k < xs.length ∧ k = 4096) := by omega
      clear hlt
      go_upto_region 7 with (fail)
      go_cut [55] from 48 to 109 (fun s55 wx => s55 = .bool false ∧ wr = wx)
      case first =>
        rcases hguard with hg | ⟨hg1, hg2⟩
        · have hki : ¬ (k : Int) < (xs.length : Int) := by omega
          clear hg hk hk2
          go_wp2
          go_meet
          exact ⟨rfl, rfl⟩
        · have hki : (k : Int) < (xs.length : Int) := by omega
          have hki2 : ¬ (k : Int) < 4096 := by omega
          clear hg1 hg2 hk hk2
          go_wp2
          go_meet
          exact ⟨rfl, rfl⟩
      case rest =>
        obtain ⟨rfl, rfl⟩ := hcut
        clear hguard hk hk2
        go_upto_region 16 with (fail)
        obtain ⟨N, hN, hKB0⟩ := hKA.out.toB
        have HD := Aside0.mk hKA.out.dist
        have HN := Aside0.mk hN
        have HKB0 := Aside0.mk (hKB0 (kt M))
        obtain ⟨gk, ck, rfl, _⟩ := kept_at hKA.out.own hV0
        clear hN hKB0 hKA
        go_wp2
        go_loopw [14] (fun i wB => ∃ t : Nat, t ≤ V.length ∧ i = .int .i64 t ∧ Below w.heap.size w wB ∧ Aside0 (KB wB w.heap.size (.slice (some ⟨gk, 0, none⟩) V.length ck) V N (kt M) t 0)) (fun i _ => V.length - (intOf i).toNat)
        case atStart => exact ⟨0, Nat.zero_le _, rfl, hbw, HKB0⟩
        case round =>
          clear HKB0 hbw hBw
          obtain ⟨k', hk', rfl, hbw, hKB⟩ := hrel
          have hBw := hbw.size
          by_cases hlt : k' < V.length
          · have hki' : (k' : Int) < (V.length : Int) := by omega
            have hk0 : (0 : Int) ≤ (k' : Int) := Int.natCast_nonneg _
            have hms := (HM.out k' (by omega)).1
            have hsz : ¬ 9223372036854775807 < 5 + (M k').size := by omega
            clear hms
            have HC := Aside0.mk (fun (W : World) => (HM.out k' (by omega)).2 W)
            go_wp2_with fail
            refine (HC.out _).mono ?_
            rintro e W1 ⟨rfl, b1⟩
            have hb1 := hbw.trans (b1.mono hBw)
            go_wp2
            go_loopw [16] (fun j wT => ∃ t : Nat, t ≤ N k' ∧ j = .int .i64 t ∧ Below w.heap.size w wT ∧ Aside0 (KB wT w.heap.size (.slice (some ⟨gk, 0, none⟩) V.length ck) V N (kt M) k' t)) (fun j _ => N k' - (intOf j).toNat)
            case atStart => exact ⟨0, Nat.zero_le _, rfl, hb1, ⟨hKB.out.below b1⟩⟩
            case round =>
              clear hb1 b1 hKB
              obtain ⟨t, ht, rfl, hbt, hKB⟩ := hrel
              have hNk := HN.out k'
              obtain ⟨_, _, hkv, hcell⟩ := kept_at hKB.out.own hlt
              cases hkv
              have ht0 : (0 : Int) ≤ (t : Int) := Int.natCast_nonneg _
              by_cases hlt2 : t < N k'
              · have hti : (t : Int) < (N k' : Int) := by omega
                obtain ⟨gv, cv, v0, hv, hcv, hfz, hBg⟩ := hKB.out.place hlt hlt2
                have HKS := Aside0.mk (hKB.out.store HD.out hlt hlt2 hv)
                rw [hv] at hcell
                clear hv
                go_wp2
                go_roundw
                case rel => exact ⟨t + 1, by omega, by go_num, hbt.setCell (p := ⟨gv, t, none⟩) hBg _, HKS⟩
                case measure => simp [intOf]; omega
              · have hti : ¬ (t : Int) < (N k' : Int) := by omega
                obtain rfl : t = N k' := by omega
                obtain ⟨Av, cv, hv⟩ := hKB.out.len k' hlt
                rw [hv] at hcell
                clear hv
                go_wp2
                go_roundw
                case rel => exact ⟨k' + 1, by omega, by go_num, hbt, ⟨hKB.out.next⟩⟩
                case measure => simp [intOf]; omega
          · have hki' : ¬ (k' : Int) < (V.length : Int) := by omega
            obtain rfl : k' = V.length := by omega
            clear hlt hk'
            go_upto_region 24 with (fail)
            clear hki'
            have HVS := Aside0.mk (fun (i : Nat) (hi : i < V.length) => hKB.out.len i hi)
            obtain ⟨B1, hBB, HKC0⟩ := KB.toC' (mt M) hKB.out hBw
            clear hKB
            go_wp2
            go_loopw [6, 17] (fun lv i wC => ∃ (t : Nat) (U : List Value), t ≤ V.length ∧ i = .int .i64 t ∧ Below w.heap.size w wC ∧ Aside0 (KC wC w.heap.size B1 (.slice (some ⟨gk, 0, none⟩) V.length ck) lv V U N (kt M) (mt M) t)) (fun _ i _ => V.length - (intOf i).toNat)
            case atStart => exact ⟨0, [], Nat.zero_le _, rfl, hbw, HKC0⟩
            case round =>
              clear HKC0 hbw hBw
              obtain ⟨t, U, ht, rfl, hbw, hKC⟩ := hrel
              have hBw := hbw.size
              by_cases hlt : t < V.length
              · have hti : (t : Int) < (V.length : Int) := by omega
                have ht0 : (0 : Int) ≤ (t : Int) := Int.natCast_nonneg _
                have hms := (HM.out t (by omega)).1
                have hsz : ¬ 9223372036854775807 < 5 + (M t).size := by omega
                clear hms
                have HC := Aside0.mk (fun (W : World) => (HM.out t (by omega)).2 W)
                obtain ⟨_, _, hkv, hcell⟩ := kept_at hKC.out.own hlt
                cases hkv
                have hvk : V[t]? = some V[t] := by simp [hlt]
                obtain ⟨At, ct, hv⟩ := own_slice (hKC.out.todo t V[t] (Nat.le_refl _) hvk)
                rw [hv] at hcell hvk
                obtain ⟨H, HKI⟩ := KC.toI' hKC.out hvk
                clear hv hvk hKC
                have hNt := HN.out t
                go_upto_region 27 with (fail)
                go_cut [18] from 135 to 163 (fun l wx => Below w.heap.size w wx ∧ Aside0 (KI wx w.heap.size B1 H (.slice (some ⟨gk, 0, none⟩) V.length ck) u6 V U N (kt M) (mt M) t 1 l))
                case first =>
                  go_region_law (first | (refine step_sharp _ (by rfl) _ _ (by rfl) w.heap.size _ (N t + 0) (rep2 N (kt M) (mt M) t 0) (by rfl) (((pw_own_below HKI.out.lo.drew b1).alloc _).drew) W1.heap.size _ (by rfl) (heap_alloc_new W1 _) (by omega) (Rf.le_alloc hb1.size) ?_; intro l' W2 p2 g2) | (go_simp; go_at_call 10; refine (HC.out _).mono ?_; rintro e W1 ⟨rfl, b1⟩; have hb1 := hbw.drew.trans (b1.mono hBw); have bp : Below wr.heap.size wr W1 := ((Below.refl _ wr).drew).trans b1; have hc1 := pw_cell_below b1 hcell; have hc2 := fun o => pw_cell_below ((Below.refl _ W1).alloc (Nat.le_refl _) o) hc1))
                  all_goals
                    go_wp2
                    go_meet
                    first | exact KI.more HD.out HKI.out hbw (bp.alloc bp.size _) g2 p2 | exact KI.more HD.out HKI.out hbw (bp.alloc bp.size _).drew g2 p2
                case rest =>
                  clear HKI hcell hbw hBw hsz
                  obtain ⟨hbw, HKI⟩ := hcut
                  have hsz : ¬ 9223372036854775807 < 5 + (M t).size := by
                    have := (HM.out t (by omega)).1
                    omega
                  go_wp2
                  go_loopw [18, 19] (fun l i wD => ∃ j : Nat, j ≤ 70 ∧ i = .int .i64 j ∧ Below w.heap.size w wD ∧ Aside0 (KI wD w.heap.size B1 H (.slice (some ⟨gk, 0, none⟩) V.length ck) u6 V U N (kt M) (mt M) t (j + 1) l)) (fun _ i _ => 70 - (intOf i).toNat)
                  case atStart => exact ⟨0, Nat.zero_le _, rfl, hbw, HKI⟩
                  case round =>
                    clear HKI hbw
                    obtain ⟨j, hj, rfl, hbw, HKI⟩ := hrel
                    have hj0 : (0 : Int) ≤ (j : Int) := Int.natCast_nonneg _
                    by_cases hlt2 : j < 70
                    · have hji : (j : Int) < 70 := by omega
                      go_wp2_with fail
                      refine (HC.out _).mono ?_
                      rintro e W1 ⟨rfl, b1⟩
                      have hb1 := hbw.trans (b1.mono hbw.size)
                      have HL := Aside0.mk (pw_own_below HKI.out.lo b1)
                      go_wp2_with (at_builtin; refine list_sharp _ rfl _ _ rfl w.heap.size _ (N t + (j + 1)) (rep2 N (kt M) (mt M) t (j + 1)) rfl (HL.out.alloc _) _ _ rfl (Rf.alloc_at rfl) (by omega) (Rf.le_alloc hb1.size) ?_)
                      intro l' W2 p2 g2
                      have HK2 := Aside0.mk (KI.more HD.out HKI.out hbw (b1.alloc b1.size _) g2 p2)
                      clear p2 g2
                      go_wp2
                      go_roundw
                      case rel => exact ⟨j + 1, by omega, by go_num, HK2.out.1, HK2.out.2⟩
                      case measure => simp [intOf]; omega
                    · have hji : ¬ (j : Int) < 70 := by omega
                      obtain rfl : j = 70 := by omega
                      have HLO := Aside0.mk HKI.out.lown
                      have hul := HKI.out.ul
                      have hUb : U.length < 1000000 := by omega
                      have HUL := Aside0.mk hul
                      clear hul
                      obtain ⟨Al, ql, hl⟩ := own_slice HKI.out.lo
                      subst hl
                      go_wp2_with (at_builtin; refine push22 _ rfl _ _ rfl B1 _ _ _ rfl (HLO.out.alloc _) _ _ _ _ rfl (Rf.alloc_at rfl) hUb (Rf.le_alloc HKI.out.hB1) ?_)
                      intro lv2 W6 p6 g6
                      have HD6 := Aside0.mk (KI.done HD.out (HKI.out.below ((Below.refl _ _).alloc (Nat.le_refl _) _)) g6 p6 hlt)
                      have hb6 := (hbw.alloc hbw.size _).grown g6 (Rf.le_alloc hbw.size) (fun q hq => Nat.le_trans hBB (HLO.out.lt q hq).1)
                      clear p6 g6
                      go_wp2
                      go_roundw
                      case rel => exact ⟨t + 1, _, by omega, by go_num, hb6, HD6⟩
                      case measure => simp [intOf]; omega
              · have hti : ¬ (t : Int) < (V.length : Int) := by omega
                obtain rfl : t = V.length := by omega
                clear hlt ht
                have hU0 : 0 < U.length := by have := hKC.out.ul; omega
                obtain ⟨gl, cl, hlv, hlc0⟩ := kept_at hKC.out.lown hU0
                clear hlc0
                subst hlv
                go_upto_region 33 with (fail)
                clear hti
                go_wp2
                go_loopw [20] (fun i wD => ∃ a : Nat, a ≤ V.length ∧ i = .int .i64 a ∧ Below w.heap.size w wD ∧ Aside0 (KC wD w.heap.size B1 (.slice (some ⟨gk, 0, none⟩) V.length ck) (.slice (some ⟨gl, 0, none⟩) U.length cl) V U N (kt M) (mt M) V.length)) (fun i _ => V.length - (intOf i).toNat)
                case atStart => exact ⟨0, Nat.zero_le _, rfl, hbw, hKC⟩
                case round =>
                  clear hKC hbw hBw
                  obtain ⟨a, ha, rfl, hbw, hKC⟩ := hrel
                  have hBw := hbw.size
                  have ha0 : (0 : Int) ≤ (a : Int) := Int.natCast_nonneg _
                  by_cases hlt : a < V.length
                  · have hai : (a : Int) < (V.length : Int) := by omega
                    have haU : (a : Int) < (U.length : Int) := by have := hKC.out.ul; omega
                    have hms := (HM.out a (by omega)).1
                    have hsz : ¬ 9223372036854775807 < 5 + (M a).size := by omega
                    clear hms
                    have HC := Aside0.mk (fun (W : World) => (HM.out a (by omega)).2 W)
                    obtain ⟨Av, cv, hv⟩ := HVS.out a hlt
                    obtain ⟨_, _, hkv, hck⟩ := kept_at hKC.out.own hlt
                    cases hkv
                    rw [hv] at hck
                    go_upto_region 37 with (fail)
                    go_wp2
                    go_loopw [22] (fun i wD => ∃ j : Nat, j ≤ N a + 71 ∧ i = .int .i64 j ∧ Below w.heap.size w wD ∧ Aside0 (KC wD w.heap.size B1 (.slice (some ⟨gk, 0, none⟩) V.length ck) (.slice (some ⟨gl, 0, none⟩) U.length cl) V U N (kt M) (mt M) V.length)) (fun i _ => N a + 71 - (intOf i).toNat)
                    case atStart => exact ⟨0, Nat.zero_le _, rfl, hbw, hKC⟩
                    case round =>
                      clear hKC hbw hBw hck
                      obtain ⟨j, hj, rfl, hbw, hKC⟩ := hrel
                      have hBw := hbw.size
                      have hj0 : (0 : Int) ≤ (j : Int) := Int.natCast_nonneg _
                      obtain ⟨gu, cu, ⟨hu, hU⟩, hlow, hhigh⟩ := looks_long hKC.out hlt
                      obtain ⟨_, _, hlv, hcl⟩ := kept_at hKC.out.lown hu
                      cases hlv
                      obtain ⟨_, _, hkv, hck⟩ := kept_at hKC.out.own hlt
                      cases hkv
                      rw [hv] at hck
                      rw [hU] at hcl
                      have hNa := HN.out a
                      by_cases hlt2 : j < N a + 71
                      · have hji : (j : Int) < (N a : Int) + 71 := by omega
                        by_cases hlt3 : j < N a
                        · have hjn : (j : Int) < (N a : Int) := by omega
                          have hjn2 : decide ((N a : Int) ≤ (j : Int)) = false := decide_eq_false (by omega)
                          have hjn3 : decide (N a ≤ j) = false := decide_eq_false (by omega)
                          have hcu := hlow j hlt3
                          obtain ⟨gv, cv2, hv2, hcv⟩ := looks_low hKC.out HVS.out hlt hlt3
                          rw [← hv, hv2] at hck
                          clear hlow hhigh hv2
                          have hbd : Below wr.heap.size wr wr.drew := (Below.refl _ _).drew
                          have HC4 := Aside0.mk (fun (W : World) (hW : Below wr.heap.size wr W) => (HC.out W).mono (R' := fun e w' => e = .returned (.string (M a)) ∧ Below wr.heap.size wr w' ∧ w'.cell? ⟨gk, a, none⟩ = some (.slice (some ⟨gv, 0, none⟩) (N a) cv2) ∧ w'.cell? ⟨gl, a, none⟩ = some (.slice (some ⟨gu, 0, none⟩) (N a + 71) cu) ∧ w'.cell? ⟨gv, j, none⟩ = some (.string (⟨#[107, 101, 112, 116, 32]⟩ ++ M a)) ∧ w'.cell? ⟨gu, j, none⟩ = some (.string (⟨#[107, 101, 112, 116, 32]⟩ ++ M a))) (fun e w' h => ⟨h.1, hW.trans (h.2.mono hW.size), pw_cell_below (hW.trans (h.2.mono hW.size)) hck, pw_cell_below (hW.trans (h.2.mono hW.size)) hcl, pw_cell_below (hW.trans (h.2.mono hW.size)) hcv, pw_cell_below (hW.trans (h.2.mono hW.size)) hcu⟩))
                          go_upto_region 40 with (fail)
                          go_region_held3 (fun w' => Below wr.heap.size wr w' ∧ w'.cell? ⟨gk, a, none⟩ = some (.slice (some ⟨gv, 0, none⟩) (N a) cv2) ∧ w'.cell? ⟨gl, a, none⟩ = some (.slice (some ⟨gu, 0, none⟩) (N a + 71) cu) ∧ w'.cell? ⟨gv, j, none⟩ = some (.string (⟨#[107, 101, 112, 116, 32]⟩ ++ M a)) ∧ w'.cell? ⟨gu, j, none⟩ = some (.string (⟨#[107, 101, 112, 116, 32]⟩ ++ M a))) (go_keep)
                            (first | (go_at_call 10; refine (HC4.out _ ?_).mono ?_; (simp [*]); rintro e W1 ⟨rfl, b1, k1, k2, k3, k4⟩))
                          all_goals
                            go_wp2
                            go_quiet (fail)
                            go_wp2
                            go_roundw
                            case rel => exact ⟨j + 1, by omega, by go_num, hbw.trans (Below.mono (B := wr.heap.size) (by first | assumption | exact Sh.below_drewN (by assumption) _ | exact Below.drew (by assumption)) hBw), ⟨hKC.out.below (by first | assumption | exact Sh.below_drewN (by assumption) _ | exact Below.drew (by assumption))⟩⟩
                            case measure => simp [intOf]; omega
                        · have hjn : decide ((j : Int) < (N a : Int)) = false := decide_eq_false (by omega)
                          have hjn2 : (N a : Int) ≤ (j : Int) := by omega
                          have hcu := hhigh j (by omega) hlt2
                          clear hlow hhigh
                          have hq : ∀ m, Below wr.heap.size wr ((wr.drewN m).drew) := fun m => (Sh.below_drewN (Below.refl _ _) m).drew
                          have HC4 := Aside0.mk (fun (W : World) (hW : Below wr.heap.size wr W) => (HC.out W).mono (R' := fun e w' => e = .returned (.string (M a)) ∧ Below wr.heap.size wr w' ∧ w'.cell? ⟨gl, a, none⟩ = some (.slice (some ⟨gu, 0, none⟩) (N a + 71) cu) ∧ w'.cell? ⟨gu, j, none⟩ = some (.string (⟨#[109, 111, 114, 101, 32]⟩ ++ M a))) (fun e w' h => ⟨h.1, hW.trans (h.2.mono hW.size), pw_cell_below (hW.trans (h.2.mono hW.size)) hcl, pw_cell_below (hW.trans (h.2.mono hW.size)) hcu⟩))
                          go_upto_region 40 with (fail)
                          go_quiet (fail)
                          go_upto_region 42 with (fail)
                          go_region_held3 (fun w' => Below wr.heap.size wr w' ∧ w'.cell? ⟨gl, a, none⟩ = some (.slice (some ⟨gu, 0, none⟩) (N a + 71) cu) ∧ w'.cell? ⟨gu, j, none⟩ = some (.string (⟨#[109, 111, 114, 101, 32]⟩ ++ M a))) (first | (go_keep; done) | exact (Sh.below_drewN (Below.refl _ _) _).drew | (refine ⟨(Sh.below_drewN (Below.refl _ _) _).drew, ?_⟩; go_keep))
                            (first | (go_at_call 10; refine (HC4.out _ (by first | assumption | exact (Sh.below_drewN (Below.refl _ _) _).drew | simp [*])).mono ?_; rintro e W1 ⟨rfl, b1, k1, k2⟩))
                          all_goals
                            go_wp2
                            go_roundw
                            case rel => exact ⟨j + 1, by omega, by go_num, hbw.trans (Below.mono (B := wr.heap.size) (by first | assumption | exact Sh.below_drewN (by assumption) _ | exact Below.drew (by assumption)) hBw), ⟨hKC.out.below (by first | assumption | exact Sh.below_drewN (by assumption) _ | exact Below.drew (by assumption))⟩⟩
                            case measure => simp [intOf]; omega
                      · have hji : ¬ (j : Int) < (N a : Int) + 71 := by omega
                        clear hlow hhigh
                        go_wp2
                        go_roundw
                        case rel => exact ⟨a + 1, by omega, by go_num, hbw, hKC⟩
                        case measure => simp [intOf]; omega
                  · have hai : ¬ (a : Int) < (V.length : Int) := by omega
                    go_wp2
                    go_ret
                    exact ⟨rfl, hbw⟩
end Go.Proofs.YtecpdmoieoibnaaDoor.Ow
