/- Proved: graftlaw20.same on two lists of the same words, and the walk of the law ShellWords. Conditions: the variable escapes reads as listed. -/
import Derived.Test.YtecpdmoieoibnaaDoorSh4
set_option linter.unusedVariables false
set_option linter.unusedSimpArgs false
namespace Go.Proofs.YtecpdmoieoibnaaDoor.Lw
open Go.RowKit Go.Lib Go.Proofs.YtecpdmoieoibnaaDoorW.PrintWords
open Go.Proofs.YtecpdmoieoibnaaDoor.Sh (EscVar below_drewN)

theorem row_form {w : World} {B n : Nat} {e : TypeId} {v : Value} {xs : List Value} (h : w.ownsRow B e 1 v n xs) (h0 : 0 < n) : ∃ g cap, v = .slice (some ⟨g, 0, none⟩) n cap ∧ ∀ j u, xs[j]? = some u → w.cell? ⟨g, j, none⟩ = some u := by
  rcases h.2 with ⟨_, h1⟩ | ⟨g, cap, cur, rfl, _⟩
  · omega
  · refine ⟨g, cap, rfl, fun j u hj => ?_⟩
    have := h.cells (g := g) rfl j u hj
    have e : ((⟨g, 0, none⟩ : Addr).add j) = ⟨g, j, none⟩ := by unfold Addr.add; split <;> simp_all
    rw [e] at this
    exact this

set_option maxHeartbeats 8000000 in
set_option maxRecDepth 100000 in
theorem same_true (w : World) (B B' : Nat) (v v' : Value) (xs : List ByteArray) (hn : xs.length < 1000000) (h : w.ownsRow B 9 1 v xs.length (xs.map Value.string)) (h' : w.ownsRow B' 9 1 v' xs.length (xs.map Value.string)) :
    Calls Tryd.prog 9 #[v, v'] w fun e w' => e = .returned (.bool true) ∧ Below w.heap.size w w' := by
  rcases Nat.eq_zero_or_pos xs.length with h0 | h0
  · rw [h0] at h h'
    obtain ⟨a1, c1, rfl⟩ := own_slice h
    obtain ⟨a2, c2, rfl⟩ := own_slice h'
    clear h h' h0 hn
    go_enter Tryd.func9, Tryd.ntmps9
    go_wp2
    refine wp_loop_rounds 1 ?_
    rw [rounds_succ]
    go_wp2
    go_ret
    exact ⟨rfl, Below.refl _ _⟩
  · obtain ⟨g, c, rfl, hc⟩ := row_form h h0
    obtain ⟨g', c', rfl, hc'⟩ := row_form h' h0
    clear h h'
    have hlen : ((xs.length : Int) == (xs.length : Int)) = true := by simp
    have HC := Aside0.mk hc
    have HC' := Aside0.mk hc'
    clear hc hc'
    go_enter Tryd.func9, Tryd.ntmps9
    go_wp2
    go_loopw [5] (fun i wr => ∃ k m : Nat, k ≤ xs.length ∧ i = .int .i64 k ∧ wr = w.drewN m) (fun i _ => xs.length - (intOf i).toNat)
    case atStart => exact ⟨0, 0, by omega, rfl, rfl⟩
    case round =>
      obtain ⟨k, m, hk, rfl, rfl⟩ := hrel
      by_cases hlt : k < xs.length
      · have hki : (k : Int) < (xs.length : Int) := by omega
        have hk0 : (0 : Int) ≤ (k : Int) := Int.natCast_nonneg _
        have hcell : w.cell? ⟨g, k, none⟩ = some (.string xs[k]) := HC.out k _ (by simp [hlt])
        have hcell' : w.cell? ⟨g', k, none⟩ = some (.string xs[k]) := HC'.out k _ (by simp [hlt])
        go_wp2
        go_quiet (fail)
        go_wp2
        go_roundw
        case rel => exact ⟨k + 1, _, by omega, by go_num, rfl⟩
        case measure => simp [intOf]; omega
      · have hki : ¬ (k : Int) < (xs.length : Int) := by omega
        go_wp2
        go_ret
        exact ⟨rfl, Sh.below_drewN (Below.refl _ _) _⟩

theorem run_few : ∀ (l : List UInt8) (s : Pl.St) (ws : List (List UInt8)), Pl.run s l = some ws → ws.length ≤ s.words.length + l.length + 1
  | [], s, ws, h => by
    have h' : Pl.fin s = some ws := h
    unfold Pl.fin at h'
    split at h'
    · cases h'
    · split at h' <;> first | (cases h'; done) | (cases h'; simp)
  | c :: r, s, ws, h => by
    by_cases hb : s.bad = true
    · rw [Pl.run_bad _ _ hb] at h; cases h
    · rw [Pl.run_cons _ _ _ (by simpa using hb)] at h
      have h1 := run_few r _ _ h
      have h2 := (Rf.step_word s c).2
      simp only [List.length_cons]
      omega
theorem words_few {l : List UInt8} {ws : List (List UInt8)} (h : Pl.wordsOf l = some ws) : ws.length ≤ l.length + 1 := by
  have := run_few l _ _ h
  simpa [Pl.start] using this
theorem words_a : Pl.wordsOf [97] = some [[97]] := by decide +kernel

/-- Both answers, at one line. -/
theorem tells_two {s : ByteArray} {w w1 w2 w3 : World} {e1 e2 : Ending} (h1 : Rf.Tells s w e1 w1) (h2 : Rf.Tells s w2 e2 w3) :
    ∃ (v v' : Value) (c : Int) (ws : List ByteArray), e1 = .returned (.tuple #[v, .int .i64 c]) ∧ e2 = .returned (.tuple #[v', .int .i64 c]) ∧ ws.length < 1000000 ∧
      w1.ownsRow w.heap.size 9 1 v ws.length (ws.map Value.string) ∧ w3.ownsRow w2.heap.size 9 1 v' ws.length (ws.map Value.string) := by
  obtain ⟨_, h1⟩ := h1
  obtain ⟨_, h2⟩ := h2
  rcases h1 with ⟨a1, rfl⟩ | ⟨a1, a2, rfl⟩ | ⟨a1, ws, v, a2, rfl, a3⟩
  · rcases h2 with ⟨b1, rfl⟩ | ⟨b1, b2, rfl⟩ | ⟨b1, ws', v', b2, rfl, b3⟩
    · exact ⟨_, _, 2, [], rfl, rfl, by simp, World.ownsRow_nil _ _ _ _, World.ownsRow_nil _ _ _ _⟩
    · omega
    · omega
  · rcases h2 with ⟨b1, rfl⟩ | ⟨b1, b2, rfl⟩ | ⟨b1, ws', v', b2, rfl, b3⟩
    · omega
    · exact ⟨_, _, 200, [], rfl, rfl, by simp, World.ownsRow_nil _ _ _ _, World.ownsRow_nil _ _ _ _⟩
    · rw [a2] at b2; cases b2
  · rcases h2 with ⟨b1, rfl⟩ | ⟨b1, b2, rfl⟩ | ⟨b1, ws', v', b2, rfl, b3⟩
    · omega
    · rw [a2] at b2; cases b2
    · rw [a2] at b2
      obtain rfl := Option.some.inj b2
      refine ⟨v, v', 0, ws.map fun l => ⟨l.toArray⟩, rfl, rfl, ?_, by simpa [Function.comp_def] using a3, by simpa [Function.comp_def] using b3⟩
      have := words_few a2
      simp at this ⊢
      omega
theorem tells_form {s : ByteArray} {w w1 : World} {e1 : Ending} (h1 : Rf.Tells s w e1 w1) : ∃ (v : Value) (c : Int), e1 = .returned (.tuple #[v, .int .i64 c]) := by
  obtain ⟨_, h1⟩ := h1
  rcases h1 with ⟨a1, rfl⟩ | ⟨a1, a2, rfl⟩ | ⟨a1, ws, v, a2, rfl, a3⟩
  · exact ⟨_, _, rfl⟩
  · exact ⟨_, _, rfl⟩
  · exact ⟨_, _, rfl⟩
theorem tells_a {w w' : World} {e : Ending} (h : Rf.Tells ⟨#[97]⟩ w e w') : ∃ g cap, e = .returned (.tuple #[.slice (some ⟨g, 0, none⟩) 1 cap, .int .i64 0]) ∧ w'.cell? ⟨g, 0, none⟩ = some (.string ⟨#[97]⟩) := by
  obtain ⟨_, h⟩ := h
  rcases h with ⟨a1, rfl⟩ | ⟨a1, a2, rfl⟩ | ⟨a1, ws, v, a2, rfl, a3⟩
  · exact absurd a1 (by decide)
  · rw [words_a] at a2; cases a2
  · rw [words_a] at a2
    obtain rfl := Option.some.inj a2
    obtain ⟨g, cap, rfl, hc⟩ := row_form a3 (by decide)
    exact ⟨g, cap, rfl, hc 0 _ rfl⟩

set_option maxHeartbeats 8000000 in
set_option maxRecDepth 100000 in
/-- The law ShellWords returns true. -/
theorem walk_words (s : ByteArray) (w : World) (hE : EscVar w) (hs : s.size ≤ 140737488355328) : Calls Tryd.prog 3 #[.string s] w fun e w' => e = .returned (.bool true) ∧ Below w.heap.size w w' := by
  have hw0 := hE.pos
  go_enter Tryd.func3, Tryd.ntmps3
  go_wp2_with fail
  refine (Sh.words ⟨#[97]⟩ w hE (by decide)).mono ?_
  intro e W1 h1
  have b1 := h1.1
  obtain ⟨g, cap, rfl, hc⟩ := tells_a h1
  clear h1
  go_wp2_with fail
  refine (Sh.words s W1 (hE.below hw0 b1) hs).mono ?_
  intro e W2 h2
  have b2 := h2.1
  have b12 := b1.trans (b2.mono b1.size)
  obtain ⟨v, c, rfl⟩ := tells_form h2
  have H2 := Aside0.mk h2
  clear h2
  go_wp2_with fail
  refine (Rf.words s W2 hs).mono ?_
  intro e W3 h3
  have b3 := h3.1
  have b123 := b12.trans (b3.mono b12.size)
  obtain ⟨v1, v2, c2, ws, q1, q2, q3, q4, q5⟩ := tells_two H2.out h3
  obtain ⟨rfl, rfl⟩ : v = v1 ∧ c = c2 := by simpa using q1
  clear q1 h3
  subst q2
  have q4' := pw_own_below (own_weaken q4 (Nat.zero_le _)) b3
  have hcc : (c == c) = true := by simp
  go_wp2_with fail
  refine (same_true W3 _ _ v v2 ws q3 q4' q5).mono ?_
  rintro e W4 ⟨rfl, b4⟩
  go_wp2
  go_ret
  exact ⟨rfl, b123.trans (b4.mono b123.size)⟩
end Go.Proofs.YtecpdmoieoibnaaDoor.Lw
