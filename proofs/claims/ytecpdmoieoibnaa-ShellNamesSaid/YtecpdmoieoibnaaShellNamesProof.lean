/- Proved: the call of graftlaw20.ShellNames (the words that the shell's answers lean on) returns true. Conditions: none; the function takes no argument. -/
import Derived.Test.YtecpdmoieoibnaaRows
import Derived.WalkKit
import Derived.ProofKit
import Derived.OpenShut
import Derived.LoopN
import Derived.Laws.Tables
import Derived.LoopN
import Derived.Laws.Tables
namespace Go.Proofs.Ytecpdmoieoibnaa.shellNames
open Go.ChangeShapes Go.WideShapes Go.ChangeAt Go.RowKit
set_option linter.unusedVariables false      -- a walk need not use every 'w<i>' (that an integer argument fits its kind)

theorem own : ownKnob Try.prog.godebug = none := by kernel_rfl

/-! ### STEP 1: THE WALK: the Go text returns true. 'Grown w w'': the world has at most new blocks (Derived/RowKit3.lean). Part the cases AHEAD of 'go_enter' where a test parts the walk; take each callee by a contract of your own. -/
set_option maxRecDepth 100000
def tabL : List (Int × List UInt8) := [(0, [111, 107]), (1, [97, 114, 103]), (2, [108, 111, 110, 103]), (3, [114, 97, 110, 103, 101]), (4, [118, 101, 114, 115, 105, 111, 110]), (5, [110, 101, 115, 116]), (6, [102, 117, 108, 108]), (20, [101, 120, 112, 114]), (21, [112, 111, 115, 105, 116, 105, 111, 110, 115]), (22, [112, 97, 116, 116, 101, 114, 110]), (23, [101, 110, 100, 115]), (24, [98, 114, 97, 99, 101, 115]), (30, [115, 101, 116, 115]), (31, [101, 109, 112, 116, 121]), (50, [108, 101, 97, 118, 101, 115]), (51, [101, 100, 105, 116]), (60, [115, 112, 101, 99]), (61, [116, 119, 105, 99, 101]), (62, [117, 110, 107, 110, 111, 119, 110]), (63, [115, 116, 97, 114, 116]), (64, [115, 108, 97, 115, 104]), (65, [112, 114, 105, 110, 116]), (70, [105, 110, 100, 101, 120]), (71, [116, 114, 105, 118, 105, 97]), (72, [117, 110, 114, 101, 97, 99, 104, 101, 100]), (73, [117, 110, 112, 114, 111, 100, 117, 99, 116, 105, 118, 101]), (74, [116, 101, 114, 109, 105, 110, 97, 108]), (80, [115, 116, 97, 116, 101, 115]), (81, [115, 116, 97, 116, 101]), (90, [99, 111, 110, 102, 108, 105, 99, 116]), (100, [107, 105, 100, 115]), (101, [107, 105, 110, 100]), (110, [108, 101, 97, 102]), (111, [103, 111, 101, 115]), (120, [102, 114, 111, 109]), (140, [113, 117, 101, 114, 121]), (141, [113, 117, 101, 114, 121, 110, 97, 109, 101]), (142, [99, 97, 112, 116, 117, 114, 101]), (143, [116, 114, 105, 101, 115]), (150, [111, 112]), (151, [112, 108, 97, 99, 101]), (160, [115, 116, 121, 108, 101]), (170, [108, 97, 121, 111, 117, 116]), (171, [103, 108, 117, 101]), (172, [98, 114, 111, 107, 101, 110]), (180, [112, 97, 99, 107]), (181, [115, 117, 109]), (182, [99, 117, 116]), (190, [115, 101, 115, 115, 105, 111, 110]), (191, [100, 111, 99]), (192, [117, 110, 100, 111]), (193, [98, 97, 116, 99, 104]), (194, [115, 104, 117, 116]), (200, [99, 111, 109, 109, 97, 110, 100]), (201, [110, 111, 110, 101])]

def no (k : Nat) : Int := (tabL.getD k (0, [])).1
def word (k : Nat) : ByteArray := ⟨(tabL.getD k (0, [])).2.toArray⟩
def IsTab (v : Value) : Prop := ∀ k : Nat, k < 55 → ∀ w, (Instr.index 27 v (.int .i64 (k : Int))).run Try.prog w = .ok (.agg #[.int .i64 (no k), .string (word k)]) w

def Sees (e : Int) (j : Nat) : Prop := j < 55 ∧ no j = e ∧ ∀ i, i < j → no i ≠ e

set_option maxHeartbeats 4000000 in
/-- Errno.Error: the word of the number that stands at place j of its table. -/
theorem err (w : World) (e : Int) (j : Nat) (hj : Sees e j) : Calls Try.prog 9 #[.int .i64 e] w fun en w' => en = .returned (.string (word j)) ∧ Grown w w' := by
  go_enter Try.func9, Try.ntmps9
  go_wp2_with (refine wpList_build rfl _ _ rfl (by kernel_rfl) ?_)
  generalize hv : Value.agg ((Try.prog.built 27 _).getD #[]) = v60
  have ht : IsTab v60 := by
    subst hv
    intro k hk w
    iterate 55 (rcases k with _ | k; · kernel_rfl)
    omega
  clear hv
  go_loopw [61] (fun i wr => (∃ k : Nat, k ≤ j ∧ i = .int .i64 k) ∧ Grown w wr) (fun i _ => 55 - (intOf i).toNat)
  case atStart => exact ⟨⟨0, Nat.zero_le _, rfl⟩, Grown.refl _⟩
  case round =>
    obtain ⟨⟨k, hk, rfl⟩, hg⟩ := hrel
    obtain ⟨hj1, hj2, hj3⟩ := hj
    have hix := ht k (by omega)
    clear ht
    have hkl : ((k : Int) < 55) := by omega
    by_cases hkj : k < j
    · have hne : (no k == e) = false := by have := hj3 k hkj; simpa using this
      clear hj3 hj2
      go_wp2
      go_roundw
      case rel => exact ⟨⟨k + 1, by omega, by go_num⟩, by repeat (first | exact hg | apply Grown.drew | apply Grown.alloc | apply Grown.setCell)⟩
      case measure => simp [intOf]; omega
    · have hkj2 : k = j := by omega
      subst hkj2
      have hne : (no k == e) = true := by rw [hj2]; simp
      clear hj3 hj2
      go_wp2
      go_ret
      exact ⟨rfl, by repeat (first | exact hg | apply Grown.drew | apply Grown.alloc | apply Grown.setCell)⟩

theorem grown_trans {a b c : World} (h : Grown a b) (k : Grown b c) : Grown a c := ⟨World.keptBut_trans h.1 k.1, fun x => (k.2.1 x).trans (h.2.1 x), Nat.le_trans h.2.2 k.2.2⟩

theorem sees (e : Int) (j : Nat) (h : (decide (j < 55) && decide (no j = e) && (List.range j).all fun i => decide (no i ≠ e)) = true) : Sees e j := by
  simp only [Bool.and_eq_true, decide_eq_true_eq, List.all_eq_true, List.mem_range] at h
  exact ⟨h.1.1, h.1.2, fun i hi => h.2 i hi⟩

theorem w53 : word 53 = ⟨#[99, 111, 109, 109, 97, 110, 100]⟩ := rfl
theorem w54 : word 54 = ⟨#[110, 111, 110, 101]⟩ := rfl
theorem w2 : word 2 = ⟨#[108, 111, 110, 103]⟩ := rfl
theorem w4 : word 4 = ⟨#[118, 101, 114, 115, 105, 111, 110]⟩ := rfl
theorem w0 : word 0 = ⟨#[111, 107]⟩ := rfl

theorem err200 (w : World) : Calls Try.prog 9 #[.int .i64 200] w fun en w' => en = .returned (.string ⟨#[99, 111, 109, 109, 97, 110, 100]⟩) ∧ Grown w w' := w53 ▸ err w 200 53 (sees _ _ (by decide +kernel))
theorem err201 (w : World) : Calls Try.prog 9 #[.int .i64 201] w fun en w' => en = .returned (.string ⟨#[110, 111, 110, 101]⟩) ∧ Grown w w' := w54 ▸ err w 201 54 (sees _ _ (by decide +kernel))
theorem err2 (w : World) : Calls Try.prog 9 #[.int .i64 2] w fun en w' => en = .returned (.string ⟨#[108, 111, 110, 103]⟩) ∧ Grown w w' := w2 ▸ err w 2 2 (sees _ _ (by decide +kernel))
theorem err4 (w : World) : Calls Try.prog 9 #[.int .i64 4] w fun en w' => en = .returned (.string ⟨#[118, 101, 114, 115, 105, 111, 110]⟩) ∧ Grown w w' := w4 ▸ err w 4 4 (sees _ _ (by decide +kernel))
theorem err0 (w : World) : Calls Try.prog 9 #[.int .i64 0] w fun en w' => en = .returned (.string ⟨#[111, 107]⟩) ∧ Grown w w' := w0 ▸ err w 0 0 (sees _ _ (by decide +kernel))

set_option maxHeartbeats 1000000 in
theorem walk  (w : World) :
    Calls Try.prog 7 #[] w fun e w' => e = .returned (.bool true) ∧ Grown w w' := by
  go_enter Try.func7, Try.ntmps7
  go_wp2_with fail
  refine (err200 _).mono ?_
  rintro e w1 ⟨rfl, h1⟩
  go_wp2_with fail
  refine (err201 _).mono ?_
  rintro e w2 ⟨rfl, h2⟩
  go_wp2_with fail
  refine (err2 _).mono ?_
  rintro e w3 ⟨rfl, h3⟩
  go_wp2_with fail
  refine (err4 _).mono ?_
  rintro e w4 ⟨rfl, h4⟩
  go_wp2_with fail
  refine (err0 _).mono ?_
  rintro e w5 ⟨rfl, h5⟩
  go_wp2_with fail
  go_ret
  exact ⟨rfl, grown_trans (grown_trans (grown_trans (grown_trans h1 h2) h3) h4) h5⟩

/-! ### THE ROW's STEP: WRITTEN OUT: LEAVE IT -/
theorem lifted (os : Os) (started : os.Started) (H : Type) (enc : TypeId × Value → H) :
    ReturnsInHanded {} Try.checked os 7 .any (Rows.shellNamesSpec.pre6 enc Try.prog Try.f7 Rows.shellNamesRow.domain false) (Rows.shellNamesSpec.post enc Try.prog Try.f7 false true false false) := by
  refine returnsInHanded_of_change (C := Try.checked) own started (by kernel_rfl) Try.func7
    (ChangeSpec.witness6 (enc := enc) (C := Try.checked) false ⟨#[], #[], []⟩ 8 (by kernel_rfl) (by kernel_rfl) (by kernel_rfl) (by kernel_rfl)) ?_
  intro W base args ds gs before hval0 hW hcnd _
  have hval : ∀ (j : Nat) t v, Try.f7.params[j]? = some t → args[j]? = some v → Value.okWide Try.prog W .any base t v := hval0
  have hW' := hW
  obtain ⟨p, q, hA0, hV, rfl, hfz, hnd⟩ := hW
  have hA : DataW.TrodAll enc Try.prog W 0 (fun _ => true) true Try.f7.params.toList args.toList ds p := hA0
  rw [Try.params7] at hA hval
  obtain ⟨rfl, rfl, rfl⟩ := trodAll_none hA
  obtain ⟨rfl, rfl⟩ := trodVars_none hV
  clear hA0 hval0
  simp only [List.append_nil] at hW'
  refine (walk  W).mono fun e W' ⟨he, hg⟩ => ?_
  subst he
  exact ⟨_, rfl, post_of_same (pa := []) (pv := []) hW' (fun _ _ _ => (trodAll_cons_mk (shut_bool Try.underlying4 _) trodAll_mk0)) (fun sp _ => rfl) (fun _ _ => rfl) rfl
    (hg.frame _) hg.2.1 (ok_one (by kernel_rfl) rfl (okWide_bool_mk Try.underlying4 _))⟩

theorem over : Rows.shellNamesRow.holds Try.pinned (OpenSpec.ofChange Rows.shellNamesSpec) :=
  OpenClaim.holds_of_wide 7 Try.f7 rfl rfl rfl rfl rfl rfl rfl ⟨rfl, rfl, rfl, rfl, rfl⟩ rfl rfl rfl rfl rfl (by kernel_rfl) Try.func7 (by kernel_rfl)
    (of_decide_eq_true (by kernel_rfl)) (by unfold Func.isWrapper; first | (rw [if_pos (by decide +kernel)]; kernel_rfl) | (rw [if_neg (by decide +kernel)]; exact ⟨rfl, rfl⟩))
    (fun os started H enc _ => lifted os started H enc)

/-- ████ THE STATEMENT ████ -/
theorem proved : Rows.ShellNamesSaid :=
  over
#print axioms proved
end Go.Proofs.Ytecpdmoieoibnaa.shellNames
