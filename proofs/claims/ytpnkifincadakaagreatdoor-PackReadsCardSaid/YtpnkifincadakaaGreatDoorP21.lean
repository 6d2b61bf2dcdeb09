/- Proved: part 21 of the proof of PackReads (MemoC). Conditions: each theorem states its own. -/
import Derived.Test.YtpnkifincadakaaGreatDoorP20
set_option linter.unusedVariables false
set_option linter.unusedSimpArgs false
section
namespace Go.Am
open Go.Proofs
noncomputable def eqTV : Tr Value → Tr Value → Bool
  | .leaf, .leaf => true
  | .node l v r, .node l' v' r' => match v, v' with
    | none, none => andB (eqTV l l') (eqTV r r')
    | some a, some b => andB (veq 60 a b) (andB (eqTV l l') (eqTV r r'))
    | _, _ => false
  | _, _ => false
noncomputable def eqOb : AObj → AObj → Bool
  | .cells n t e, .cells n' t' e' => andB (Nat.beq n n') (andB (Nat.beq e e') (eqTV t t'))
  | _, _ => false
noncomputable def eqTA : Tr AObj → Tr AObj → Bool
  | .leaf, .leaf => true
  | .node l v r, .node l' v' r' => match v, v' with
    | none, none => andB (eqTA l l') (eqTA r r')
    | some a, some b => andB (eqOb a b) (andB (eqTA l l') (eqTA r r'))
    | _, _ => false
  | _, _ => false
noncomputable def eqH (A B : Heap) : Bool := andB (Nat.beq A.next B.next) (eqTA A.t B.t)
theorem eqTV_spec : ∀ {a b : Tr Value}, eqTV a b = true → a = b
  | .leaf, .leaf, _ => rfl
  | .leaf, .node .., h => by simp [eqTV] at h
  | .node .., .leaf, h => by simp [eqTV] at h
  | .node l v r, .node l' v' r', h => by
    cases v with
    | none =>
      cases v' with
      | none =>
        simp only [eqTV] at h
        obtain ⟨h1, h2⟩ := andB_true h
        rw [eqTV_spec h1, eqTV_spec h2]
      | some b => simp [eqTV] at h
    | some a =>
      cases v' with
      | none => simp [eqTV] at h
      | some b =>
        simp only [eqTV] at h
        obtain ⟨h0, h⟩ := andB_true h
        obtain ⟨h1, h2⟩ := andB_true h
        rw [(veq_spec 60).1 _ _ h0, eqTV_spec h1, eqTV_spec h2]
theorem eqOb_spec : ∀ {a b : AObj}, eqOb a b = true → a = b
  | .cells n t e, .cells n' t' e', h => by
    simp only [eqOb] at h
    obtain ⟨h0, h⟩ := andB_true h
    obtain ⟨h1, h2⟩ := andB_true h
    rw [Nat.eq_of_beq_eq_true h0, Nat.eq_of_beq_eq_true h1, eqTV_spec h2]
  | .cells .., .obj _, h => by simp [eqOb] at h
  | .obj _, _, h => by simp [eqOb] at h
theorem eqTA_spec : ∀ {a b : Tr AObj}, eqTA a b = true → a = b
  | .leaf, .leaf, _ => rfl
  | .leaf, .node .., h => by simp [eqTA] at h
  | .node .., .leaf, h => by simp [eqTA] at h
  | .node l v r, .node l' v' r', h => by
    cases v with
    | none =>
      cases v' with
      | none =>
        simp only [eqTA] at h
        obtain ⟨h1, h2⟩ := andB_true h
        rw [eqTA_spec h1, eqTA_spec h2]
      | some b => simp [eqTA] at h
    | some a =>
      cases v' with
      | none => simp [eqTA] at h
      | some b =>
        simp only [eqTA] at h
        obtain ⟨h0, h⟩ := andB_true h
        obtain ⟨h1, h2⟩ := andB_true h
        rw [eqOb_spec h0, eqTA_spec h1, eqTA_spec h2]
theorem eqH_spec {A B : Heap} (h : eqH A B = true) : A = B := by
  unfold eqH at h
  obtain ⟨h0, h1⟩ := andB_true h
  obtain ⟨a, b⟩ := A
  obtain ⟨c, d⟩ := B
  have e1 : a = c := Nat.eq_of_beq_eq_true h0
  have e2 : b = d := eqTA_spec h1
  rw [e1, e2]
noncomputable def memoO : CallF → Array Value → Heap → Option (Value × Heap) := fun _ args A =>
  match args.toList with
  | [.slice none 0 0] => match eqH A Memo.before with
    | true => some (Memo.res, Memo.after)
    | false => none
  | _ => none
theorem memo_ok {base top : Nat} {w0 : World} : OrcOne Tryz.prog 5 base top w0 53 memoO := by
  intro call hcall args A v A' h
  unfold memoO at h
  split at h
  rotate_left
  · cases h
  rename_i hl
  have hargs := arr_one hl
  subst hargs
  split at h
  rotate_left
  · cases h
  rename_i hA
  cases h
  have hA := eqH_spec hA
  subst hA
  exact (machineY_ok 2990).call top 53 _ _ _ _ Memo.run53
noncomputable def orcX : Orc := fun f => match Nat.beq f 53 with
  | true => some memoO
  | false => orcY f
theorem orcX_ok {base : Nat} {w0 : World} (top : Nat) : OrcOK Tryz.prog 5 base top w0 orcX := by
  intro f g hg
  unfold orcX at hg
  split at hg
  · rename_i h; have := Nat.eq_of_beq_eq_true h; subst this; cases hg; exact memo_ok
  · exact orcY_ok top f g hg
theorem machineX_ok {base : Nat} {w0 : World} (n : Nat) : FnsOK Tryz.prog 5 base w0 (fns Tryz.prog 5 orcX orcDZ n) :=
  fns_ok enters atoms (fun top => drawOK mixed enters atoms top) (fun top => orcX_ok top) (fun top => orcsD_ok top) n
end Go.Am
end
