/- Proved: the law graftlaw20.ShellOwn returns true at every list of lines: the lists of words that Words hands out are lists of their own, spare room too. Conditions: the card's tie of the variable escapes to the program's text; nothing else. -/
import Derived.Test.YtecpdmoieoibnaaDoorOw4
import Derived.Test.YtecpdmoieoibnaaDoorLaid
import Derived.Test.YtecpdmoieoibnaaDoorCards
import Derived.Test.YtecpdmoieoibnaaDoorTie
import Derived.ShutString
import Derived.ChangeOld
import Derived.Below
import Derived.SizedLaws
import Derived.SevenTiedAt
import Derived.ChangeMaps5
import Derived.Carry
import Derived.SliceStrings
namespace Go.Proofs.YtecpdmoieoibnaaDoor.cardOwn
open Go.ChangeShapes Go.WideShapes Go.ChangeAt Go.RowKit
open Go.ChangeMaps (open_string shut_string)
set_option linter.unusedVariables false

theorem laidOut : laidOutB Tryd.prog = true := by kernel_rfl

theorem mem_all {H : Type} {P : Program} {e : TypeId} {n : Nat} : ∀ {l : List (DataW H)} {d : DataW H}, d ∈ l → n ∈ d.weights P e → n ∈ DataW.weightsAll P e l
  | [], _, h, _ => by cases h
  | x :: r, d, h, hn => by
    simp only [DataW.weightsAll, List.mem_append]
    rcases List.mem_cons.1 h with rfl | h
    · exact .inl hn
    · exact .inr (mem_all h hn)
set_option maxRecDepth 100000 in
theorem lifted (os : Os) (started : os.Started) (H : Type) (enc : TypeId × Value → H) :
    ReturnsInHanded {} Tryd.checked os 4 .any (fun w args => (Rows.shellOwnSpec.pre enc Tryd.prog Tryd.f4 [] false w args ∧ laidMet Tryd.prog [("graft/shell.escapes", Rows.laid_graft_shell_escapes)] w) ∧ sizedMet enc Tryd.prog Tryd.f4 (OpenSpec.ofChange Rows.shellOwnSpec) false w args)
      (Rows.shellOwnSpec.post enc Tryd.prog Tryd.f4 false true false false) := by
  refine returnsInHanded_of_change_and (C := Tryd.checked) (X := fun w _ => laidMet Tryd.prog [("graft/shell.escapes", Rows.laid_graft_shell_escapes)] w) (fun _ _ _ hh h => h.of_heap hh) Ld.own started (by kernel_rfl) Tryd.func4
    (ChangeSpec.witness_at (enc := enc) (C := Tryd.checked) (os := os) (X := fun w _ => laidMet Tryd.prog [("graft/shell.escapes", Rows.laid_graft_shell_escapes)] w) false (Ld.laidWorld os) #[.slice none 0 0] 8 rfl (by kernel_rfl) (by kernel_rfl) (by kernel_rfl) (by kernel_rfl) (by kernel_rfl) (Ld.laidWorld_met os _)) ?_
  intro W base args ds gs before hval0 hW _ hsz0 hL _
  have hsz : (DataW.weightsEach Tryd.prog (Tryd.f4.params.toList ++ Rows.shellOwnSpec.plain.varTypes Tryd.prog) (ds ++ gs)).all (· ≤ reachBytes) = true := hsz0
  have hval : ∀ (j : Nat) t v, Tryd.f4.params[j]? = some t → args[j]? = some v → Value.okWide Tryd.prog W .any base t v := hval0
  have hW' := hW
  obtain ⟨p, q, hA0, hV, rfl, hfz, hnd⟩ := hW
  have hA : DataW.TrodAll enc Tryd.prog W 0 (fun _ => true) true Tryd.f4.params.toList args.toList ds p := hA0
  rw [Tryd.params4] at hA hval hsz
  obtain ⟨v0, vs0, d0, ds0, p0, q0, hargs, rfl, rfl, h0, r0⟩ := trodAll_cons hA
  obtain ⟨rfl, rfl, rfl⟩ := trodAll_nil r0
  obtain rfl : args = #[v0] := by cases args; simp_all
  obtain ⟨rfl, rfl⟩ := trodVars_none hV
  obtain ⟨a0, len0, cap0, rfl⟩ := okWide_slice Tryd.underlying22 (hval 0 22 v0 rfl rfl)
  have k0 := h0
  have lt0 : ∀ x ∈ p0, x.block < W.heap.size := by obtain ⟨m, hm⟩ := k0; exact DataW.trod_lt m _ _ _ hm
  obtain ⟨xs, hr, hl, hc⟩ : ∃ xs : List ByteArray, Ow.SRow W a0 xs ∧ xs.length = len0 ∧ ∀ x ∈ xs, x.size ≤ 140737488355328 := by
    obtain ⟨fuel, hf⟩ := h0
    rcases open_strings Tryd.underlying22 Tryd.underlying9 (by kernel_rfl) hf with ⟨hcs, _⟩ | ⟨x, l, c, ss, hcs, _, hlc, hm, hz, hx, hcell, hwz⟩
    · simp [Value.cells] at hcs
      obtain ⟨rfl, rfl, rfl⟩ := hcs
      exact ⟨[], fun j b hj => by simp at hj, rfl, fun x hx => by simp at hx⟩
    · simp [Value.cells] at hcs
      obtain ⟨rfl, rfl, rfl⟩ := hcs
      have hz' : ss.length = cap0 := by simpa using hz
      have hd : d0 = .slice (strs (ss.take len0)) (strs (ss.drop len0)) := (Prod.mk.inj hx).1
      refine ⟨ss.take len0, fun j b hj => ?_, by simp; omega, fun b hb => ?_⟩
      · have hjl : j < len0 := by
          have := (List.getElem?_eq_some_iff.1 hj).1
          simp at this
          omega
        have hn2 : ss[j]? = some b := by
          rw [List.getElem?_take, if_pos hjl] at hj
          exact hj
        have hg : ss.getD j ByteArray.empty = b := by simp [List.getD_eq_getElem?_getD, hn2]
        exact ⟨x, rfl, by rw [hcell j (by omega), hg]⟩
      · have hin : b.data.toList.length ∈ DataW.weights Tryd.prog 22 d0 := by
          rw [hd]
          simp only [DataW.weights, Tryd.underlying22]
          refine List.mem_cons_of_mem _ (List.mem_append_left _ (mem_all (d := .lit (.string b.data.toList)) ?_ (by simp [DataW.weights])))
          exact List.mem_map.2 ⟨b, hb, rfl⟩
        have := List.all_eq_true.1 hsz _ (DataW.weights_mem_each (j := 0) (t := 22) rfl rfl _ hin)
        have h2 : b.data.toList.length ≤ reachBytes := by simpa using this
        have h3 := reachBytes_lt
        have h4 : b.data.toList.length = b.size := by simp
        omega
  clear hA0 hval0 hsz0 hsz
  refine (Ow.walk_own a0 len0 cap0 xs W (Ld.esc_of_laid hL) hr hl hc).mono fun e W' ⟨he, bel⟩ => ?_
  subst he
  exact ⟨_, rfl, _, _, _, [], _, [], hW', trodAll_mk1 (shut_bool Tryd.underlying4 _), (trodAll_cons_mk (Below.trod laidOut (by kernel_rfl) (of_decide_eq_true (by kernel_rfl)) k0 bel lt0) trodAll_mk0), rfl, bel.frame _, fun h => by cases h⟩

theorem over : Rows.ShellOwnSaid :=
  OpenClaim.holds_of_wide 4 Tryd.f4 rfl rfl rfl rfl rfl rfl rfl ⟨rfl, rfl, rfl, rfl, rfl⟩ rfl rfl rfl rfl rfl (by kernel_rfl) Tryd.func4 (by kernel_rfl)
    (of_decide_eq_true (by kernel_rfl)) (by unfold Func.isWrapper; first | (rw [if_pos (by decide +kernel)]; kernel_rfl) | (rw [if_neg (by decide +kernel)]; exact ⟨rfl, rfl⟩))
    (fun os started H enc _ => lifted os started H enc)

theorem proved : Rows.ShellOwnCardSaid :=
  Claim7.holds_tied_plain_at .later [] [.data] true (true, "c1ea347ef9d9b8435dfe8f14fddbf0bdf81f70e628ed5a74bcce7b238c716e67") false
    over (fun _ h => by cases h) (by kernel_rfl) (fun _ h => by cases h) shellOwn_row_tie rfl ⟨rfl, rfl⟩ (by kernel_rfl) rfl
    (fun f fn hf hfn => by
      obtain rfl : f = 4 := Option.some.inj ((show Tryd.prog.funcNamed "graft/graftlaw20.ShellOwn" = some 4 by kernel_rfl).symm.trans hf) |>.symm
      obtain rfl : fn = Tryd.f4 := (Option.some.inj (Tryd.func4.symm.trans hfn)).symm
      exact ⟨by kernel_rfl, fun j t ht => by
        rw [Tryd.params4] at ht
        have h3 : t = 22 := by
          rcases j with _ | j
          · simpa using ht.symm
          · simp at ht
        subst h3
        exact (show Tryd.prog.wantsStandIn 22 = false by kernel_rfl)⟩)
    (by kernel_rfl)
#print axioms proved
end Go.Proofs.YtecpdmoieoibnaaDoor.cardOwn
