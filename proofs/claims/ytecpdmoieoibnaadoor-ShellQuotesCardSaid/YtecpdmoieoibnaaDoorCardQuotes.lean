/- Proved: the law graftlaw20.ShellQuotes returns true at every list of bytes: the shell's Quote writes what the document's own does, changes nothing, and Words gives the bytes back. Conditions: the card's tie of the variable escapes to the program's text; nothing else. -/
import Derived.Test.YtecpdmoieoibnaaDoorLq
import Derived.Test.YtecpdmoieoibnaaDoorLaid
import Derived.Test.YtecpdmoieoibnaaDoorCards
import Derived.Test.YtecpdmoieoibnaaDoorTie
import Derived.ShutString
import Derived.ChangeOld
import Derived.Below
import Derived.SizedLaws
import Derived.SevenTiedAt
import Derived.ChangeMaps5
import Derived.Carry
namespace Go.Proofs.YtecpdmoieoibnaaDoor.cardQuotes
open Go.ChangeShapes Go.WideShapes Go.ChangeAt Go.RowKit
open Go.ChangeMaps (open_string shut_string)
set_option linter.unusedVariables false

theorem laidOut : laidOutB Tryd.prog = true := by kernel_rfl

set_option maxRecDepth 100000 in
theorem lifted (os : Os) (started : os.Started) (H : Type) (enc : TypeId × Value → H) :
    ReturnsInHanded {} Tryd.checked os 5 .any (fun w args => (Rows.shellQuotesSpec.pre enc Tryd.prog Tryd.f5 [] false w args ∧ laidMet Tryd.prog [("graft/shell.escapes", Rows.laid_graft_shell_escapes)] w) ∧ sizedMet enc Tryd.prog Tryd.f5 (OpenSpec.ofChange Rows.shellQuotesSpec) false w args)
      (Rows.shellQuotesSpec.post enc Tryd.prog Tryd.f5 false true false false) := by
  refine returnsInHanded_of_change_and (C := Tryd.checked) (X := fun w _ => laidMet Tryd.prog [("graft/shell.escapes", Rows.laid_graft_shell_escapes)] w) (fun _ _ _ hh h => h.of_heap hh) Ld.own started (by kernel_rfl) Tryd.func5
    (ChangeSpec.witness_at (enc := enc) (C := Tryd.checked) (os := os) (X := fun w _ => laidMet Tryd.prog [("graft/shell.escapes", Rows.laid_graft_shell_escapes)] w) false (Ld.laidWorld os) #[.slice none 0 0] 8 rfl (by kernel_rfl) (by kernel_rfl) (by kernel_rfl) (by kernel_rfl) (by kernel_rfl) (Ld.laidWorld_met os _)) ?_
  intro W base args ds gs before hval0 hW _ hsz0 hL _
  have hsz : (DataW.weightsEach Tryd.prog (Tryd.f5.params.toList ++ Rows.shellQuotesSpec.plain.varTypes Tryd.prog) (ds ++ gs)).all (· ≤ reachBytes) = true := hsz0
  have hval : ∀ (j : Nat) t v, Tryd.f5.params[j]? = some t → args[j]? = some v → Value.okWide Tryd.prog W .any base t v := hval0
  have hW' := hW
  obtain ⟨p, q, hA0, hV, rfl, hfz, hnd⟩ := hW
  have hA : DataW.TrodAll enc Tryd.prog W 0 (fun _ => true) true Tryd.f5.params.toList args.toList ds p := hA0
  rw [Tryd.params5] at hA hval hsz
  obtain ⟨v0, vs0, d0, ds0, p0, q0, hargs, rfl, rfl, h0, r0⟩ := trodAll_cons hA
  obtain ⟨rfl, rfl, rfl⟩ := trodAll_nil r0
  obtain rfl : args = #[v0] := by cases args; simp_all
  obtain ⟨rfl, rfl⟩ := trodVars_none hV
  obtain ⟨a0, len0, cap0, rfl⟩ := okWide_slice Tryd.underlying33 (hval 0 33 v0 rfl rfl)
  have k0 := h0
  have lt0 : ∀ x ∈ p0, x.block < W.heap.size := by obtain ⟨m, hm⟩ := k0; exact DataW.trod_lt m _ _ _ hm
  obtain ⟨l0, hr, hl, hc⟩ : ∃ l0 : List UInt8, Qt.Rd W a0 l0 ∧ l0.length = len0 ∧ len0 ≤ cap0 := by
    obtain ⟨fuel, hf⟩ := h0
    rcases open_ints Tryd.underlying33 Tryd.underlying5 (by kernel_rfl) hf with ⟨hcs, _⟩ | ⟨x, l, c, zs, hcs, _, hl, hm, hz, _, hcell, hwz⟩
    · simp [Value.cells] at hcs
      obtain ⟨rfl, rfl, rfl⟩ := hcs
      exact ⟨[], fun j b hj => by simp at hj, rfl, Nat.le_refl _⟩
    · simp [Value.cells] at hcs
      obtain ⟨rfl, rfl, rfl⟩ := hcs
      have hz' : zs.length = cap0 := by simpa using hz
      refine ⟨(zs.take len0).map fun n => UInt8.ofNat n.toNat, fun j b hj => ?_, by simp; omega, hl⟩
      have hj' : ∃ n, (zs.take len0)[j]? = some n ∧ UInt8.ofNat n.toNat = b := by rw [List.getElem?_map] at hj; exact Option.map_eq_some_iff.1 hj
      obtain ⟨n, hn, rfl⟩ := hj'
      have hjl : j < zs.length := by
        have := (List.getElem?_eq_some_iff.1 hn).1
        simp at this
        omega
      have hn2 : zs[j]? = some n := by
        rw [List.getElem?_take] at hn
        split at hn
        · exact hn
        · cases hn
      have hg : zs.getD j 0 = n := by simp [List.getD_eq_getElem?_getD, hn2]
      have hw := hwz n (List.mem_of_getElem? hn2)
      simp only [Lit.wf, Bool.and_eq_true, decide_eq_true_eq] at hw
      have hmin : IntKind.u8.min = 0 := rfl
      have hmax : IntKind.u8.max = 255 := rfl
      refine ⟨x, rfl, ?_⟩
      rw [hcell j hjl, hg]
      have : (((UInt8.ofNat n.toNat).toNat : Nat) : Int) = n := by simp; omega
      rw [this]
  clear hA0 hval0 hsz0 hsz
  refine (Lw.walk_quotes a0 len0 cap0 l0 W (Ld.esc_of_laid hL) hr hl hc).mono fun e W' ⟨he, bel⟩ => ?_
  subst he
  exact ⟨_, rfl, _, _, _, [], _, [], hW', trodAll_mk1 (shut_bool Tryd.underlying4 _), (trodAll_cons_mk (Below.trod laidOut (by kernel_rfl) (of_decide_eq_true (by kernel_rfl)) k0 bel lt0) trodAll_mk0), rfl, bel.frame _, fun h => by cases h⟩

theorem over : Rows.ShellQuotesSaid :=
  OpenClaim.holds_of_wide 5 Tryd.f5 rfl rfl rfl rfl rfl rfl rfl ⟨rfl, rfl, rfl, rfl, rfl⟩ rfl rfl rfl rfl rfl (by kernel_rfl) Tryd.func5 (by kernel_rfl)
    (of_decide_eq_true (by kernel_rfl)) (by unfold Func.isWrapper; first | (rw [if_pos (by decide +kernel)]; kernel_rfl) | (rw [if_neg (by decide +kernel)]; exact ⟨rfl, rfl⟩))
    (fun os started H enc _ => lifted os started H enc)

theorem proved : Rows.ShellQuotesCardSaid :=
  Claim7.holds_tied_plain_at .later [] [.data] true (true, "c1ea347ef9d9b8435dfe8f14fddbf0bdf81f70e628ed5a74bcce7b238c716e67") false
    over (fun _ h => by cases h) (by kernel_rfl) (fun _ h => by cases h) shellQuotes_row_tie rfl ⟨rfl, rfl⟩ (by kernel_rfl) rfl
    (fun f fn hf hfn => by
      obtain rfl : f = 5 := Option.some.inj ((show Tryd.prog.funcNamed "graft/graftlaw20.ShellQuotes" = some 5 by kernel_rfl).symm.trans hf) |>.symm
      obtain rfl : fn = Tryd.f5 := (Option.some.inj (Tryd.func5.symm.trans hfn)).symm
      exact ⟨by kernel_rfl, fun j t ht => by
        rw [Tryd.params5] at ht
        have h3 : t = 33 := by
          rcases j with _ | j
          · simpa using ht.symm
          · simp at ht
        subst h3
        exact (show Tryd.prog.wantsStandIn 33 = false by kernel_rfl)⟩)
    (by kernel_rfl)
#print axioms proved
end Go.Proofs.YtecpdmoieoibnaaDoor.cardQuotes
