/- Proved: the law graftlaw20.ShellJoins returns true at every list of words and every comment: the words, quoted and put behind one another, and the comment behind them, are read back as these words. Conditions: the card's tie of the variable escapes to the program's text; nothing else. -/
import Derived.Test.YtecpdmoieoibnaaDoorLj
import Derived.Test.YtecpdmoieoibnaaDoorLaid
import Derived.Test.YtecpdmoieoibnaaDoorCards
import Derived.Test.YtecpdmoieoibnaaDoorTie
import Derived.ShutString
import Derived.ChangeOld
import Derived.Below
import Derived.SizedLaws
import Derived.SevenTiedAt
import Derived.ChangeMaps5
import Derived.Carry
import Derived.Deep.Matrix
namespace Go.Proofs.YtecpdmoieoibnaaDoor.cardJoins
open Go.ChangeShapes Go.WideShapes Go.ChangeAt Go.RowKit
open Go.ChangeMaps (open_string shut_string)
set_option linter.unusedVariables false

theorem laidOut : laidOutB Tryd.prog = true := by kernel_rfl

set_option maxRecDepth 100000 in
theorem lifted (os : Os) (started : os.Started) (H : Type) (enc : TypeId × Value → H) :
    ReturnsInHanded {} Tryd.checked os 6 .any (fun w args => (Rows.shellJoinsSpec.pre enc Tryd.prog Tryd.f6 [] false w args ∧ laidMet Tryd.prog [("graft/shell.escapes", Rows.laid_graft_shell_escapes)] w) ∧ sizedMet enc Tryd.prog Tryd.f6 (OpenSpec.ofChange Rows.shellJoinsSpec) false w args)
      (Rows.shellJoinsSpec.post enc Tryd.prog Tryd.f6 false true false false) := by
  refine returnsInHanded_of_change_and (C := Tryd.checked) (X := fun w _ => laidMet Tryd.prog [("graft/shell.escapes", Rows.laid_graft_shell_escapes)] w) (fun _ _ _ hh h => h.of_heap hh) Ld.own started (by kernel_rfl) Tryd.func6
    (ChangeSpec.witness_at (enc := enc) (C := Tryd.checked) (os := os) (X := fun w _ => laidMet Tryd.prog [("graft/shell.escapes", Rows.laid_graft_shell_escapes)] w) false (Ld.laidWorld os) #[.slice none 0 0, .string ⟨#[]⟩] 8 rfl (by kernel_rfl) (by kernel_rfl) (by kernel_rfl) (by kernel_rfl) (by kernel_rfl) (Ld.laidWorld_met os _)) ?_
  intro W base args ds gs before hval0 hW _ hsz0 hL _
  have hsz : (DataW.weightsEach Tryd.prog (Tryd.f6.params.toList ++ Rows.shellJoinsSpec.plain.varTypes Tryd.prog) (ds ++ gs)).all (· ≤ reachBytes) = true := hsz0
  have hval : ∀ (j : Nat) t v, Tryd.f6.params[j]? = some t → args[j]? = some v → Value.okWide Tryd.prog W .any base t v := hval0
  have hW' := hW
  obtain ⟨p, q, hA0, hV, rfl, hfz, hnd⟩ := hW
  have hA : DataW.TrodAll enc Tryd.prog W 0 (fun _ => true) true Tryd.f6.params.toList args.toList ds p := hA0
  rw [Tryd.params6] at hA hval hsz
  obtain ⟨v0, vs0, d0, ds0, p0, q0, hargs, rfl, rfl, h0, r0⟩ := trodAll_cons hA
  obtain ⟨v1, vs1, d1, ds1, p1, q1, hargs1, rfl, rfl, h1, r1⟩ := trodAll_cons r0
  obtain ⟨rfl, rfl, rfl⟩ := trodAll_nil r1
  obtain rfl : args = #[v0, v1] := by cases args; simp_all
  obtain ⟨rfl, rfl⟩ := trodVars_none hV
  obtain ⟨a0, len0, cap0, rfl⟩ := okWide_slice Tryd.underlying36 (hval 0 36 v0 rfl rfl)
  obtain ⟨a1, rfl, rfl, rfl, y1⟩ := open_string Tryd.underlying9 (hval 1 9 v1 rfl rfl) h1
  have k0 := h0
  have lt0 : ∀ x ∈ p0, x.block < W.heap.size := by obtain ⟨m, hm⟩ := k0; exact DataW.trod_lt m _ _ _ hm
  obtain ⟨L, hr, hl, hc⟩ : ∃ L : List (List UInt8), Lw.RdRows W a0 L ∧ L.length = len0 ∧ len0 ≤ 9223372036854775807 := by
    obtain ⟨fuel, hf⟩ := h0
    rcases Go.Deep.open_int_rows Tryd.underlying36 Tryd.underlying33 Tryd.underlying5 (by kernel_rfl) (by kernel_rfl) hf with ⟨hcs, _⟩ | ⟨x, l, c, A, Ln, C, Z, hcs, _, hl, hm, _, hrow⟩
    · simp [Value.cells] at hcs
      obtain ⟨rfl, rfl, rfl⟩ := hcs
      exact ⟨[], fun j b hj => by simp at hj, rfl, by omega⟩
    · simp [Value.cells] at hcs
      obtain ⟨rfl, rfl, rfl⟩ := hcs
      have hmx : maxLen = 9223372036854775807 := rfl
      refine ⟨(List.range len0).map fun r => ((Z r).take (Ln r)).map fun n => UInt8.ofNat n.toNat, fun j bs hj => ?_, by simp, by omega⟩
      rw [List.getElem?_map] at hj
      obtain ⟨r, hr1, rfl⟩ := Option.map_eq_some_iff.1 hj
      have hrl : j < len0 := by
        have := (List.getElem?_eq_some_iff.1 hr1).1
        simpa using this
      obtain rfl : j = r := by
        rw [List.getElem?_range hrl] at hr1
        exact Option.some.inj hr1
      obtain ⟨hcell0, hlc, hcm, hz, hwz, hnil, hcell⟩ := hrow j (by omega)
      have hlen : (((Z j).take (Ln j)).map fun n => UInt8.ofNat n.toNat).length = Ln j := by simp; omega
      refine ⟨x, A j, C j, rfl, by rw [hlen]; exact hcell0, by rw [hlen]; exact hlc, fun i b hi => ?_⟩
      have hi' : ∃ n, ((Z j).take (Ln j))[i]? = some n ∧ UInt8.ofNat n.toNat = b := by rw [List.getElem?_map] at hi; exact Option.map_eq_some_iff.1 hi
      obtain ⟨n, hn, rfl⟩ := hi'
      have hil : i < (Z j).length := by
        have := (List.getElem?_eq_some_iff.1 hn).1
        simp at this
        omega
      have hn2 : (Z j)[i]? = some n := by
        rw [List.getElem?_take] at hn
        split at hn
        · exact hn
        · cases hn
      have hg : (Z j).getD i 0 = n := by simp [List.getD_eq_getElem?_getD, hn2]
      have hw := hwz n (List.mem_of_getElem? hn2)
      simp only [Lit.wf, Bool.and_eq_true, decide_eq_true_eq] at hw
      have hmin : IntKind.u8.min = 0 := rfl
      have hmax : IntKind.u8.max = 255 := rfl
      cases hA : A j with
      | none => have := hnil hA; omega
      | some a' =>
        refine ⟨a', rfl, ?_⟩
        rw [(hcell a' hA).2 i (by omega), hg]
        have : (((UInt8.ofNat n.toNat).toNat : Nat) : Int) = n := by simp; omega
        rw [this]
  clear hA0 hval0 hsz0 hsz
  refine (Lw.walk_joins a0 len0 cap0 L a1 W (Ld.esc_of_laid hL) hr hl hc).mono fun e W' ⟨he, bel⟩ => ?_
  subst he
  exact ⟨_, rfl, _, _, _, [], _, [], hW', trodAll_mk1 (shut_bool Tryd.underlying4 _), (trodAll_cons_mk (Below.trod laidOut (by kernel_rfl) (of_decide_eq_true (by kernel_rfl)) k0 bel lt0) (trodAll_cons_mk (shut_string Tryd.underlying9 y1) trodAll_mk0)), rfl, bel.frame _, fun h => by cases h⟩

theorem over : Rows.ShellJoinsSaid :=
  OpenClaim.holds_of_wide 6 Tryd.f6 rfl rfl rfl rfl rfl rfl rfl ⟨rfl, rfl, rfl, rfl, rfl⟩ rfl rfl rfl rfl rfl (by kernel_rfl) Tryd.func6 (by kernel_rfl)
    (of_decide_eq_true (by kernel_rfl)) (by unfold Func.isWrapper; first | (rw [if_pos (by decide +kernel)]; kernel_rfl) | (rw [if_neg (by decide +kernel)]; exact ⟨rfl, rfl⟩))
    (fun os started H enc _ => lifted os started H enc)

theorem proved : Rows.ShellJoinsCardSaid :=
  Claim7.holds_tied_plain_at .later [] [.data] true (true, "c1ea347ef9d9b8435dfe8f14fddbf0bdf81f70e628ed5a74bcce7b238c716e67") false
    over (fun _ h => by cases h) (by kernel_rfl) (fun _ h => by cases h) shellJoins_row_tie rfl ⟨rfl, rfl⟩ (by kernel_rfl) rfl
    (fun f fn hf hfn => by
      obtain rfl : f = 6 := Option.some.inj ((show Tryd.prog.funcNamed "graft/graftlaw20.ShellJoins" = some 6 by kernel_rfl).symm.trans hf) |>.symm
      obtain rfl : fn = Tryd.f6 := (Option.some.inj (Tryd.func6.symm.trans hfn)).symm
      exact ⟨by kernel_rfl, fun j t ht => by
        rw [Tryd.params6] at ht
        have h3 : t = 36 ∨ t = 9 := by
          rcases j with _ | _ | j
          · exact .inl (by simpa using ht.symm)
          · exact .inr (by simpa using ht.symm)
          · simp at ht
        rcases h3 with rfl | rfl
        · exact (show Tryd.prog.wantsStandIn 36 = false by kernel_rfl)
        · exact (show Tryd.prog.wantsStandIn 9 = false by kernel_rfl)⟩)
    (by kernel_rfl)
#print axioms proved
end Go.Proofs.YtecpdmoieoibnaaDoor.cardJoins
