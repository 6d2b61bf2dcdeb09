/- Proved: part 32 of the proof of PackReads (Op3, Cp1). Conditions: each theorem states its own. -/
import Derived.Below
import Derived.Carry
import Derived.ChangeMaps5
import Derived.ChangeOld
import Derived.OpenShut
import Derived.SevenTiedAt
import Derived.ShutString
import Derived.SizedLaws
import Derived.Test.YtpnkifincadakaaGreatDoorCards
import Derived.Test.YtpnkifincadakaaGreatDoorTie
import Derived.Test.YtpnkifincadakaaGreatDoorP23
import Derived.Test.YtpnkifincadakaaGreatDoorP31
set_option linter.unusedVariables false
set_option linter.unusedSimpArgs false
section
set_option maxRecDepth 100000
namespace Go.Proofs.YtpnkifincadakaaGreatDoor.Wr
open Go.RowKit Go.Pk Go.Proofs.YtpnkifincadakaaGreatDoorW.PrintWords Go.Proofs.YtpnkifincadakaaGreatDoor.PPackSpecs
open Go.ChangeShapes Go.WideShapes
theorem cells5 : Tryz.prog.cellsOf 5 = 1 := by kernel_rfl
theorem cells30 : Tryz.prog.cellsOf 30 = 1 := by kernel_rfl
theorem bytes5 : Tryz.prog.bytesOf 5 = 1 := by kernel_rfl
theorem reach_is : reachBytes ≤ 140737488351232 := by decide
section
variable {H : Type} {enc : TypeId × Value → H} {W : World} {sp : Nat → Bool} {held : Bool}
theorem open30 (n : Nat) (cs : List Value) (x : DataW H × List MemPlace) (h : DataW.trod enc Tryz.prog W 0 sp held n 30 cs = some x) (hw : Wt 30 x.1) : ∃ (A : Option Addr) (c : Nat) (bs : List Int), cs = [.slice A bs.length c] ∧ Rd8 A c bs W ∧ bs.length ≤ 140737488351232 ∧ c ≤ 9223372036854775807 := by
  rcases DataW.trod_slice Tryz.underlying30 h with ⟨rfl, rfl⟩ | ⟨a, len, cap, elems, rest, m, rfl, rfl, rfl, _, hl, hm, hlen, hget, _, _⟩
  · exact ⟨none, 0, [], rfl, ⟨fun j x hj => (by cases hj), fun _ => rfl, Nat.le_refl _, fun b hb => (by cases hb)⟩, by simp, by omega⟩
  · obtain ⟨hb, hwe⟩ := hw.slice Tryz.underlying30
    rw [List.length_map, hlen, bytes5, Nat.mul_one] at hb
    have hone : ∀ i : Fin len, ∃ y : Int, W.cell? (a.add i.val) = some (.int .u8 y) ∧ 0 ≤ y ∧ y < 256 := fun i => by
      have hg := hget i.val i.isLt
      rw [List.getElem?_eq_getElem (by rw [hlen]; exact i.isLt), cells5, Nat.mul_one] at hg
      obtain ⟨c, h1, h2⟩ := Option.bind_eq_some_iff.1 hg
      obtain ⟨y, hy, _, hy2⟩ := DataW.trod_int Tryz.underlying5 h2
      subst hy
      obtain ⟨_, _, h4⟩ := World.cells?_some h1
      have := h4 0 (by omega)
      rw [Go.Proofs.YtpnkifincadakaaGreatDoorW.PrintWords.add_add, Nat.add_zero] at this
      exact ⟨y, this, by
        have h5 := hy2
        simp only [Lit.wf, Bool.and_eq_true, decide_eq_true_eq] at h5
        rw [show IntKind.u8.min = 0 by first | rfl | decide, show IntKind.u8.max = 255 by first | rfl | decide] at h5
        omega⟩
    let F : Fin len → Int := fun i => (hone i).choose
    have hF : ∀ i, W.cell? (a.add i.val) = some (.int .u8 (F i)) ∧ 0 ≤ F i ∧ F i < 256 := fun i => (hone i).choose_spec
    have hxl : (List.ofFn F).length = len := List.length_ofFn
    have hr := reach_is
    refine ⟨some a, cap, List.ofFn F, by rw [hxl], ⟨fun j x hj => ⟨a, rfl, ?_⟩, fun h => (by cases h), by rw [hxl]; exact hl, fun b hb => ?_⟩, by rw [hxl]; omega, by unfold maxLen at hm; omega⟩
    · obtain ⟨hjl, rfl⟩ := List.getElem?_eq_some_iff.1 hj
      rw [List.getElem_ofFn]
      exact (hF ⟨j, by rw [hxl] at hjl; exact hjl⟩).1
    · obtain ⟨i, rfl⟩ := List.mem_ofFn.1 hb
      exact (hF i).2
theorem open44 {fuel : Nat} {a0 : Option Addr} {len0 cap0 : Nat} {x : DataW H × List MemPlace}
    (h : DataW.trod enc Tryz.prog W 0 sp held fuel 44 [.slice a0 len0 cap0] = some x) (hw : Wt 44 x.1) :
    len0 ≤ 9223372036854775807 ∧ ∀ k, k < len0 → ∃ ad bs, a0 = some ad ∧ RowAt W (ad.add k) bs := by
  rcases DataW.trod_slice Tryz.underlying44 h with ⟨e, rfl⟩ | ⟨a, len, cap, elems, rest, n, rfl, e, rfl, _, hl, hm, hlen, hget, _, _⟩
  · simp at e
    obtain ⟨rfl, rfl, rfl⟩ := e
    exact ⟨by omega, fun i hi => by omega⟩
  · simp at e
    obtain ⟨rfl, rfl, rfl⟩ := e
    obtain ⟨hb, hwe⟩ := hw.slice Tryz.underlying44
    refine ⟨by unfold maxLen at hm; omega, fun i hi => ?_⟩
    have hg := hget i hi
    rw [List.getElem?_eq_getElem (by rw [hlen]; exact hi), cells30, Nat.mul_one] at hg
    obtain ⟨c, h1, h2⟩ := Option.bind_eq_some_iff.1 hg
    obtain ⟨A, c', bs, rfl, hR, hm1, hc⟩ := open30 n c _ h2 (hwe _ (List.mem_map.2 ⟨_, List.getElem_mem _, rfl⟩))
    obtain ⟨_, _, h4⟩ := World.cells?_some h1
    have := h4 0 (by omega)
    rw [Go.Proofs.YtpnkifincadakaaGreatDoorW.PrintWords.add_add, Nat.add_zero] at this
    exact ⟨a, bs, rfl, A, c', this, hR, hm1, hc⟩
end
end Go.Proofs.YtpnkifincadakaaGreatDoor.Wr
end
section
namespace Go.Proofs.YtpnkifincadakaaGreatDoor.Wr
open Go.ChangeShapes Go.WideShapes Go.ChangeAt Go.RowKit
open Go.Pk Go.Proofs.YtpnkifincadakaaGreatDoorW.PrintWords Go.Proofs.YtpnkifincadakaaGreatDoor.PPackSpecs
set_option maxRecDepth 100000 in
theorem liftedP (os : Os) (started : os.Started) (H : Type) (enc : TypeId × Value → H) :
    ReturnsInHanded {} Tryz.checked os 4 .any (fun w args => (Rows.packReadsSpec.pre enc Tryz.prog Tryz.f4 [] false w args ∧ laidMet Tryz.prog laid4 w) ∧ sizedMet enc Tryz.prog Tryz.f4 (OpenSpec.ofChange Rows.packReadsSpec) false w args)
      (Rows.packReadsSpec.post enc Tryz.prog Tryz.f4 false true false false) := by
  refine handed_shaped (C := Tryz.checked) (X := fun w _ => laidMet Tryz.prog laid4 w) (fun _ _ _ hh h => h.of_heap hh) own started (by kernel_rfl) Tryz.func4
    (ChangeSpec.witness_at (enc := enc) (C := Tryz.checked) (os := os) (X := fun w _ => laidMet Tryz.prog laid4 w) false (laidWorld os) #[.slice none 0 0, .bool false] 8 rfl (by kernel_rfl) (by kernel_rfl) (by kernel_rfl) (by kernel_rfl) (by kernel_rfl) (laidWorld_met os _)) ?_
  intro W base args ds gs before hval0 hW hsz0 hL hS
  have hsz : (DataW.weightsEach Tryz.prog (Tryz.f4.params.toList ++ Rows.packReadsSpec.plain.varTypes Tryz.prog) (ds ++ gs)).all (· ≤ reachBytes) = true := hsz0
  have hval : ∀ (j : Nat) t v, Tryz.f4.params[j]? = some t → args[j]? = some v → Value.okWide Tryz.prog W .any base t v := hval0
  have hW' := hW
  obtain ⟨p, q, hA0, hV, rfl, hfz, hnd⟩ := hW
  have hA : DataW.TrodAll enc Tryz.prog W 0 (fun _ => true) true Tryz.f4.params.toList args.toList ds p := hA0
  rw [Tryz.params4] at hA hval hsz
  obtain ⟨v0, vs0, d0, ds0, p0, q0, hargs, rfl, rfl, h0, r0⟩ := trodAll_cons hA
  obtain ⟨v1, vs1, d1, ds1, p1, q1, rfl, rfl, rfl, h1, r1⟩ := trodAll_cons r0
  obtain ⟨rfl, rfl, rfl⟩ := trodAll_nil r1
  obtain rfl : args = #[v0, v1] := by cases args; simp_all
  obtain ⟨rfl, rfl⟩ := trodVars_none hV
  obtain ⟨b, rfl⟩ := okWide_bool Tryz.underlying4 (hval 1 4 v1 rfl rfl)
  obtain ⟨a0, n0, c0, rfl⟩ := okWide_slice Tryz.underlying44 (hval 0 44 v0 rfl rfl)
  have k0 := h0
  have k1 := h1
  have lt0 : ∀ x ∈ p0, x.block < W.heap.size := by obtain ⟨m, hm⟩ := k0; exact DataW.trod_lt m _ _ _ hm
  have lt1 : ∀ x ∈ p1, x.block < W.heap.size := by obtain ⟨m, hm⟩ := k1; exact DataW.trod_lt m _ _ _ hm
  obtain ⟨htab, h5⟩ := tab_laid hL hS
  obtain ⟨hn, hrows⟩ : n0 ≤ 9223372036854775807 ∧ ∀ k, k < n0 → ∃ ad bs, a0 = some ad ∧ RowAt W (ad.add k) bs := by
    obtain ⟨fuel, hf⟩ := h0
    have hwt : Wt 44 d0 := fun n hn => by
      have := List.all_eq_true.1 hsz n (DataW.weights_mem_each (j := 0) (t := 44) (d := d0) (by rfl) (by rfl) n hn)
      simpa using this
    exact open44 (x := (d0, p0)) hf hwt
  clear hA0 hval0 hsz0 hsz
  refine (packReads4 a0 n0 c0 b W h5 htab hn hrows).mono fun e W' ⟨he, bel⟩ => ?_
  subst he
  exact ⟨_, rfl, _, _, _, [], _, [], hW', trodAll_mk1 (shut_bool Tryz.underlying4 _), (trodAll_cons_mk (Below.trod laidOut (by kernel_rfl) (of_decide_eq_true (by kernel_rfl)) k0 bel lt0) (trodAll_cons_mk (Below.trod laidOut (by kernel_rfl) (of_decide_eq_true (by kernel_rfl)) k1 bel lt1) trodAll_mk0)), rfl, bel.frame _, fun h => by cases h⟩
end Go.Proofs.YtpnkifincadakaaGreatDoor.Wr
end
