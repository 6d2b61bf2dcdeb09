/- Proved: part 18 of the proof of PackReads (P13). Conditions: each theorem states its own. -/
import Derived.Test.YtpnkifincadakaaGreatDoorP10
set_option linter.unusedVariables false
set_option linter.unusedSimpArgs false
section
namespace Go.Am
open Go.Proofs Go.RowKit Go.Pk
noncomputable def u8s : List Value → Option (List Int)
  | [] => some []
  | v :: l => match v with
    | .int k (.ofNat n) => match k, Nat.blt n 256, u8s l with
      | .u8, true, some r => some (.ofNat n :: r)
      | _, _, _ => none
    | _ => none
theorem u8s_spec : ∀ {l : List Value} {xs : List Int}, u8s l = some xs → l = xs.map (Value.int .u8) ∧ Bytes xs
  | [], xs, h => by cases h; exact ⟨rfl, Bytes.nil⟩
  | v :: l, xs, h => by
    simp only [u8s] at h
    split at h
    · rename_i k n
      split at h
      · rename_i r hlt hr
        cases h
        obtain ⟨h1, h2⟩ := u8s_spec hr
        have hlt := blt_true hlt
        refine ⟨by rw [h1]; rfl, fun x hm => ?_⟩
        rcases List.mem_cons.1 hm with rfl | hm
        · exact ⟨by simp, by simp; omega⟩
        · exact h2 x hm
      · cases h
    · cases h
noncomputable def u32s : List Value → Option (List Nat)
  | [] => some []
  | v :: l => match v with
    | .int k (.ofNat n) => match k, u32s l with
      | .u32, some r => some (n :: r)
      | _, _ => none
    | _ => none
theorem u32s_spec : ∀ {l : List Value} {xs : List Nat}, u32s l = some xs → l = xs.map (fun n : Nat => Value.int .u32 (n : Int))
  | [], xs, h => by cases h; rfl
  | v :: l, xs, h => by
    simp only [u32s] at h
    split at h
    · rename_i k n
      split at h
      · rename_i r hr
        cases h
        rw [u32s_spec hr]
        rfl
      · cases h
    · cases h
noncomputable def natsEq : List Nat → List Nat → Bool
  | [], [] => true
  | a :: l, b :: r => match Nat.beq a b with
    | true => natsEq l r
    | false => false
  | _, _ => false
theorem natsEq_spec : ∀ {a b : List Nat}, natsEq a b = true → a = b
  | [], [], _ => rfl
  | a :: l, b :: r, h => by
    simp only [natsEq] at h
    split at h
    · rename_i e
      rw [Nat.eq_of_beq_eq_true e, natsEq_spec h]
    · cases h
  | [], _ :: _, h => by cases h
  | _ :: _, [], h => by cases h
noncomputable def tabAt (A : Heap) : Bool := match hget A 0 with
  | some (.cells n t _) => match Nat.ble 16 n, grab t 16 0 with
    | true, some l => match u32s l with
      | some xs => natsEq xs crcTab
      | none => false
    | _, _ => false
  | _ => false
noncomputable def sumO : CallF → Array Value → Heap → Option (Value × Heap) := fun _ args A =>
  match args.toList with
  | [.slice (some a) n _] => match a.spot, hget A a.block with
    | none, some (.cells m t _) => match Nat.ble (a.off + n) m, Nat.ble n 9223372036854775807, grab t n a.off with
      | true, true, some l => match u8s l, tabAt A with
        | some xs, true => some (.int .u32 (.ofNat (crc xs)), A)
        | _, _ => none
      | _, _, _ => none
    | _, _ => none
  | _ => none
section
variable {base top : Nat} {w0 : World}
theorem tab_var {m : Mp} {A : Heap} {w : World} (h : tabAt A = true) (hr : HR Tryz.prog 5 base w0 top m A w) : TabVar w := by
  unfold tabAt at h
  split at h
  rotate_left
  · cases h
  rename_i n t e hA
  split at h
  rotate_left
  · cases h
  rename_i l hn hg
  split at h
  rotate_left
  · cases h
  rename_i xs hx
  have hn := ble_true hn
  have hxs := natsEq_spec h
  subst hxs
  have hl := u32s_spec hx
  obtain ⟨h1, h2⟩ := grab_spec hg
  intro j v hj
  have hj16 : j < 16 := (List.getElem?_eq_some_iff.1 hj).1
  obtain ⟨u, hu, hlu⟩ := h2 j hj16
  rw [hl, List.getElem?_map, hj] at hlu
  cases hlu
  have har : AR m ⟨0, j, none⟩ ⟨0, j, none⟩ := ⟨⟨0, hr.glob 0 (by omega)⟩, rfl, rfl⟩
  obtain ⟨v', hc, hv⟩ := hr.cell (a := ⟨0, j, none⟩) har hA rfl (show j < n by omega) (by simpa using hu)
  cases hv
  exact hc
theorem sum_ok : OrcOne Tryz.prog 5 base top w0 80 sumO := by
  intro call hcall args A v A' h
  unfold sumO at h
  split at h
  rotate_left
  · cases h
  rename_i a n c hl
  have hargs := arr_one hl
  subst hargs
  split at h
  rotate_left
  · cases h
  rename_i m0 t e hs hA
  split at h
  rotate_left
  · cases h
  rename_i l hle hnm hg
  split at h
  rotate_left
  · cases h
  rename_i xs hx htab
  cases h
  have hle := ble_true hle
  have hnm := ble_true hnm
  obtain ⟨h1, hb⟩ := u8s_spec hx
  obtain ⟨h2, h3⟩ := grab_spec hg
  have hxn : xs.length = n := by rw [h1] at h2; simpa using h2
  refine ⟨Nat.le_refl _, fun ht m args' w ha hr => ?_⟩
  obtain ⟨v', rfl, hv⟩ := av_one ha
  have key : ∃ a' c', v' = .slice (some a') n c' ∧ (n = 0 ∨ AR m a a') := by
    cases hv with
    | slice l c h => exact ⟨_, _, rfl, .inr h⟩
    | sliceUp l c h hd => exact ⟨_, _, rfl, .inr h⟩
    | sliceEnd c hd => exact ⟨_, _, rfl, .inl rfl⟩
  obtain ⟨a', c', rfl, haa⟩ := key
  have hrd : ∀ (j : Nat) x, xs[j]? = some x → ∃ ad, some a' = some ad ∧ w.cell? (ad.add j) = some (.int .u8 x) := by
    intro j x hj
    have hjn : j < n := by rw [← hxn]; exact (List.getElem?_eq_some_iff.1 hj).1
    rcases haa with h0 | haa
    · omega
    obtain ⟨u, hu, hlu⟩ := h3 j hjn
    rw [h1, List.getElem?_map, hj] at hlu
    cases hlu
    have hadd : ∀ b : Addr, b.spot = none → b.add j = ⟨b.block, b.off + j, none⟩ := fun b hb => by
      obtain ⟨b0, b1, b2⟩ := b
      simp only at hb
      subst hb
      unfold Addr.add
      by_cases h0 : j = 0 <;> simp [h0]
    have hsa : a'.spot = none := haa.2.2.trans hs
    obtain ⟨v', hc, hv⟩ := hr.cell (haa.add j) (by rw [hadd a hs]; exact hA) (by rw [hadd a hs]) (by rw [hadd a hs]; show a.off + j < m0; omega) (by rw [hadd a hs]; exact hu)
    cases hv
    exact ⟨a', rfl, hc⟩
  refine (sum_any (some a') n c' xs w (tab_var htab hr) hxn hnm hb hrd).mono ?_
  rintro e w' ⟨rfl, rfl⟩
  exact ⟨m, Sub.refl _, .int _ _, hr, Keep.refl _ _ _ _⟩
end
noncomputable def orcY : Orc := fun f => match Nat.beq f 80 with
  | true => some sumO
  | false => orcZ f
theorem orcY_ok {base : Nat} {w0 : World} (top : Nat) : OrcOK Tryz.prog 5 base top w0 orcY := by
  intro f g hg
  unfold orcY at hg
  split at hg
  · rename_i h; have := Nat.eq_of_beq_eq_true h; subst this; cases hg; exact sum_ok
  · exact orcs_ok top f g hg
theorem machineY_ok {base : Nat} {w0 : World} (n : Nat) : FnsOK Tryz.prog 5 base w0 (fns Tryz.prog 5 orcY orcDZ n) :=
  fns_ok enters atoms (fun top => drawOK mixed enters atoms top) (fun top => orcY_ok top) (fun top => orcsD_ok top) n
end Go.Am
end
