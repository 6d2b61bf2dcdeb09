/- Proved: part 3 of the proof of PackReads (AmS8, AmS9, AmS10, AmS11). Conditions: each theorem states its own. -/
import Derived.Test.YtpnkifincadakaaGreatDoorP2
set_option linter.unusedVariables false
set_option linter.unusedSimpArgs false
section
namespace Go.Am
open Go.RowKit
section
variable {P : Program} {G base top : Nat} {w0 : World} {m : Mp} {A : Heap} {w : World}
theorem HR.kill (h : HR P G base w0 top m A w) (b : Nat) : HR P G base w0 top m (hset A b none) w ∧ Keep G m A w m (hset A b none) w := by
  have back : ∀ i o, hget (hset A b none) i = some o → hget A i = some o := by
    intro i o e
    rw [hget_set] at e
    split at e
    · cases e
    · exact e
  exact ⟨⟨h.below, h.base_le, h.g_le, h.g_len, h.fresh, h.real, h.own, h.glob, fun i o e => h.blk i o (back i o e), fun i j o o' r d d' hG e e' => h.inj i j o o' r d d' hG (back _ _ e) (back _ _ e')⟩,
    ⟨Nat.le_refl _, fun r hr hs => ⟨rfl, fun i o d hG e => hs i o d hG (back _ _ e)⟩⟩, Nat.le_refl _, fun _ => .inl rfl⟩
theorem HR.move (h : HR P G base w0 top m A w) (hlt : A.next < top) {b r d d' : Nat} {x o : AObj} {o' : Obj} (hG : G ≤ b) (hx : hget A b = some x) (hm : m b = some (r, d)) (ho : AOR P m d' o o') {w' : World}
    (hw : w'.heap = w.heap.setIfInBounds r o') (hs : w'.os = w.os) (ht : w'.tape = w.tape) (hu : w'.output = w.output) :
    Sub m (ext m A.next r d') ∧ HR P G base w0 top (ext m A.next r d') (hpush (hset A b none) (some o)) w' ∧ Keep G m A w (ext m A.next r d') (hpush (hset A b none) (some o)) w' := by
  have hf : m A.next = none := h.fresh _ (Nat.le_refl _) hlt
  have hsub := sub_ext hf r d'
  have hr := h.real b r d hm
  have hbr := h.own b r d hG hm
  have hbn := (h.blk b x hx).1
  have hgb := h.g_le
  have hget' : ∀ i y, hget (hpush (hset A b none) (some o)) i = some y → (i = A.next ∧ y = o) ∨ (i ≠ A.next ∧ i ≠ b ∧ hget A i = some y) := by
    intro i y e
    rw [hget_push] at e
    split at e
    · rename_i e'; cases e; exact .inl ⟨e', rfl⟩
    · rename_i e'
      rw [hget_set] at e
      split at e
      · cases e
      · rename_i e2; exact .inr ⟨e', e2, e⟩
  have hext : ∀ i x, i ≠ A.next → ext m A.next r d' i = some x → m i = some x := by
    intro i x hne e
    unfold ext at e
    rw [if_neg hne] at e
    exact e
  refine ⟨hsub, ⟨h.below.trans ⟨hs, ht, hu, by simp [hw], fun k hk => ?_⟩, by simpa [hw] using h.base_le, h.g_le, by have := h.g_len; simp only [hpush, hset]; omega, fun i hi hi' => ?_, fun i r2 d2 e => ?_, fun i r2 d2 hGi e => ?_, fun i hi => hsub _ _ (h.glob i hi), fun i y hy => ?_, fun i j y z r2 d1 d2 hGi hy hz e1 e2 => ?_⟩, ⟨by simp [hw], fun k hk hsep => ⟨?_, ?_⟩⟩, by simp only [hpush, hset]; omega, fun b => by
    unfold ext
    split
    · rename_i e; exact .inr ⟨by omega, by simp only [hpush, hset]; omega⟩
    · exact .inl rfl⟩
  · rw [hw, Array.getElem?_setIfInBounds, if_neg (by omega)]
  · simp only [hpush, hset] at hi
    unfold ext
    rw [if_neg (by omega)]
    exact h.fresh i (by omega) hi'
  · by_cases hn : i = A.next
    · subst hn; simp [ext] at e; rw [← e.1]; simpa [hw] using hr
    · have := h.real i r2 d2 (hext _ _ hn e); simpa [hw] using this
  · by_cases hn : i = A.next
    · subst hn; simp [ext] at e; rw [← e.1]; exact hbr
    · exact h.own i r2 d2 hGi (hext _ _ hn e)
  · rcases hget' i y hy with ⟨rfl, rfl⟩ | ⟨hn, hb, e⟩
    · exact ⟨by simp only [hpush, hset]; omega, r, d', o', by simp [ext], by rw [hw]; simp [hr], ho.mono hsub⟩
    · obtain ⟨hl, r2, d2, y', hm2, hy', hor⟩ := h.blk i y e
      have hne : r ≠ r2 := fun e' => hb (h.inj b i x y r d d2 hG hx e hm (e' ▸ hm2)).symm
      exact ⟨by simp only [hpush, hset]; omega, r2, d2, y', hsub _ _ hm2, by rw [hw, Array.getElem?_setIfInBounds, if_neg hne]; exact hy', hor.mono hsub⟩
  · rcases hget' i y hy with ⟨hi, hyo⟩ | ⟨hn, hb, e⟩ <;> rcases hget' j z hz with ⟨hj, hzo⟩ | ⟨hn', hb', e'⟩
    · omega
    · subst hi
      simp [ext] at e1
      have e2 := hext _ _ hn' e2
      rw [← e1.1] at e2
      exact absurd (h.inj b j x z r d d2 hG hx e' hm e2).symm hb'
    · subst hj
      simp [ext] at e2
      have e1 := hext _ _ hn e1
      rw [← e2.1] at e1
      exact absurd (h.inj b i x y r d d1 hG hx e hm e1).symm hb
    · exact h.inj i j y z r2 d1 d2 hGi e e' (hext _ _ hn e1) (hext _ _ hn' e2)
  · rw [hw, Array.getElem?_setIfInBounds, if_neg (fun (e : r = k) => hsep b x d hG hx (e ▸ hm))]
  · intro i y d2 hGi hy e
    rcases hget' i y hy with ⟨rfl, rfl⟩ | ⟨hn, hb, e2⟩
    · simp [ext] at e
      exact hsep b x d hG hx (e.1 ▸ hm)
    · exact hsep i y d2 hGi e2 (hext _ _ hn e)
theorem zeroCells_size (z : Array Value) (n : Nat) : (Builtin.zeroCells z n).size = n * z.size := by simp [Builtin.zeroCells]
theorem grown_ok (h : HR P G base w0 top m A w) (hlt : A.next < top) {s l n k : Nat} {old new old' new' : List Value} {e : TypeId} {z : Value} (h1 : LR m old old') (h2 : LR m new new') (hl : old.length = l * s) (hn : new.length = n * s)
    (hs : P.cellsOf e = s) (hz : z.cells.size = s) :
    Sub m (ext m A.next w.heap.size k) ∧
    HR P G base w0 top (ext m A.next w.heap.size k) (hpush A (some (.cells (l * s + n * s) (fillT new (l * s) (fillT old 0 .leaf)) e))) (w.drew.alloc (.cells (old'.toArray ++ new'.toArray ++ Builtin.zeroCells z.cells k) e)) ∧
    Keep G m A w (ext m A.next w.heap.size k) (hpush A (some (.cells (l * s + n * s) (fillT new (l * s) (fillT old 0 .leaf)) e))) (w.drew.alloc (.cells (old'.toArray ++ new'.toArray ++ Builtin.zeroCells z.cells k) e)) := by
  have hl' : old'.length = l * s := h1.len ▸ hl
  have hn' : new'.length = n * s := h2.len ▸ hn
  refine h.add hlt (d := k) (.cells (.inl rfl) ?_ fun i v hi hv => ?_) rfl rfl rfl rfl
  · simp [zeroCells_size, hz, hs, hl', hn']
  · rw [fillT_get] at hv
    split at hv
    · rename_i hc
      obtain ⟨v', e1, e2⟩ := h2.get hv
      refine ⟨v', ?_, e2⟩
      rw [Array.getElem?_append_left (by simp; omega), Array.getElem?_append_right (by simp; omega)]
      simpa [hl'] using e1
    · rename_i hc
      rw [fillT_get, if_pos (by omega)] at hv
      obtain ⟨v', e1, e2⟩ := h1.get hv
      refine ⟨v', ?_, e2⟩
      rw [Array.getElem?_append_left (by simp; omega), Array.getElem?_append_left (by simp; omega)]
      simpa using e1
theorem addr_at {a' : Addr} (hs : a'.spot = none) (k : Nat) : a'.add k = ⟨a'.block, a'.off + k, none⟩ := by
  unfold Addr.add
  split
  · rename_i e; subst e; cases a'; simp_all
  · cases a'; simp_all
def AppOK (P : Program) (G base : Nat) (w0 : World) (top : Nat) (m : Mp) (A : Heap) (w : World) (s : Sem Value) (r : Option (Value × Heap)) : Prop :=
  ∀ v A', r = some (v, A') → A'.next ≤ top → ∃ m' v' w', Sub m m' ∧ s.run P w = .ok v' w' ∧ VR m' v v' ∧ HR P G base w0 top m' A' w' ∧ Keep G m A w m' A' w'
variable {sT xT e ty : TypeId} {inf : TypeInfo} {d : TypeDesc} {z : Value} {n : Nat} {x x' : Value} {new new' : List Value}
theorem appendNil_ok (h : HR P G base w0 top m A w) (hu : P.underlying sT = some (.slice e)) (hi : P.info? e = some inf) (hzz : inf.zero = some z) (hzs : z.cells.size = inf.size) (hx : P.underlying xT = some d) (hd : isInt d = false)
    (hlen : ∀ w2 : World, (Builtin.lenOf x').run P w2 = .ok n w2) (hnl : new.length = n * inf.size) (hLR : LR m new new') (hf : ∀ w2 : World, w2.heap = w.heap → (Builtin.firstCells inf.size n x').run P w2 = .ok new'.toArray w2)
    (hnb : n ≤ 1048576) (hb : inf.bytes ≤ 1048576) {l c : Nat} {s' : Value} (hs : VR m (.slice none l c) s') :
    AppOK P G base w0 top m A w (Builtin.append_ #[sT, xT] ty #[s', x']) (appendNil n inf.size new e l c A) := by
  intro v A' hr ht
  unfold appendNil at hr
  cases hs
  split at hr
  · rename_i h0 h1
    have h0 : l = 0 := Nat.eq_of_beq_eq_true h0
    have h1 : c = 0 := Nat.eq_of_beq_eq_true h1
    subst h0
    subst h1
    split at hr
    · rename_i hn0
      cases hr
      have hn0 : n = 0 := Nat.eq_of_beq_eq_true hn0
      have := run_app_room (P := P) (ty := ty) hu hi hx hd (a := none) (l := 0) (c := 0) (w' := w) hlen (hf w rfl) (by omega) (fun b hb => by cases hb) (fun _ => rfl)
      subst hn0
      exact ⟨m, _, w, Sub.refl _, this, .snil _ _, h, Keep.refl _ _ _ _⟩
    · rename_i hn0
      cases hr
      have hn0 : n ≠ 0 := fun e => by subst e; cases hn0
      have hlt : A.next < top := by simp only [hpush] at ht; omega
      have hrun := run_app_grow (P := P) (ty := ty) hu hi hzz hx hd (a := none) (l := 0) (c := 0) (old := #[]) hlen hf (fun w2 _ => by simp [Builtin.firstCells]) (by omega) (by omega) hb
      obtain ⟨hsub, hadd, hkeep⟩ := grown_ok h hlt (s := inf.size) (l := 0) (n := n) (k := grownCap w (0 + n) 0 e - (0 + n)) (old := []) (old' := []) (e := e) (z := z) .nil hLR (by simp) hnl (by simp [Program.cellsOf, hi]) hzs
      have hge := grownCap_ge w (0 + n) 0 e
      have e1 : (0 * inf.size + n * inf.size) = n * inf.size := by omega
      have e2 : fillT new (0 * inf.size) (fillT [] 0 .leaf) = fillT new 0 .leaf := by rw [Nat.zero_mul]; rfl
      rw [e1, e2] at hadd hkeep
      refine ⟨_, _, _, hsub, hrun, ?_, hadd, hkeep⟩
      have := VR.sliceUp (m := ext m A.next w.heap.size (grownCap w (0 + n) 0 e - (0 + n))) (a := ⟨A.next, 0, none⟩) (a' := ⟨w.heap.size, 0, none⟩) (d := grownCap w (0 + n) 0 e - (0 + n)) n n ⟨⟨_, by simp [ext]; rfl⟩, rfl, rfl⟩ (by simp [ext])
      rw [show n + (grownCap w (0 + n) 0 e - (0 + n)) = grownCap w (0 + n) 0 e by omega] at this
      rw [Nat.zero_add] at this ⊢
      exact this
  · cases hr
theorem appendRow_ok (h : HR P G base w0 top m A w) (hu : P.underlying sT = some (.slice e)) (hi : P.info? e = some inf) (hzz : inf.zero = some z) (hzs : z.cells.size = inf.size) (hx : P.underlying xT = some d) (hd : isInt d = false)
    (hlen : ∀ w2 : World, (Builtin.lenOf x').run P w2 = .ok n w2) (hnl : new.length = n * inf.size) (hLR : LR m new new') (hf : ∀ w2 : World, w2.heap = w.heap → (Builtin.firstCells inf.size n x').run P w2 = .ok new'.toArray w2)
    (hcs : ∀ v ∈ new, isCell v = true) (hnb : n ≤ 1048576) {a : Addr} {l c : Nat} {s' : Value} (hlb : l ≤ 1048576) (hb : inf.bytes ≤ 1048576) (hG : G ≤ a.block) (hs : VR m (.slice (some a) l c) s') :
    AppOK P G base w0 top m A w (Builtin.append_ #[sT, xT] ty #[s', x']) (appendRow n inf.size new e a l c A) := by
  intro v A' hr ht
  unfold appendRow at hr
  have hnl' : new'.length = n * inf.size := hLR.len ▸ hnl
  split at hr
  rotate_left
  · cases hr
  rename_i N t e' hA hsp
  have hshape : ∃ a' cap k, s' = .slice (some a') l cap ∧ AR m a a' ∧ (c % 3 = 0 ∧ cap = c / 3 ∨ c % 3 = 1 ∧ cap = c / 3 + k ∧ m a.block = some (a'.block, k) ∨ c % 3 = 2) := by
    cases hs with
    | @slice _ a' l c ha => exact ⟨a', c, 0, rfl, ha, .inl (by omega)⟩
    | @sliceUp _ a' d l c ha hd => exact ⟨a', c + d, d, rfl, ha, .inr (.inl ⟨by omega, by omega, hd⟩)⟩
    | @sliceEnd _ a' d c hd =>
      exfalso
      revert hr
      cases Nat.ble (0 + n) (2 / 3) <;> cases Nat.beq e' e <;> intro hr <;> cases hr
  obtain ⟨a', cap, k, rfl, ha, hcap⟩ := hshape
  obtain ⟨dl, o', hm, hw, hor⟩ := h.at ha hA
  have hsp' : a'.spot = none := ha.2.2.trans hsp
  cases hor with
  | cells hfr hsz hval =>
    rename_i c' fr'
    have hce : P.cellsOf e = inf.size := by simp [Program.cellsOf, hi]
    split at hr
    · rename_i hroom h3 hee
      have hroom := ble_true hroom
      have h3 := blt_true h3
      split at hr
      · rename_i hfit
        have hfit := ble_true hfit
        cases hr
        have hst := storeCells_real (P := P) (r := a'.block) (off := a'.off + l * inf.size) new' 0 c' w hw hfr (by rw [hnl', ha.2.1]; omega) (hLR.cellsOk hcs)
        obtain ⟨w', hs1, hs2, hs3, hs4, hs5⟩ := hst
        have hrun := run_app_room (P := P) (ty := ty) hu hi hx hd (a := some a') (l := l) (c := cap) (w' := w') hlen (hf w rfl) (by omega) (fun b hb => by
          cases hb; rw [addr_at hsp']; exact hs1) (fun hn => by cases hn)
        obtain ⟨hput, hkeep⟩ := h.put hG hA hm (o := .cells N (fillT new (a.off + l * inf.size) t) e') (o' := .cells (setMany c' (a'.off + l * inf.size + 0) new') e' fr') (.cells (by rw [setMany_size]; exact hfr) (by rw [setMany_size]; exact hsz) fun i v hi' hv => by
          rw [setMany_get _ _ _ (by rw [hnl', ha.2.1]; omega)]
          rw [fillT_get] at hv
          have hlenN : new.length = new'.length := hLR.len
          split at hv
          · rename_i hc
            obtain ⟨v', e1, e2⟩ := hLR.get hv
            refine ⟨v', ?_, e2⟩
            rw [if_pos (by rw [ha.2.1]; omega), ha.2.1]
            simpa using e1
          · rename_i hc
            rw [if_neg (by rw [ha.2.1]; omega)]
            exact hval i v hi' hv) hs2 hs3 hs4 hs5
        refine ⟨m, _, w', Sub.refl _, hrun, ?_, hput, hkeep⟩
        rcases hcap with ⟨h0, h1⟩ | ⟨h0, h1, h2⟩ | h0
        · have := VR.slice (m := m) (l + n) (c / 3) ha
          rw [show 3 * (c / 3) = c by omega] at this
          rw [h1]; exact this
        · have := VR.sliceUp (m := m) (l + n) (c / 3) ha h2
          rw [show 3 * (c / 3) + 1 = c by omega] at this
          rw [h1]; exact this
        · omega
      · cases hr
    · rename_i hroom h3 hee
      have h3 := blt_true h3
      have hee : e' = e := Nat.eq_of_beq_eq_true hee
      subst hee
      have hroom : ¬ l + n ≤ c / 3 := fun hh => by
        have : Nat.ble (l + n) (c / 3) = true := Nat.ble_eq_true_of_le hh
        rw [this] at hroom; cases hroom
      split at hr
      rotate_left
      · cases hr
      rename_i old hb' hg
      have hb' := ble_true hb'
      have hol := (grab_spec hg).1
      obtain ⟨old', hO, hOc⟩ := cells_at h ha hA hsp hb' hg
      have hol' : old'.length = l * inf.size := hO.len ▸ hol
      have hofc : ∀ w2 : World, w2.heap = w.heap → (Builtin.firstCells inf.size l (.slice (some a') l cap)).run P w2 = .ok old'.toArray w2 := by
        intro w2 hw2
        have := run_loadCells_list (P := P) w2 a' old' (fun j v hv => by
          have := hOc j v hv
          simp only [World.cell?, hw2] at this ⊢
          exact this)
        simp only [Builtin.firstCells]
        rw [← hol']
        exact this
      have grow : ∀ (B : Heap), HR P G base w0 top m B w → Keep G m A w m B w → B.next = A.next → ¬ l + n ≤ cap → v = .slice (some ⟨A.next, 0, none⟩) (l + n) (3 * (l + n) + 1) →
          A' = hpush B (some (.cells (l * inf.size + n * inf.size) (fillT new (l * inf.size) (fillT old 0 .leaf)) e')) →
          ∃ m' v' w', Sub m m' ∧ (Builtin.append_ #[sT, xT] ty #[.slice (some a') l cap, x']).run P w = .ok v' w' ∧ VR m' v v' ∧ HR P G base w0 top m' A' w' ∧ Keep G m A w m' A' w' := by
        intro B hB hK hBn hnr hv hA'
        subst hA'
        subst hv
        have hlt : B.next < top := by simp only [hpush] at ht; omega
        have hrun := run_app_grow (P := P) (ty := ty) hu hi hzz hx hd (a := some a') (l := l) (c := cap) hlen hf hofc hnr (by omega) hb
        obtain ⟨hsub, hadd, hkeep⟩ := grown_ok hB hlt (s := inf.size) (l := l) (n := n) (k := grownCap w (l + n) cap e' - (l + n)) (e := e') (z := z) hO hLR hol hnl hce hzs
        have hge := grownCap_ge w (l + n) cap e'
        refine ⟨_, _, _, hsub, hrun, ?_, hadd, hK.trans hkeep⟩
        have := VR.sliceUp (m := ext m B.next w.heap.size (grownCap w (l + n) cap e' - (l + n))) (a := ⟨A.next, 0, none⟩) (a' := ⟨w.heap.size, 0, none⟩) (d := grownCap w (l + n) cap e' - (l + n)) (l + n) (l + n) ⟨⟨_, by simp [ext, hBn]; rfl⟩, rfl, rfl⟩ (by simp [ext, hBn])
        rw [show l + n + (grownCap w (l + n) cap e' - (l + n)) = grownCap w (l + n) cap e' by omega] at this
        exact this
      split at hr
      · rename_i h0
        have h0 : c % 3 = 0 := Nat.eq_of_beq_eq_true h0
        cases hr
        exact grow A h (Keep.refl _ _ _ _) rfl (by omega) rfl rfl
      · rename_i h0
        have h0 : c % 3 ≠ 0 := fun e => by rw [e] at h0; cases h0
        split at hr
        rotate_left
        · cases hr
        rename_i ho hN
        have ho : a.off = 0 := Nat.eq_of_beq_eq_true ho
        have hN : N = c / 3 * inf.size := Nat.eq_of_beq_eq_true hN
        cases hr
        by_cases hplace : l + n ≤ cap
        · rcases hcap with ⟨h1, _⟩ | ⟨h1, h2, h3'⟩ | h1
          · omega
          · rw [hm] at h3'
            simp only [Option.some.injEq, Prod.mk.injEq, true_and] at h3'
            subst h3'
            have hlt : A.next < top := by simp only [hpush, hset] at ht; omega
            have hoff : a'.off = 0 := ha.2.1.trans ho
            have hmul : (l + n) * inf.size ≤ cap * inf.size := Nat.mul_le_mul_right _ hplace
            have hcs' : c'.size = cap * inf.size := by rw [hsz, hN, hce, h2, Nat.add_mul]
            have hadd : (l + n) * inf.size = l * inf.size + n * inf.size := Nat.add_mul _ _ _
            obtain ⟨w', hs1, hs2, hs3, hs4, hs5⟩ := storeCells_real (P := P) (r := a'.block) (off := a'.off + l * inf.size) new' 0 c' w hw hfr (by rw [hnl', hoff]; omega) (hLR.cellsOk hcs)
            have hrun := run_app_room (P := P) (ty := ty) hu hi hx hd (a := some a') (l := l) (c := cap) (w' := w') hlen (hf w rfl) hplace (fun b hb => by
              cases hb; rw [addr_at hsp']; exact hs1) (fun hn => by cases hn)
            obtain ⟨hsub, hmv, hkeep⟩ := h.move hlt (d' := cap - (l + n)) hG hA hm (o := .cells (l * inf.size + n * inf.size) (fillT new (l * inf.size) (fillT old 0 .leaf)) e') (o' := .cells (setMany c' (a'.off + l * inf.size + 0) new') e' fr')
              (.cells (by rw [setMany_size]; exact hfr) (by rw [setMany_size, hcs', hce, Nat.sub_mul, hadd]; omega) fun i v hi' hv => by
                rw [setMany_get _ _ _ (by rw [hnl', hoff]; omega)]
                rw [fillT_get] at hv
                have hlenN : new.length = new'.length := hLR.len
                split at hv
                · rename_i hc
                  obtain ⟨v', e1, e2⟩ := hLR.get hv
                  refine ⟨v', ?_, e2⟩
                  rw [if_pos (by rw [hoff]; omega), hoff]
                  simpa using e1
                · rename_i hc
                  rw [if_neg (by rw [hoff]; omega)]
                  rw [fillT_get, if_pos (by omega)] at hv
                  obtain ⟨u, hu1, hu2⟩ := (grab_spec hg).2 i (by omega)
                  simp only [Nat.sub_zero] at hv
                  rw [hu2] at hv
                  cases hv
                  rw [ho, Nat.zero_add] at hu1
                  exact hval i v (by omega) hu1) hs2 hs3 hs4 hs5
            refine ⟨_, _, w', hsub, hrun, ?_, hmv, hkeep⟩
            have := VR.sliceUp (m := ext m A.next a'.block (cap - (l + n))) (a := ⟨A.next, 0, none⟩) (a' := a') (d := cap - (l + n)) (l + n) (l + n) ⟨⟨_, by simp [ext]; rfl⟩, by rw [hoff], hsp'⟩ (by simp [ext])
            rw [show l + n + (cap - (l + n)) = cap by omega] at this
            exact this
          · omega
        · obtain ⟨hk1, hk2⟩ := h.kill a.block
          exact grow (hset A a.block none) hk1 hk2 rfl hplace rfl rfl
    · cases hr
end
end Go.Am
end
section
namespace Go.Am
open Go.RowKit
section
variable {P : Program} {G base top : Nat} {w0 : World} {m : Mp} {A : Heap} {w : World}
theorem arr_two {x : Array Value} {a b : Value} (h : x.toList = [a, b]) : x = #[a, b] := Array.ext' h
theorem arrT_two {x : Array TypeId} {a b : TypeId} (h : x.toList = [a, b]) : x = #[a, b] := Array.ext' h
theorem appendA_ok (h : HR P G base w0 top m A w) {args args' : Array Value} {tys : Array TypeId} (ha : AV m args args') (tt : TypeId) :
    AppOK P G base w0 top m A w (Builtin.append_ tys tt args') (appendA P G args tys A) := by
  intro v A' hr ht
  unfold appendA at hr
  split at hr
  · rename_i base' l c x sT xT hargs htys
    have hl := ha.list
    rw [hargs] at hl
    have htys := arrT_two htys
    subst htys
    obtain ⟨s', x', hs, hx, he⟩ : ∃ s' x', VR m (.slice base' l c) s' ∧ VR m x x' ∧ args' = #[s', x'] := by
      generalize hq : args'.toList = l' at hl
      cases hl with
      | cons h1 h2 =>
        cases h2 with
        | cons h3 h4 =>
          cases h4
          exact ⟨_, _, h1, h3, arr_two hq⟩
    subst he
    split at hr
    · rename_i e hu
      split at hr
      · rename_i inf hi hz
        split at hr
        · rename_i new n d hn hb hx2
          have hb := ble_true hb
          obtain ⟨hlen, hnl, new', hLR, hf⟩ := news_run h hx hn
          split at hr
          · rename_i hd hc
            simp only [Bool.and_eq_true] at hc
            obtain ⟨⟨hnb, hcs⟩, hzs⟩ := hc
            obtain ⟨z, hzz, hzs⟩ : ∃ z, inf.zero = some z ∧ z.cells.size = inf.size := by
              unfold zeroSize at hzs
              split at hzs
              · rename_i z hzz; exact ⟨z, hzz, Nat.eq_of_beq_eq_true hzs⟩
              · cases hzs
            exact appendNil_ok h hu hi hzz hzs hx2 hd hlen hnl hLR hf (ble_true hnb) (by omega) hs v A' hr ht
          · rename_i a hd hc
            simp only [Bool.and_eq_true] at hc
            obtain ⟨⟨hnb, hcs⟩, hzs⟩ := hc
            obtain ⟨z, hzz, hzs⟩ : ∃ z, inf.zero = some z ∧ z.cells.size = inf.size := by
              unfold zeroSize at hzs
              split at hzs
              · rename_i z hzz; exact ⟨z, hzz, Nat.eq_of_beq_eq_true hzs⟩
              · cases hzs
            split at hr
            · rename_i hG
              exact appendRow_ok h hu hi hzz hzs hx2 hd hlen hnl hLR hf (allCells_spec hcs) (ble_true hnb) (by omega) (by omega) (ble_true hG) hs v A' hr ht
            · cases hr
          · cases hr
        · cases hr
      · cases hr
    · cases hr
  · cases hr
theorem findNow_rel (kd : TypeDesc) (k : Value) : ∀ (es es' : List MapEntry) (i : Nat), es.length = es'.length → (∀ (j : Nat) (x x' : MapEntry), es[j]? = some x → es'[j]? = some x' → x.key = x'.key ∧ VR m x.val x'.val) →
    (Instr.findNow kd k es i = none ∧ Instr.findNow kd k es' i = none) ∨ (Instr.findNow kd k es i = some none ∧ Instr.findNow kd k es' i = some none) ∨
    (∃ j v v', Instr.findNow kd k es i = some (some (j, v)) ∧ Instr.findNow kd k es' i = some (some (j, v')) ∧ VR m v v' ∧ i ≤ j ∧ j < i + es.length)
  | [], [], i, _, _ => .inr (.inl ⟨rfl, rfl⟩)
  | [], _ :: _, _, hl, _ => by simp at hl
  | _ :: _, [], _, hl, _ => by simp at hl
  | e :: es, e' :: es', i, hl, hr => by
    obtain ⟨hk, hv⟩ := hr 0 e e' rfl rfl
    simp only [Instr.findNow]
    rw [← hk]
    cases Instr.sameNow kd k e.key with
    | none => exact .inl ⟨rfl, rfl⟩
    | some b =>
      cases b with
      | true => exact .inr (.inr ⟨i, e.val, e'.val, rfl, rfl, hv, by omega, by simp⟩)
      | false =>
        rcases findNow_rel kd k es es' (i + 1) (by simpa using hl) (fun j x x' a b => hr (j + 1) x x' (by simpa using a) (by simpa using b)) with h | h | ⟨j, v, v', h1, h2, h3, h4, h5⟩
        · exact .inl h
        · exact .inr (.inl h)
        · exact .inr (.inr ⟨j, v, v', h1, h2, h3, by omega, by simp; omega⟩)
theorem runP_bind {α β : Type} (s : Sem α) (f : α → Sem β) : runP P (s >>= f) = (runP P s).bind fun a => runP P (f a) := by
  show runP P (s.bind f) = _
  induction s with
  | pure a => rfl
  | program k ih => simp only [Sem.bind, runP]; exact ih _
  | mark x k ih => simp only [Sem.bind, runP]; exact ih
  | _ => rfl
theorem findAsking_rel (kt : TypeId) (k : Value) : ∀ (es es' : List MapEntry) (i : Nat), es.length = es'.length → (∀ (j : Nat) (x x' : MapEntry), es[j]? = some x → es'[j]? = some x' → x.key = x'.key ∧ VR m x.val x'.val) →
    ∀ r, runP P (Instr.findAsking kt k es i) = some r → (r = none ∧ runP P (Instr.findAsking kt k es' i) = some none) ∨
      (∃ j v v', r = some (j, v) ∧ runP P (Instr.findAsking kt k es' i) = some (some (j, v')) ∧ VR m v v' ∧ i ≤ j ∧ j < i + es.length)
  | [], [], i, _, _, r, h => by cases h; exact .inl ⟨rfl, rfl⟩
  | [], _ :: _, _, hl, _, _, _ => by simp at hl
  | _ :: _, [], _, hl, _, _, _ => by simp at hl
  | e :: es, e' :: es', i, hl, hr, r, h => by
    obtain ⟨hk, hv⟩ := hr 0 e e' rfl rfl
    simp only [Instr.findAsking, runP_bind] at h ⊢
    rw [← hk]
    cases hb : runP P (Op.equal kt k e.key) with
    | none => rw [hb] at h; cases h
    | some b =>
      rw [hb] at h
      simp only [Option.bind_some] at h ⊢
      cases b with
      | true =>
        cases h
        exact .inr ⟨i, e.val, e'.val, rfl, rfl, hv, by omega, by simp⟩
      | false =>
        simp only [Bool.false_eq_true, if_false] at h ⊢
        rcases findAsking_rel kt k es es' (i + 1) (by simpa using hl) (fun j x x' a b => hr (j + 1) x x' (by simpa using a) (by simpa using b)) r h with h | ⟨j, v, v', h1, h2, h3, h4, h5⟩
        · exact .inl h
        · exact .inr ⟨j, v, v', h1, h2, h3, by omega, by simp; omega⟩
theorem findKey_rel (kt : TypeId) (k : Value) (es es' : List MapEntry) (hl : es.length = es'.length) (hr : ∀ (j : Nat) (x x' : MapEntry), es[j]? = some x → es'[j]? = some x' → x.key = x'.key ∧ VR m x.val x'.val)
    {r : Option (Nat × Value)} (h : runP P (Instr.findKey kt k es) = some r) : (r = none ∧ runP P (Instr.findKey kt k es') = some none) ∨
      (∃ j v v', r = some (j, v) ∧ runP P (Instr.findKey kt k es') = some (some (j, v')) ∧ VR m v v' ∧ j < es.length) := by
  simp only [Instr.findKey, runP_bind] at h ⊢
  cases hu : runP P (underlying kt) with
  | none => rw [hu] at h; cases h
  | some kd =>
    rw [hu] at h
    simp only [Option.bind_some] at h ⊢
    rcases findNow_rel (m := m) kd k es es' 0 hl hr with ⟨h1, h2⟩ | ⟨h1, h2⟩ | ⟨j, v, v', h1, h2, h3, h4, h5⟩
    · simp only [h1] at h
      simp only [h2]
      rcases findAsking_rel kt k es es' 0 hl hr r h with h | ⟨j, v, v', h1, h2, h3, h4, h5⟩
      · exact .inl h
      · exact .inr ⟨j, v, v', h1, h2, h3, by omega⟩
    · simp only [h1] at h
      simp only [h2]
      cases h
      exact .inl ⟨rfl, rfl⟩
    · simp only [h1] at h
      simp only [h2]
      cases h
      exact .inr ⟨j, v, v', rfl, rfl, h3, by omega⟩
theorem keysPlain_spec : ∀ {es : List MapEntry}, keysPlain es = true → ∀ (j : Nat) (x : MapEntry), es[j]? = some x → plain 60 x.key = true
  | [], _, j, x, hx => by simp at hx
  | e :: es, h, j, x, hx => by
    simp only [keysPlain] at h
    split at h
    · rename_i hp
      cases j with
      | zero => simp at hx; subst hx; exact hp
      | succ j => exact keysPlain_spec h j x (by simpa using hx)
    · cases h
end
end Go.Am
end
section
namespace Go.Am
open Go.RowKit
section
variable {P : Program} {G base top : Nat} {w0 : World} {m : Mp} {A : Heap} {w : World}
def ER (m : Mp) (es es' : Array MapEntry) : Prop := es.size = es'.size ∧ ∀ (i : Nat) (x x' : MapEntry), es[i]? = some x → es'[i]? = some x' → VR m x.key x'.key ∧ VR m x.val x'.val ∧ x.born = x'.born
theorem mapAt_some (h : HR P G base w0 top m A w) {r : Nat} {x' : Value} {es : Array MapEntry} {clk : Nat} (hx : VR m (.map (some r)) x') (hm : mapAt (.map (some r)) A = some (es, clk)) :
    ∃ r' d es', x' = .map (some r') ∧ m r = some (r', d) ∧ hget A r = some (.obj (.map es clk)) ∧ w.heap[r']? = some (.map es' clk) ∧ ER m es es' := by
  unfold mapAt at hm
  simp only at hm
  split at hm
  · rename_i o hA
    split at hm
    · cases hm
      cases hx with
      | @map _ r' d e =>
        obtain ⟨-, r2, d2, o', hm2, hw, hor⟩ := h.blk _ _ hA
        rw [e] at hm2
        cases hm2
        cases hor with
        | obj ho =>
          cases ho with
          | map hs hv => exact ⟨r', d, _, rfl, e, hA, hw, hs, hv⟩
    · cases hm
  · cases hm
theorem ER.keys {es es' : Array MapEntry} (h : ER m es es') (hp : keysPlain es.toList = true) : es.toList.length = es'.toList.length ∧ ∀ (j : Nat) (x x' : MapEntry), es.toList[j]? = some x → es'.toList[j]? = some x' → x.key = x'.key ∧ VR m x.val x'.val := by
  refine ⟨by simpa using h.1, fun j x x' a b => ?_⟩
  have hk := keysPlain_spec hp j x a
  obtain ⟨h1, h2, h3⟩ := h.2 j x x' (by simpa using a) (by simpa using b)
  exact ⟨(plain_eq 60 hk h1).symm, h2⟩
theorem run_getMap {r' : Nat} {es' : Array MapEntry} {clk : Nat} (hw : w.heap[r']? = some (.map es' clk)) : (getObj r').run P w = .ok (.map es' clk) w := by
  simp [getObj, Sem.run, hw]
theorem ER.empty {es es' : Array MapEntry} (h : ER m es es') : es'.isEmpty = es.isEmpty := by
  simp only [Array.isEmpty, h.1]
theorem lookA_ok (h : HR P G base w0 top m A w) {ty : TypeId} {x x' k k' : Value} {ok : Bool} (hx : VR m x x') (hk : VR m k k') :
    OpOK P G base w0 top m A w (do pure (Next.value (← Instr.lookup ty x' k' ok))) (lookA P ty x k ok A) := by
  unfold lookA
  split
  rotate_left
  · trivial
  rename_i kt e hu
  split
  rotate_left
  · trivial
  rename_i es clk hm
  have hreal : ∃ es', ER m es es' ∧ (x' = .map none ∧ es' = #[] ∨ ∃ r', x' = .map (some r') ∧ w.heap[r']? = some (.map es' clk)) := by
    cases x with
    | map r =>
      cases r with
      | none =>
        cases hx
        simp only [mapAt, Option.some.injEq, Prod.mk.injEq] at hm
        obtain ⟨rfl, rfl⟩ := hm
        exact ⟨#[], ⟨rfl, fun i x x' hx _ => by simp at hx⟩, .inl ⟨rfl, rfl⟩⟩
      | some r =>
        obtain ⟨r', d, es', rfl, hmr, hA, hw, her⟩ := mapAt_some h hx hm
        exact ⟨es', her, .inr ⟨r', rfl, hw⟩⟩
    | _ => simp [mapAt] at hm
  obtain ⟨es', her, hf⟩ := hreal
  cases hfa : findA P kt k es with
  | none => trivial
  | some res =>
    unfold findA at hfa
    split at hfa
    · rename_i u hp hkp hck
      have hkk := plain_eq 60 hp hk
      subst hkk
      obtain ⟨hl, hr⟩ := her.keys hkp
      have hemp := her.empty
      have hck' := runP_run _ hck w
      rcases findKey_rel kt k' es.toList es'.toList hl hr hfa with ⟨rfl, h2⟩ | ⟨j, v, v', rfl, h2, hv, hj⟩
      · simp only
        have h2' := runP_run _ h2 w
        split
        · rename_i i hi
          split
          · rename_i z hzz
            have hz0 : (zeroValue e).run P w = .ok z w := by simp [zeroValue, Sem.run_bind, run_typeInfo' hi, hzz]
            have hrz : (Instr.lookup ty x' k' ok).run P w = .ok (if ok then .tuple #[z, .bool false] else z) w := by
              rcases hf with ⟨rfl, rfl⟩ | ⟨r', rfl, hw⟩
              · rw [← hemp] at hck'
                simp only [Instr.lookup, Sem.run_bind, run_underlying' hu, Result.andThen, Sem.run_pure, hck', h2', hz0]
              · rw [← hemp] at hck'
                simp only [Instr.lookup, Sem.run_bind, run_underlying' hu, Result.andThen, Sem.run_pure, run_getMap hw, hck', h2', hz0]
            split
            · rename_i hpz
              refine OpOK.still h (run_v hrz) ?_
              rw [if_pos rfl]
              have hz := plain_self (m := m) 60 hpz
              exact .tuple rfl (AV.push (AV.one hz) (.bool false)).2
            · rename_i hpz
              refine OpOK.still h (run_v hrz) ?_
              rw [if_neg (by simp)]
              exact plain_self 60 hpz
            · trivial
          · trivial
        · trivial
      · simp only
        have h2' := runP_run _ h2 w
        have hrv : (Instr.lookup ty x' k' ok).run P w = .ok (if ok then .tuple #[v', .bool true] else v') w := by
          rcases hf with ⟨rfl, rfl⟩ | ⟨r', rfl, hw⟩
          · rw [← hemp] at hck'
            simp only [Instr.lookup, Sem.run_bind, run_underlying' hu, Result.andThen, Sem.run_pure, hck', h2']
          · rw [← hemp] at hck'
            simp only [Instr.lookup, Sem.run_bind, run_underlying' hu, Result.andThen, Sem.run_pure, run_getMap hw, hck', h2']
        split
        · refine OpOK.still h (run_v hrv) ?_
          rw [if_pos rfl]
          exact .tuple rfl (AV.push (AV.one hv) (.bool true)).2
        · refine OpOK.still h (run_v hrv) ?_
          rw [if_neg (by simp)]
          exact hv
    · cases hfa
theorem ER.obj {es es' : Array MapEntry} (h : ER m es es') (clk : Nat) : OBR m (.map es clk) (.map es' clk) := .map h.1 h.2
theorem run_setMap {r' : Nat} {es' : Array MapEntry} {clk : Nat} (hw : w.heap[r']? = some (.map es' clk)) (o : Obj) : (setObj r' o).run P w = .ok () { w with heap := w.heap.setIfInBounds r' o } := by
  simp [setObj, Sem.run, hw]
theorem OpOK.setU (h : HR P G base w0 top m A w) {s : Sem Unit} {r r' d : Nat} {o o' : Obj} (hG : G ≤ r) {x : AObj} (hA : hget A r = some x) (hm : m r = some (r', d)) (ho : OBR m o o')
    (hs : s.run P w = .ok () { w with heap := w.heap.setIfInBounds r' o' }) : OpOK P G base w0 top m A w (do s; pure Next.skip) (.val undef (hset A r (some (.obj o)))) := by
  intro ht
  obtain ⟨hput, hkeep⟩ := h.put hG hA hm (AOR.obj (d := d) ho) (w' := { w with heap := w.heap.setIfInBounds r' o' }) rfl rfl rfl rfl
  exact ⟨m, undef, _, Sub.refl _, .inr ⟨rfl, run_u hs⟩, .tuple rfl (fun i v v' hv => by simp at hv), hput, hkeep⟩
theorem putA_ok (h : HR P G base w0 top m A w) {ty : TypeId} {x x' k k' v v' : Value} (hx : VR m x x') (hk : VR m k k') (hv : VR m v v') :
    OpOK P G base w0 top m A w (do Instr.mapUpdate ty x' k' v'; pure Next.skip) (putA P G ty x k v A) := by
  unfold putA
  split
  rotate_left
  · trivial
  rename_i kt e r hu
  split
  rotate_left
  · trivial
  rename_i es clk hG hm
  have hG := ble_true hG
  obtain ⟨r', d, es', rfl, hmr, hA, hw, her⟩ := mapAt_some h hx hm
  split
  · rename_i u i old hp hkp hck hfd
    have hkk := plain_eq 60 hp hk
    subst hkk
    obtain ⟨hl, hr⟩ := her.keys hkp
    have hck' := runP_run _ hck w
    rcases findKey_rel kt k' es.toList es'.toList hl hr hfd with ⟨h1, _⟩ | ⟨j, u1, u2, h1, h2, hv2, hj⟩
    · cases h1
    · cases h1
      have h2' := runP_run _ h2 w
      split
      · rename_i ent hent
        split
        · rename_i hsb
          have hj' : i < es'.size := by rw [← her.1]; simpa using hj
          have hent' : es'[i]? = some es'[i] := by simp [hj']
          obtain ⟨e1, e2, e3⟩ := her.2 i ent _ hent hent'
          have hkeq : es'[i].key = ent.key := plain_eq 60 (keysPlain_spec hkp i ent (by simpa using hent)) e1
          have hks : (Instr.keyThatStays (((es'[i]?).map (·.key)).getD k') k').run P w = .ok k' w := by
            rw [hent']
            simp only [Option.map_some, Option.getD_some, hkeq, Instr.keyThatStays, hsb, if_true]
            rfl
          have hmod : es'.modify i (fun e => { e with key := k', val := v' }) = es'.setIfInBounds i { es'[i] with key := k', val := v' } := by
            apply Array.ext_getElem?
            intro n
            rw [Array.getElem?_modify, Array.getElem?_setIfInBounds]
            split
            · rename_i e; subst e; simp [hj']
            · rfl
          refine OpOK.setU h hG hA hmr (o' := .map (es'.modify i (fun e => { e with key := k', val := v' })) clk) (ER.obj ⟨by simp [her.1], fun n y y' hy hy' => ?_⟩ clk) ?_
          · rw [hmod] at hy'
            by_cases hn : i = n
            · subst hn
              have hje : i < es.size := by rw [her.1]; exact hj'
              simp [hje] at hy
              simp [hj'] at hy'
              subst hy
              subst hy'
              exact ⟨hk, hv, e3⟩
            · rw [Array.getElem?_setIfInBounds_ne hn] at hy hy'
              exact her.2 n y y' hy hy'
          · simp only [Instr.mapUpdate, Sem.run_bind, run_underlying' hu, Result.andThen, run_getMap hw, hck', h2', hks]
            exact run_setMap hw _
        · trivial
      · trivial
  · rename_i u hp hkp hck hfd
    have hkk := plain_eq 60 hp hk
    subst hkk
    obtain ⟨hl, hr⟩ := her.keys hkp
    have hck' := runP_run _ hck w
    rcases findKey_rel kt k' es.toList es'.toList hl hr hfd with ⟨_, h2⟩ | ⟨j, u1, u2, h1, h2, hv2, hj⟩
    · have h2' := runP_run _ h2 w
      refine OpOK.setU h hG hA hmr (o' := .map (es'.push { key := k', val := v', born := clk }) (clk + 1)) (ER.obj ⟨by simp [her.1], fun n y y' hy hy' => ?_⟩ _) ?_
      · rw [Array.getElem?_push] at hy hy'
        rw [her.1] at hy
        split at hy
        · rename_i e; rw [if_pos e] at hy'; cases hy; cases hy'; exact ⟨hk, hv, rfl⟩
        · rename_i e; rw [if_neg e] at hy'; exact her.2 n y y' hy hy'
      · simp only [Instr.mapUpdate, Sem.run_bind, run_underlying' hu, Result.andThen, run_getMap hw, hck', h2']
        exact run_setMap hw _
    · cases h1
  · trivial
end
end Go.Am
end
section
namespace Go.Am
open Go.RowKit
section
variable {P : Program} {G base top : Nat} {w0 : World} {m : Mp} {A : Heap} {w : World}
theorem arr_one {α : Type} {x : Array α} {a : α} (h : x.toList = [a]) : x = #[a] := Array.ext' h
theorem arr_nil {α : Type} {x : Array α} (h : x.toList = []) : x = #[] := Array.ext' h
theorem size_one {α : Type} {x : Array α} (h : 1 = x.size) : ∃ a, x = #[a] := by
  obtain ⟨l⟩ := x
  cases l with
  | nil => simp at h
  | cons a l => cases l with
    | nil => exact ⟨a, rfl⟩
    | cons b l => simp at h
theorem rangeA_ok (h : HR P G base w0 top m A w) {ty : TypeId} {x x' : Value} (hx : VR m x x') :
    OpOK P G base w0 top m A w (do pure (Next.value (← Instr.range ty x'))) (rangeA P ty x A) := by
  unfold rangeA
  split
  rotate_left
  · trivial
  rename_i kt e r hu
  split
  rotate_left
  · trivial
  rename_i es clk hm
  obtain ⟨r', d, es', rfl, hmr, hA, hw, her⟩ := mapAt_some h hx hm
  intro ht
  have hlt : A.next < top := by simp only [hpush] at ht; omega
  obtain ⟨hsub, hadd, hkeep⟩ := h.add hlt (d := 0) (AOR.obj (OBR.mapIter hmr clk #[] clk)) (w' := w.alloc (.mapIter (some r') clk #[] clk)) rfl rfl rfl rfl
  refine ⟨_, .pointer (some ⟨w.heap.size, 0, none⟩), _, hsub, .inl (run_v ?_), .ptr ⟨⟨0, by simp [ext]⟩, rfl, rfl⟩, hadd, hkeep⟩
  simp [Instr.range, Sem.run_bind, run_underlying' hu, run_getMap hw, newObj, Sem.run]
theorem iterAt_some (h : HR P G base w0 top m A w) {x x' : Value} {b r since stepped : Nat} {seen : Array Nat} (hx : VR m x x') (hi : iterAt x A = some (b, r, since, seen, stepped)) :
    ∃ b' d r' d', x' = .pointer (some ⟨b', 0, none⟩) ∧ m b = some (b', d) ∧ m r = some (r', d') ∧ hget A b = some (.obj (.mapIter (some r) since seen stepped)) ∧ w.heap[b']? = some (.mapIter (some r') since seen stepped) := by
  unfold iterAt at hi
  split at hi
  · rename_i a
    split at hi
    · rename_i o hoff hsp hA
      split at hi
      · cases hi
        cases hx with
        | @ptr _ a' ha =>
          obtain ⟨d, o', hm, hw, hor⟩ := h.at ha hA
          cases hor with
          | obj ho =>
            cases ho with
            | mapIter e =>
              refine ⟨a'.block, d, _, _, ?_, hm, e, hA, hw⟩
              obtain ⟨ab, ao, as⟩ := a'
              have h1 := ha.2.1
              have h2 := ha.2.2
              simp only at h1 h2
              rw [h1, h2, hoff, hsp]
      · cases hi
    · cases hi
  · cases hi
theorem entryA_ok (h : HR P G base w0 top m A w) {x x' : Value} (hx : VR m x x') :
    OpOK P G base w0 top m A w (do pure (Next.value (← Instr.entry x'))) (entryA x A) := by
  unfold entryA
  split
  rotate_left
  · trivial
  rename_i b r since seen stepped hit
  obtain ⟨b', d, r', d', rfl, hmb, hmr, hAb, hwb⟩ := iterAt_some h hx hit
  split
  rotate_left
  · trivial
  rename_i es clk x hm hseen
  obtain ⟨r2, d2, es', he, hmr2, hA, hw, her⟩ := mapAt_some h (.map hmr) hm
  cases he
  split
  rotate_left
  · trivial
  rename_i e hes hclk
  have hclk : clk = stepped := Nat.eq_of_beq_eq_true hclk
  have hes := arr_one hes
  have hseen := arr_one hseen
  subst hes hseen hclk
  obtain ⟨e', rfl⟩ := size_one (x := es') (by rw [← her.1]; rfl)
  obtain ⟨k1, k2, k3⟩ := her.2 0 e e' rfl rfl
  split
  · rename_i hb
    have hb : e.born = x := Nat.eq_of_beq_eq_true hb
    refine OpOK.still h (run_v (v' := .tuple #[e'.key, e'.val]) ?_) (.tuple rfl (AV.push (AV.one k1) k2).2)
    have hgb : (getObj b').run P w = .ok (.mapIter (some r') since #[x] clk) w := by simp [getObj, Sem.run, hwb]
    simp [Instr.entry, Sem.run_bind, hgb, run_getMap hw, ← k3, hb]
  · trivial
theorem nextA_ok (h : HR P G base w0 top m A w) {x x' : Value} (hx : VR m x x') (ty : TypeId) :
    OpOK P G base w0 top m A w (do pure (Next.value (← Instr.next x' false ty))) (nextA G x A) := by
  unfold nextA
  split
  rotate_left
  · trivial
  rename_i b r since seen stepped hit
  obtain ⟨b', d, r', d', rfl, hmb, hmr, hAb, hwb⟩ := iterAt_some h hx hit
  have hgb : (getObj b').run P w = .ok (.mapIter (some r') since seen stepped) w := by simp [getObj, Sem.run, hwb]
  split
  · rename_i es clk hG hm hseen
    have hG := ble_true hG
    obtain ⟨r2, d2, es', he, hmr2, hA, hw, her⟩ := mapAt_some h (.map hmr) hm
    cases he
    have hseen := arr_nil hseen
    subst hseen
    split
    · rename_i hes
      have hes := arr_nil hes
      subst hes
      have hes' : es' = #[] := Array.eq_empty_of_size_eq_zero (by rw [← her.1]; rfl)
      subst hes'
      refine OpOK.still h (run_v (v' := .tuple #[.bool false]) ?_) (.tuple rfl (AV.one (.bool false)).2)
      simp [Instr.next, Sem.run_bind, hgb, run_getMap hw, choose, Sem.run, Question.forced]
    · rename_i e hes
      have hes := arr_one hes
      subst hes
      obtain ⟨e', rfl⟩ := size_one (x := es') (by rw [← her.1]; rfl)
      obtain ⟨k1, k2, k3⟩ := her.2 0 e e' rfl rfl
      split
      · rename_i hb
        have hb := blt_true hb
        rw [k3] at hb
        intro ht
        obtain ⟨hput, hkeep⟩ := h.put hG hAb hmb (AOR.obj (d := d) (OBR.mapIter hmr since #[e.born] clk)) (w' := { w with heap := w.heap.setIfInBounds b' (.mapIter (some r') since #[e.born] clk) }) rfl rfl rfl rfl
        refine ⟨m, .tuple #[.bool true, e'.key, e'.val], _, Sub.refl _, .inl (run_v ?_), .tuple rfl (AV.push (AV.push (AV.one (.bool true)) k1) k2).2, hput, hkeep⟩
        have h3 : ¬ since ≤ e'.born := by omega
        have hset : ∀ o : Obj, (setObj b' o).run P w = .ok () { w with heap := w.heap.setIfInBounds b' o } := by intro o; simp [setObj, Sem.run, hwb]
        have hch : (choose (.mapNext 1)).run P w = .ok 0 w := rfl
        simp [Instr.next, Sem.run_bind, hgb, run_getMap hw, hb, h3, hset, hch, k3, Question.forced]
      · trivial
    · trivial
  · rename_i es clk q x hG hm hseen
    obtain ⟨r2, d2, es', he, hmr2, hA, hw, her⟩ := mapAt_some h (.map hmr) hm
    cases he
    have hseen := arr_one hseen
    subst hseen
    split
    · rename_i e hes
      have hes := arr_one hes
      subst hes
      obtain ⟨e', rfl⟩ := size_one (x := es') (by rw [← her.1]; rfl)
      obtain ⟨k1, k2, k3⟩ := her.2 0 e e' rfl rfl
      split
      · rename_i h1 h2
        have h1 : e.born = x := Nat.eq_of_beq_eq_true h1
        have h2 := blt_true h2
        rw [k3] at h1 h2
        refine OpOK.still h (run_v (v' := .tuple #[.bool false]) ?_) (.tuple rfl (AV.one (.bool false)).2)
        subst h1
        have h3 : ¬ stepped ≤ e'.born := by omega
        simp [Instr.next, Sem.run_bind, hgb, run_getMap hw, choose, Sem.run, Question.forced, h3]
      · trivial
    · trivial
  · trivial
theorem delA_ok (h : HR P G base w0 top m A w) {c : Call} {t : Tmps} {a : Operand → Value} (hv : ∀ x ∈ c.args, VR m (evalA t x) (a x)) (tt : TypeId) :
    OpOK P G base w0 top m A w (do pure (Next.value (← Builtin.delete_ c.argTypes tt (c.args.map a)))) (delA P G c t A) := by
  unfold delA
  split
  rotate_left
  · trivial
  rename_i xo ko ty hx hk hty
  have hx0 := hv xo (Array.mem_of_getElem? hx)
  have hk0 := hv ko (Array.mem_of_getElem? hk)
  split
  rotate_left
  · trivial
  rename_i kt e r hu hxe
  rw [hxe] at hx0
  split
  rotate_left
  · trivial
  rename_i es clk hG hm
  have hG := ble_true hG
  rw [hxe] at hm
  obtain ⟨r', d, es', hxr, hmr, hA, hw, her⟩ := mapAt_some h hx0 hm
  cases hfa : findA P kt (evalA t ko) es with
  | none => trivial
  | some res =>
    unfold findA at hfa
    split at hfa
    · rename_i u hp hkp hck
      have hkk := plain_eq 60 hp hk0
      obtain ⟨hl, hr⟩ := her.keys hkp
      have hemp := her.empty
      have hck' := runP_run _ hck w
      rw [← hemp] at hck'
      have hset : ∀ o : Obj, (setObj r' o).run P w = .ok () { w with heap := w.heap.setIfInBounds r' o } := fun o => run_setMap hw o
      have hax : (c.args.map a)[0]? = some (.map (some r')) := by rw [Array.getElem?_map, hx]; simp [hxr]
      have hak : (c.args.map a)[1]? = some (evalA t ko) := by rw [Array.getElem?_map, hk]; simp [hkk]
      rcases findKey_rel kt (evalA t ko) es.toList es'.toList hl hr hfa with ⟨rfl, h2⟩ | ⟨j, v, v', rfl, h2, hv, hj⟩
      · simp only
        have h2' := runP_run _ h2 w
        intro ht
        obtain ⟨hput, hkeep⟩ := h.put hG hA hmr (AOR.obj (d := d) (her.obj clk)) (w' := { w with heap := w.heap.setIfInBounds r' (.map es' clk) }) rfl rfl rfl rfl
        refine ⟨m, undef, _, Sub.refl _, .inl (run_v (v' := .tuple #[]) ?_), .tuple rfl (fun i v v' hv => by simp at hv), hput, hkeep⟩
        simp [Builtin.delete_, hty, hax, hak, Sem.run_bind, run_underlying' hu, run_getMap hw, hck', h2', hset]
      · simp only
        have h2' := runP_run _ h2 w
        intro ht
        have her2 : ER m (es.eraseIdxIfInBounds j) (es'.eraseIdxIfInBounds j) := by
          have hj1 : j < es.size := by simpa using hj
          have hj2 : j < es'.size := by rw [← her.1]; exact hj1
          refine ⟨by simp [Array.eraseIdxIfInBounds, hj1, hj2, her.1], fun n y y' hy hy' => ?_⟩
          simp only [Array.eraseIdxIfInBounds, hj1, hj2, dif_pos] at hy hy'
          rw [Array.getElem?_eraseIdx] at hy hy'
          split at hy
          · rename_i e; rw [if_pos e] at hy'; exact her.2 _ y y' hy hy'
          · rename_i e; rw [if_neg e] at hy'; exact her.2 _ y y' hy hy'
        obtain ⟨hput, hkeep⟩ := h.put hG hA hmr (AOR.obj (d := d) (her2.obj clk)) (w' := { w with heap := w.heap.setIfInBounds r' (.map (es'.eraseIdxIfInBounds j) clk) }) rfl rfl rfl rfl
        refine ⟨m, undef, _, Sub.refl _, .inl (run_v (v' := .tuple #[]) ?_), .tuple rfl (fun i v v' hv => by simp at hv), hput, hkeep⟩
        simp [Builtin.delete_, hty, hax, hak, Sem.run_bind, run_underlying' hu, run_getMap hw, hck', h2', hset]
    · cases hfa
def AtomOK (P : Program) : Prop := ∀ (g : Nat) (fn : Func) (a : Addr) (x d : Int) (w : World), P.funcs[g]? = some fn → fn.body = none → (fn.name == "sync/atomic.AddInt64") = true →
  w.cell? a = some (.int .i64 x) → w.frozen? a = false → (callFunc g #[.pointer (some a), .int .i64 d]).run P w = .ok (.value (.int .i64 (IntKind.wrap .i64 (x + d)))) (w.setCell a (.int .i64 (IntKind.wrap .i64 (x + d))))
theorem externA_ok (hT : AtomOK P) (h : HR P G base w0 top m A w) {f f' : Value} {args args' : Array Value} (hf : VR m f f') (ha : AV m args args') :
    OpOK P G base w0 top m A w (do let d ← Deferred.ofValue f' args'; invoke d.target d.args) (externA P G f args A) := by
  unfold externA
  split
  rotate_left
  · trivial
  rename_i g x y
  split
  rotate_left
  · trivial
  rename_i fn hfn
  split
  rotate_left
  · trivial
  rename_i hb
  cases hf with
  | @func _ f2 _ x' _ y' hfr hx ex hy ey =>
    have : f2 = .func g := by cases f2 <;> simp [FR] at hfr ⊢; exact hfr.symm
    subst this
    have hall : AV m (x ++ args ++ y) (x' ++ args' ++ y') := (AV.append ⟨hx, ex⟩ ha).append ⟨hy, ey⟩
    unfold atomA
    split
    rotate_left
    · trivial
    rename_i l a y0 hl
    have hall := hall.list
    rw [hl] at hall
    split
    rotate_left
    · trivial
    rename_i n t e d hG hsp hA
    split
    rotate_left
    · trivial
    rename_i x0 hlt hx0 hnm
    have hlt := blt_true hlt
    obtain ⟨a', ha', hargs⟩ : ∃ a', AR m a a' ∧ (x' ++ args' ++ y') = #[.pointer (some a'), .int .i64 d] := by
      generalize hq : (x' ++ args' ++ y').toList = l' at hall
      cases hall with
      | cons h1 h2 =>
        cases h2 with
        | cons h3 h4 =>
          cases h4
          cases h1 with
          | ptr ha' =>
            cases h3
            exact ⟨_, ha', arr_two hq⟩
    obtain ⟨v', hc, hvr⟩ := h.cell ha' hA hsp hlt hx0
    cases hvr
    obtain ⟨_, hfz, hput, hkeep⟩ := h.setCell ha' (ble_true hG) hA hsp hlt (VR.int (m := m) .i64 (IntKind.wrap .i64 (x0 + d)))
    intro ht
    refine ⟨m, _, _, Sub.refl _, .inl ?_, .int _ _, hput, hkeep⟩
    simp only [Deferred.ofValue, Sem.run_bind, Sem.run_pure, Result.andThen]
    show (callFunc g (x' ++ args' ++ y')).run P w = _
    rw [hargs]
    exact hT g fn a' x0 d w hfn hb hnm hc hfz
theorem deferA_ok (h : HR P G base w0 top m A w) {c : Call} {t : Tmps} {a : Operand → Value} (hv : ∀ x ∈ c.operands, VR m (evalA t x) (a x)) (ty : TypeId) :
    OpOK P G base w0 top m A w (do pure (.defer (← resolve a c ty))) (deferA c t A) := by
  unfold deferA
  split
  rotate_left
  · trivial
  rename_i f hc
  split
  rotate_left
  · trivial
  rename_i g x y hf
  have hfr := hv f (by simp [Call.operands, hc])
  rw [hf] at hfr
  have hargs : AV m (c.args.map (evalA t)) (c.args.map a) := by
    refine ⟨by simp, fun i v v' h1 h2 => ?_⟩
    simp only [Array.getElem?_map, Option.map_eq_some_iff] at h1 h2
    obtain ⟨o1, e1, rfl⟩ := h1
    obtain ⟨o2, e2, rfl⟩ := h2
    rw [e1] at e2
    cases e2
    exact hv o1 (by simp only [Call.operands, Array.mem_append]; exact .inr (Array.mem_of_getElem? e1))
  generalize hq : a f = f' at hfr
  cases hfr with
  | @func _ f2 _ x' _ y' hfr hx ex hy ey =>
    have : f2 = .func g := by cases f2 <;> simp [FR] at hfr ⊢; exact hfr.symm
    subst this
    refine ⟨rfl, { target := .fn (.func g) y', args := x' ++ c.args.map a }, ?_, g, y, y', rfl, rfl, ⟨hy, ey⟩, AV.append ⟨hx, ex⟩ hargs⟩
    simp only [resolve, hc, hq, Deferred.ofValue, Sem.run_bind, Sem.run_pure, Result.andThen]
end
end Go.Am
end
