/- Proved: part 5 of the proof of PackReads (AmD1, AmD2, AmD3). Conditions: each theorem states its own. -/
import Derived.Test.YtpnkifincadakaaGreatDoorP4
set_option linter.unusedVariables false
set_option linter.unusedSimpArgs false
section
namespace Go.Am
open Go.RowKit
def FillOK (P : Program) (t : Tmps) (o : Oper) (ob : AObj) (v : Value) (id : Nat) : Prop :=
  ∀ (m : Mp) (a : Act) (w : World), (∀ x ∈ o.op.operands, VR m (evalA t x) (a.eval x)) → ∃ (o' : Obj) (v' : Value), AOR P m 0 ob o' ∧ (execOp a.eval o).run P w = .ok (.value v') (w.alloc o') ∧
    ∀ m', Sub m m' → m' id = some (w.heap.size, 0) → VR m' v v'
structure Canon (P : Program) (G N : Nat) (call : CallF) (ops : Array Oper) (n : Nat) (T : Nat → Tmps) (H : Nat → Heap) (v : Nat → Value) (kd : Nat → Nat) (obj : Nat → AObj) (bef : Nat → Nat → Prop) : Prop where
  size : ops.size = n
  opn : ∀ (i : Nat) (o : Oper), ops[i]? = some o → allOpn G o.op.operands.toList = true ∧ dstOk N o.dst = true
  after_lt : ∀ (i : Nat) (o : Oper), ops[i]? = some o → ∀ e ∈ o.after, Region.binds .any e = true → e.on < i
  T_succ : ∀ (i : Nat) (o : Oper), ops[i]? = some o → T (i + 1) = putT (T i) o.dst (v i)
  next_mono : ∀ i, i < n → (H i).next ≤ (H (i + 1)).next
  bef_sound : ∀ L : Nat → Prop, (∀ (j : Nat) (o : Oper), L j → ops[j]? = some o → ∀ e ∈ o.after, Region.binds .any e = true → L e.on) → ∀ i j, bef i j → L j → L i
  bef_lt : ∀ i j, bef i j → i < j
  dst_inj : ∀ (i j : Nat) (oi oj : Oper) (d : Tmp), ops[i]? = some oi → ops[j]? = some oj → oi.dst = some d → oj.dst = some d → i = j
  reads : ∀ (i : Nat) (oi : Oper) (k : Nat) (ok : Oper) (d : Tmp), ops[i]? = some oi → ops[k]? = some ok → ok.dst = some d → d ∈ oi.looksAt ops → k = i ∨ bef k i ∨ bef i k
  effs : ∀ i j, kd i = 1 → kd j = 1 → i < j → j < n → bef i j
  fills : ∀ f j, kd f = 2 → kd j = 1 → f < j → j < n → bef f j
  kinds : ∀ i, i < n → kd i = 0 ∨ kd i = 1 ∨ kd i = 2
  quietH : ∀ i, i < n → kd i = 0 → H (i + 1) = H i
  quiet : ∀ (i : Nat) (o : Oper), kd i = 0 → ops[i]? = some o → ∀ b, b ≤ n → (∀ j, kd j = 1 → j < b → ¬ bef i j) → (∀ j, kd j = 1 → bef j i → j < b) →
    (wq (T i) o ops = false ∧ v i = undef) ∨ (wq (T i) o ops = true ∧ opA P G (T i) o (H b) = .val (v i) (H b))
  eff : ∀ (i : Nat) (o : Oper), kd i = 1 → ops[i]? = some o → wq (T i) o ops = true ∧ (opA P G (T i) o (H i) = .val (v i) (H (i + 1)) ∨ ∃ f args, opA P G (T i) o (H i) = .enter f args (H i) ∧ call f args (H i) = some (v i, H (i + 1)))
  fill : ∀ (i : Nat) (o : Oper), kd i = 2 → ops[i]? = some o → wq (T i) o ops = true ∧ H (i + 1) = hpush (H i) (some (obj i)) ∧ FillOK P (T i) o (obj i) (v i) (H i).next
section
variable {P : Program} {G base top N n : Nat} {w0 : World} {call : CallF} {ops : Array Oper} {T : Nat → Tmps} {H : Nat → Heap} {v : Nat → Value} {kd : Nat → Nat} {obj : Nat → AObj} {bef : Nat → Nat → Prop}
def LL (listed : Array Bool) (i : Nat) : Prop := listed.getD i false = true
structure DInv (P : Program) (G base : Nat) (w0 : World) (top N : Nat) (ops : Array Oper) (n : Nat) (T : Nat → Tmps) (H : Nat → Heap) (v : Nat → Value) (kd : Nat → Nat) (obj : Nat → AObj)
    (ms : Mp) (ws : World) (d : List Deferred) (listed : Array Bool) (a : Act) (w : World) (b : Nat) (m : Mp) : Prop where
  lsize : listed.size = n
  closed : ∀ (j : Nat) (o : Oper), LL listed j → ops[j]? = some o → ∀ e ∈ o.after, Region.binds .any e = true → LL listed e.on
  bn : b ≤ n
  effb : ∀ j, j < n → kd j = 1 → (LL listed j ↔ j < b)
  fillb : ∀ f, f < b → kd f = 2 → LL listed f
  sub : Sub ms m
  asize : N ≤ a.tmps.size
  adef : DLR m d a.defers
  tmpsL : ∀ (k : Nat) (o : Oper) (x : Tmp), LL listed k → ops[k]? = some o → o.dst = some x → VR m (v k) (a.tmps.getD x undef)
  tmps0 : ∀ x : Tmp, (∀ (k : Nat) (o : Oper), LL listed k → ops[k]? = some o → o.dst ≠ some x) → VR m (getT (T 0) x) (a.tmps.getD x undef)
  hr : HR P G base w0 (H b).next m (H b) w
  fresh : ∀ c, (H b).next ≤ c → c < top → (∀ f, f < n → kd f = 2 → LL listed f → b ≤ f → c ≠ (H f).next) → m c = none
  extra : ∀ f, f < n → kd f = 2 → LL listed f → b ≤ f → ∃ r o', m (H f).next = some (r, 0) ∧ w.heap[r]? = some o' ∧ AOR P m 0 (obj f) o' ∧ Sep G m (H b) r ∧ base ≤ r
  dist : ∀ f g r, f < n → kd f = 2 → LL listed f → b ≤ f → g < n → kd g = 2 → LL listed g → b ≤ g → m (H f).next = some (r, 0) → m (H g).next = some (r, 0) → f = g
  keep : ws.heap.size ≤ w.heap.size ∧ ∀ r, r < ws.heap.size → Sep G ms (H 0) r → w.heap[r]? = ws.heap[r]? ∧ Sep G m (H b) r ∧ ∀ f, f < n → kd f = 2 → LL listed f → b ≤ f → m (H f).next ≠ some (r, 0)
  nums : ∀ c, m c = ms c ∨ ((H 0).next ≤ c ∧ c < (H n).next)
variable {ms : Mp} {ws : World} {d : List Deferred} {listed : Array Bool} {a : Act} {w : World} {b : Nat} {m : Mp}
theorem Canon.next_le (hC : Canon P G N call ops n T H v kd obj bef) : ∀ {i j : Nat}, i ≤ j → j ≤ n → (H i).next ≤ (H j).next := by
  intro i j hij hj
  induction j with
  | zero => have : i = 0 := by omega
            subst this; exact Nat.le_refl _
  | succ j ih =>
    by_cases h : i = j + 1
    · subst h; exact Nat.le_refl _
    · exact Nat.le_trans (ih (by omega) (by omega)) (hC.next_mono j (by omega))
theorem Canon.fill_next (hC : Canon P G N call ops n T H v kd obj bef) {f : Nat} (hf : f < n) (hk : kd f = 2) : (H (f + 1)).next = (H f).next + 1 := by
  have : f < ops.size := by rw [hC.size]; exact hf
  obtain ⟨_, h2, _⟩ := hC.fill f ops[f] hk (by simp [this])
  rw [h2]; rfl
theorem Canon.T_no (hC : Canon P G N call ops n T H v kd obj bef) (x : Nat) : ∀ {i : Nat}, i ≤ n → (∀ (k : Nat) (o : Oper), k < i → ops[k]? = some o → o.dst ≠ some x) → getT (T i) x = getT (T 0) x := by
  intro i
  induction i with
  | zero => intro _ _; rfl
  | succ i ih =>
    intro hi hno
    have hlt : i < ops.size := by rw [hC.size]; omega
    have ho : ops[i]? = some ops[i] := by simp [hlt]
    rw [hC.T_succ i _ ho, ← ih (by omega) fun k o hk => hno k o (by omega)]
    have hne := hno i _ (by omega) ho
    cases hd : ops[i].dst with
    | none => rfl
    | some y =>
      rw [hd] at hne
      simp only [putT, getT, Tr.get_set]
      rw [if_neg (fun e => hne (by rw [e]))]
theorem Canon.T_yes (hC : Canon P G N call ops n T H v kd obj bef) {x k : Nat} {o : Oper} (hk : ops[k]? = some o) (hd : o.dst = some x) : ∀ {i : Nat}, i ≤ n → k < i → getT (T i) x = v k := by
  intro i
  induction i with
  | zero => intro _ h; omega
  | succ i ih =>
    intro hi hki
    have hlt : i < ops.size := by rw [hC.size]; omega
    have ho : ops[i]? = some ops[i] := by simp [hlt]
    rw [hC.T_succ i _ ho]
    by_cases he : k = i
    · subst he
      rw [ho] at hk
      cases hk
      rw [hd]
      simp [putT, getT, Tr.get_set]
    · rw [← ih (by omega) (by omega)]
      cases hdi : ops[i].dst with
      | none => rfl
      | some y =>
        simp only [putT, getT, Tr.get_set]
        rw [if_neg (fun e => he (hC.dst_inj k i o _ x hk ho hd (by rw [hdi, e])))]
theorem DInv.reads (hC : Canon P G N call ops n T H v kd obj bef) (h : DInv P G base w0 top N ops n T H v kd obj ms ws d listed a w b m) {i : Nat} {o : Oper} (ho : ops[i]? = some o) (hni : ¬ LL listed i)
    (haft : ∀ e ∈ o.after, Region.binds .any e = true → LL listed e.on) {x : Nat} (hx : x ∈ o.looksAt ops) : VR m (getT (T i) x) (a.tmps.getD x undef) := by
  have hin : i < n := by
    rcases Nat.lt_or_ge i ops.size with h' | h'
    · rw [← hC.size]; exact h'
    · rw [Array.getElem?_eq_none h'] at ho; cases ho
  have hclosed : ∀ (j : Nat) (o' : Oper), (LL listed j ∨ j = i) → ops[j]? = some o' → ∀ e ∈ o'.after, Region.binds .any e = true → (LL listed e.on ∨ e.on = i) := by
    intro j o' hj hoj e he hb
    rcases hj with hj | rfl
    · exact .inl (h.closed j o' hj hoj e he hb)
    · rw [ho] at hoj; cases hoj; exact .inl (haft e he hb)
  by_cases hex : ∃ (k : Nat) (ok : Oper), ops[k]? = some ok ∧ ok.dst = some x
  · obtain ⟨k, ok, hk, hd⟩ := hex
    have huniq : ∀ (k' : Nat) (o' : Oper), ops[k']? = some o' → o'.dst = some x → k' = k := fun k' o' h1 h2 => hC.dst_inj k' k o' ok x h1 hk h2 hd
    rcases hC.reads i o k ok x ho hk hd hx with rfl | hb | hb
    · rw [hC.T_no x (by omega) fun k' o' hk' ho' hd' => by have := huniq k' o' ho' hd'; omega]
      exact h.tmps0 x fun k' o' hl ho' hd' => hni (by rw [← huniq k' o' ho' hd']; exact hl)
    · rw [hC.T_yes hk hd (by omega) (hC.bef_lt _ _ hb)]
      refine h.tmpsL k ok x ?_ hk hd
      rcases hC.bef_sound (fun j => LL listed j ∨ j = i) hclosed k i hb (.inr rfl) with h1 | h1
      · exact h1
      · have := hC.bef_lt _ _ hb; omega
    · have hlt := hC.bef_lt _ _ hb
      rw [hC.T_no x (by omega) fun k' o' hk' ho' hd' => by have := huniq k' o' ho' hd'; omega]
      exact h.tmps0 x fun k' o' hl ho' hd' => by
        have := huniq k' o' ho' hd'
        subst this
        exact hni (hC.bef_sound (LL listed) h.closed i k' hb hl)
  · have hno : ∀ (k : Nat) (o' : Oper), ops[k]? = some o' → o'.dst ≠ some x := fun k o' h1 h2 => hex ⟨k, o', h1, h2⟩
    rw [hC.T_no x (by omega) fun k' o' _ ho' => hno k' o' ho']
    exact h.tmps0 x fun k o' _ ho' => hno k o' ho'
theorem DInv.up (hC : Canon P G N call ops n T H v kd obj bef) (h : DInv P G base w0 top N ops n T H v kd obj ms ws d listed a w b m) (hb : b < n) (hk : kd b = 0 ∨ (kd b = 2 ∧ LL listed b)) :
    DInv P G base w0 top N ops n T H v kd obj ms ws d listed a w (b + 1) m := by
  have hne1 : kd b ≠ 1 := by omega
  have heffb : ∀ j, j < n → kd j = 1 → (LL listed j ↔ j < b + 1) := fun j hj hj1 => (h.effb j hj hj1).trans ⟨fun h => by omega, fun h => by
    have : j ≠ b := fun e => by subst e; omega
    omega⟩
  rcases hk with hk | ⟨hk, hL⟩
  · have hH := hC.quietH b hb hk
    have hfb : ∀ f, b ≤ f → kd f = 2 → b + 1 ≤ f := fun f h1 h2 => by
      have : f ≠ b := fun e => by subst e; omega
      omega
    exact { h with
      bn := by omega
      effb := heffb
      fillb := fun f hf hkf => h.fillb f (by have : f ≠ b := fun e => (by subst e; omega); omega) hkf
      hr := by rw [hH]; exact h.hr
      fresh := fun c h1 h2 h3 => h.fresh c (by rw [hH] at h1; exact h1) h2 fun f hf hkf hl hbf => h3 f hf hkf hl (hfb f hbf hkf)
      extra := fun f hf hkf hl hbf => by rw [hH]; exact h.extra f hf hkf hl (by omega)
      dist := fun f g r h1 h2 h3 h4 h5 h6 h7 h8 => h.dist f g r h1 h2 h3 (by omega) h5 h6 h7 (by omega)
      keep := ⟨h.keep.1, fun r hr hs => by
        obtain ⟨k1, k2, k3⟩ := h.keep.2 r hr hs
        rw [hH]
        exact ⟨k1, k2, fun f hf hkf hl hbf => k3 f hf hkf hl (by omega)⟩⟩ }
  · have hlt : b < ops.size := by rw [hC.size]; exact hb
    obtain ⟨-, hH, -⟩ := hC.fill b ops[b] hk (by simp [hlt])
    obtain ⟨r, o', hm, hw, hor, hsep, hbr⟩ := h.extra b hb hk hL (Nat.le_refl _)
    have hrlt : r < w.heap.size := h.hr.real _ _ _ hm
    have hG := h.hr.g_len
    have hget : ∀ i y, hget (H (b + 1)) i = some y → (i = (H b).next ∧ y = obj b) ∨ (i ≠ (H b).next ∧ hget (H b) i = some y) := by
      intro i y e
      rw [hH, hget_push] at e
      split at e
      · rename_i e'; cases e; exact .inl ⟨e', rfl⟩
      · rename_i e'; exact .inr ⟨e', e⟩
    have hnext : (H (b + 1)).next = (H b).next + 1 := by rw [hH]; rfl
    have hneq : ∀ f, f < n → kd f = 2 → b + 1 ≤ f → (H f).next ≠ (H b).next := fun f hf hkf hbf => by
      have := hC.next_le (i := b + 1) (j := f) hbf (by omega)
      omega
    exact { h with
      bn := by omega
      effb := heffb
      fillb := fun f hf hkf => by
        by_cases e : f = b
        · subst e; exact hL
        · exact h.fillb f (by omega) hkf
      hr := ⟨h.hr.below, h.hr.base_le, h.hr.g_le, by omega, fun c h1 h2 => by omega, h.hr.real, h.hr.own, h.hr.glob, fun i y hy => by
          rcases hget i y hy with ⟨rfl, rfl⟩ | ⟨hi, hy⟩
          · exact ⟨by omega, r, 0, o', hm, hw, hor⟩
          · obtain ⟨h1, h2⟩ := h.hr.blk i y hy
            exact ⟨by omega, h2⟩, fun i j y z r2 d1 d2 hGi hy hz e1 e2 => by
          rcases hget i y hy with ⟨hi, hy⟩ | ⟨hi, hy⟩ <;> rcases hget j z hz with ⟨hj, hz⟩ | ⟨hj, hz⟩
          · omega
          · subst hi
            rw [hm] at e1
            cases e1
            by_cases hGj : G ≤ j
            · exact absurd e2 (hsep j z d2 hGj hz)
            · have := h.hr.glob j (by omega)
              rw [this] at e2
              cases e2
              have := h.hr.g_le
              omega
          · subst hj
            rw [hm] at e2
            cases e2
            exact absurd e1 (hsep i y d1 hGi hy)
          · exact h.hr.inj i j y z r2 d1 d2 hGi hy hz e1 e2⟩
      fresh := fun c h1 h2 h3 => h.fresh c (by omega) h2 fun f hf hkf hl hbf => by
        by_cases e : f = b
        · subst e; omega
        · exact h3 f hf hkf hl (by omega)
      extra := fun f hf hkf hl hbf => by
        obtain ⟨r2, o2, k1, k2, k3, k4, k5⟩ := h.extra f hf hkf hl (by omega)
        refine ⟨r2, o2, k1, k2, k3, fun i y d2 hGi hy e => ?_, k5⟩
        rcases hget i y hy with ⟨hi, hy⟩ | ⟨hi, hy⟩
        · subst hi
          rw [hm] at e
          cases e
          have := h.dist b f r hb hk hL (Nat.le_refl _) hf hkf hl (by omega) hm k1
          omega
        · exact k4 i y d2 hGi hy e
      dist := fun f g r h1 h2 h3 h4 h5 h6 h7 h8 => h.dist f g r h1 h2 h3 (by omega) h5 h6 h7 (by omega)
      keep := ⟨h.keep.1, fun r2 hr2 hs => by
        obtain ⟨k1, k2, k3⟩ := h.keep.2 r2 hr2 hs
        refine ⟨k1, fun i y d2 hGi hy e => ?_, fun f hf hkf hl hbf => k3 f hf hkf hl (by omega)⟩
        rcases hget i y hy with ⟨hi, hy⟩ | ⟨hi, hy⟩
        · subst hi
          have := k3 b hb hk hL (Nat.le_refl _)
          rw [hm] at e this
          cases e
          exact this rfl
        · exact k2 i y d2 hGi hy e⟩ }
theorem DInv.up_to (hC : Canon P G N call ops n T H v kd obj bef) : ∀ (k : Nat) {b : Nat} (h : DInv P G base w0 top N ops n T H v kd obj ms ws d listed a w b m), b + k ≤ n → (∀ j, b ≤ j → j < b + k → kd j = 0 ∨ (kd j = 2 ∧ LL listed j)) →
    DInv P G base w0 top N ops n T H v kd obj ms ws d listed a w (b + k) m
  | 0, b, h, _, _ => h
  | k + 1, b, h, hb, hk => by
    have h1 := h.up hC (by omega) (hk b (Nat.le_refl _) (by omega))
    have := DInv.up_to hC k h1 (by omega) fun j h1 h2 => hk j (by omega) (by omega)
    rw [show b + (k + 1) = b + 1 + k by omega]
    exact this
end
end Go.Am
end
section
namespace Go.Am
open Go.RowKit
section
variable {P : Program} {G base top N n : Nat} {w0 : World} {call : CallF} {ops : Array Oper} {T : Nat → Tmps} {H : Nat → Heap} {v : Nat → Value} {kd : Nat → Nat} {obj : Nat → AObj} {bef : Nat → Nat → Prop}
variable {ms : Mp} {ws : World} {d : List Deferred} {listed : Array Bool} {a : Act} {w : World} {b : Nat} {m : Mp}
theorem LL_set {listed : Array Bool} {i : Nat} (hi : i < listed.size) (k : Nat) : LL (listed.setIfInBounds i true) k ↔ (k = i ∨ LL listed k) := by
  unfold LL
  simp only [Array.getD_eq_getD_getElem?]
  by_cases h : k = i
  · subst h; simp [hi]
  · rw [Array.getElem?_setIfInBounds_ne (fun e => h e.symm)]
    simp [h]
theorem HR.spare {A : Heap} (h : HR P G base w0 A.next m A w) {c : Nat} (hc : A.next ≤ c) (hm : m c = none) (o' : Obj) :
    HR P G base w0 A.next (ext m c w.heap.size 0) A (w.alloc o') := by
  have hsub := sub_ext hm w.heap.size 0
  have hgl := h.g_len
  have hbl := h.base_le
  have hsz : (w.alloc o').heap = w.heap.push o' := rfl
  have hext : ∀ i x, ext m c w.heap.size 0 i = some x → (i = c ∧ x = (w.heap.size, 0)) ∨ (i ≠ c ∧ m i = some x) := by
    intro i x e
    unfold ext at e
    split at e
    · rename_i e'; cases e; exact .inl ⟨e', rfl⟩
    · rename_i e'; exact .inr ⟨e', e⟩
  refine ⟨h.below.trans ⟨rfl, rfl, rfl, by simp, fun k hk => ?_⟩, by simp; omega, h.g_le, hgl, fun b h1 h2 => by omega, fun b r d e => ?_, fun b r d hG e => ?_, fun b hb => hsub _ _ (h.glob b hb), fun i y hy => ?_, fun i j y z r d1 d2 hGi hy hz e1 e2 => ?_⟩
  · rw [hsz, Array.getElem?_push, if_neg (by omega)]
  · rcases hext _ _ e with ⟨_, e⟩ | ⟨_, e⟩
    · cases e; simp
    · have := h.real b r d e; simp; omega
  · rcases hext _ _ e with ⟨_, e⟩ | ⟨_, e⟩
    · cases e; exact hbl
    · exact h.own b r d hG e
  · obtain ⟨hl, r, d, y', k1, k2, k3⟩ := h.blk i y hy
    have := h.real _ _ _ k1
    exact ⟨hl, r, d, y', hsub _ _ k1, by rw [hsz, Array.getElem?_push, if_neg (by omega)]; exact k2, k3.mono hsub⟩
  · have hi := (h.blk i y hy).1
    have hj := (h.blk j z hz).1
    rcases hext _ _ e1 with ⟨e, _⟩ | ⟨_, e1⟩
    · omega
    · rcases hext _ _ e2 with ⟨e, _⟩ | ⟨_, e2⟩
      · omega
      · exact h.inj i j y z r d1 d2 hGi hy hz e1 e2
theorem Keep.fix {A : Heap} {m' : Mp} {w' : World} (h : Keep G m A w m' A w') : m' = m := by
  funext c
  rcases h.2.2 c with e | e
  · exact e
  · omega
theorem DInv.put (hC : Canon P G N call ops n T H v kd obj bef) (h : DInv P G base w0 top N ops n T H v kd obj ms ws d listed a w b m) {i : Nat} {o : Oper} (ho : ops[i]? = some o) (hin : i < n) (hni : ¬ LL listed i)
    {m' : Mp} (hs : Sub m m') {v' : Value} (hv : VR m' (v i) v') :
    (∀ (k : Nat) (o' : Oper) (x : Tmp), LL (listed.setIfInBounds i true) k → ops[k]? = some o' → o'.dst = some x → VR m' (v k) ((a.put o.dst v').tmps.getD x undef)) ∧
    (∀ x : Tmp, (∀ (k : Nat) (o' : Oper), LL (listed.setIfInBounds i true) k → ops[k]? = some o' → o'.dst ≠ some x) → VR m' (getT (T 0) x) ((a.put o.dst v').tmps.getD x undef)) ∧
    N ≤ (a.put o.dst v').tmps.size ∧ DLR m' d (a.put o.dst v').defers := by
  have hls : i < listed.size := by rw [h.lsize]; exact hin
  have hN := h.asize
  have other : ∀ x, o.dst ≠ some x → (a.put o.dst v').tmps.getD x undef = a.tmps.getD x undef := by
    intro x hx
    cases hd : o.dst with
    | none => rfl
    | some y =>
      rw [hd] at hx
      simp only [Act.put, Array.getD_eq_getD_getElem?]
      rw [Array.getElem?_setIfInBounds_ne (fun e => hx (by rw [e]))]
  refine ⟨fun k o' x hk ho' hd' => ?_, fun x hno => ?_, ?_, ?_⟩
  · rcases (LL_set hls k).1 hk with rfl | hk
    · rw [ho] at ho'
      cases ho'
      have hx : x < N := by
        have := (hC.opn k o ho).2
        rw [hd'] at this
        exact blt_true this
      have hx2 : x < a.tmps.size := Nat.lt_of_lt_of_le hx hN
      rw [hd']
      simp only [Act.put]
      have : (a.tmps.setIfInBounds x v').getD x undef = v' := by simp [hx2]
      rw [this]
      exact hv
    · have hne : o.dst ≠ some x := fun e => hni (by rw [hC.dst_inj i k o o' x ho ho' e hd']; exact hk)
      rw [other x hne]
      exact (h.tmpsL k o' x hk ho' hd').mono hs
  · have hne := hno i o ((LL_set hls i).2 (.inl rfl)) ho
    rw [other x hne]
    exact (h.tmps0 x fun k o' hk => hno k o' ((LL_set hls k).2 (.inr hk))).mono hs
  · cases o.dst <;> simp [Act.put, hN]
  · have := h.adef.mono hs
    cases o.dst <;> exact this
theorem looks_mem {o : Oper} {x : Tmp} (h : (.tmp x : Operand) ∈ o.op.operands) : x ∈ o.looksAt ops := by
  unfold Oper.looksAt
  refine List.mem_append.2 (.inl (List.mem_filterMap.2 ⟨.tmp x, by simpa using h, rfl⟩))
theorem looks_guard {o : Oper} {g : Nat × Bool} (hg : o.guard = some g) {oj : Oper} (hj : ops[g.1]? = some oj) {x : Tmp} (hd : oj.dst = some x) : x ∈ o.looksAt ops := by
  unfold Oper.looksAt
  refine List.mem_append.2 (.inr ?_)
  obtain ⟨g1, g2⟩ := g
  simp only [hg]
  simp [hj, hd]
theorem wq_eq (hC : Canon P G N call ops n T H v kd obj bef) (h : DInv P G base w0 top N ops n T H v kd obj ms ws d listed a w b m) {i : Nat} {o : Oper} (ho : ops[i]? = some o) (hni : ¬ LL listed i)
    (haft : ∀ e ∈ o.after, Region.binds .any e = true → LL listed e.on) : wq (T i) o ops = Region.wanted o (yielded ops a.tmps) := by
  unfold wq Region.wanted
  cases hg : o.guard with
  | none => rfl
  | some g =>
    simp only
    unfold wantedA yieldedA yielded
    cases hj : ops[g.1]? with
    | none => simp
    | some oj =>
      simp only [Option.bind_some]
      cases hd : oj.dst with
      | none => simp
      | some x =>
        simp only [Option.bind_some]
        have hx := h.reads hC ho hni haft (looks_guard hg hj hd)
        cases hgt : getT (T i) x with
        | bool b =>
          rw [hgt] at hx
          generalize hq : a.tmps.getD x undef = v' at hx
          cases hx
          have : a.tmps[x]? = some (.bool b) := by
            rw [Array.getD_eq_getD_getElem?] at hq
            cases hr : a.tmps[x]? with
            | none => rw [hr] at hq; simp [undef] at hq
            | some u => rw [hr] at hq; simp at hq; rw [hq]
          simp [this]
        | _ =>
          rw [hgt] at hx
          have hnb : ∀ b, a.tmps[x]? ≠ some (.bool b) := by
            intro b hb
            rw [Array.getD_eq_getD_getElem?, hb] at hx
            simp at hx
            cases hx
          simp only
          cases hr : a.tmps[x]? with
          | none => rfl
          | some u => cases u <;> first | rfl | exact absurd hr (hnb _)
theorem opn_at (hC : Canon P G N call ops n T H v kd obj bef) (h : DInv P G base w0 top N ops n T H v kd obj ms ws d listed a w b m) {i : Nat} {o : Oper} (ho : ops[i]? = some o) (hni : ¬ LL listed i)
    (haft : ∀ e ∈ o.after, Region.binds .any e = true → LL listed e.on) : ∀ x ∈ o.op.operands, VR m (evalA (T i) x) (a.eval x) := by
  have hall := (hC.opn i o ho).1
  have key : ∀ (l : List Operand), allOpn G l = true → (∀ x ∈ l, x ∈ o.op.operands) → ∀ x ∈ l, VR m (evalA (T i) x) (a.eval x) := by
    intro l
    induction l with
    | nil => intro _ _ x hx; simp at hx
    | cons y l ih =>
      intro hl hin
      simp only [allOpn] at hl
      split at hl
      · rename_i hy
        intro x hx
        cases hx with
        | head =>
          cases y with
          | tmp k => exact h.reads hC ho hni haft (looks_mem (hin _ (by simp)))
          | const v => exact plain_self 60 hy
          | global g => exact .ptr ⟨⟨0, h.hr.glob g (blt_true hy)⟩, rfl, rfl⟩
          | func f => exact .func rfl rfl (fun i v v' hv => by simp at hv) rfl (fun i v v' hv => by simp at hv)
        | tail _ hx => exact ih hl (fun z hz => hin z (by simp [hz])) x hx
      · cases hl
  intro x hx
  exact key _ hall (fun x hx => by simpa using hx) x (by simpa using hx)
theorem DInv.step (hE : Enters P) (hT : AtomOK P) (hC : Canon P G N call ops n T H v kd obj bef) (hCall : ∀ top, CallOK P G base w0 top call) (htop : (H n).next ≤ top)
    (h : DInv P G base w0 top N ops n T H v kd obj ms ws d listed a w b m) {i : Nat} (hrd : i ∈ Region.ready .any ops listed) {Q : Exit → Act → World → Prop} (hout : LetsOut Q) :
    wpOp P ops Q i (fun a' w' => ∃ b' m', DInv P G base w0 top N ops n T H v kd obj ms ws d (listed.setIfInBounds i true) a' w' b' m') a w := by
  obtain ⟨hgf, o, ho, haft⟩ := mem_ready.1 hrd
  have hls : i < listed.size := by
    rcases Nat.lt_or_ge i listed.size with h' | h'
    · exact h'
    · simp [Array.getElem?_eq_none h'] at hgf
  have hin : i < n := by rw [← h.lsize]; exact hls
  have hni : ¬ LL listed i := by
    unfold LL
    simp [hls] at hgf ⊢
    exact hgf
  have haft' : ∀ e ∈ o.after, Region.binds .any e = true → LL listed e.on := haft
  have hset := LL_set hls
  have hwq := wq_eq hC h ho hni haft'
  have hop := opn_at hC h ho hni haft'
  have hclosed : ∀ (j : Nat) (o' : Oper), LL (listed.setIfInBounds i true) j → ops[j]? = some o' → ∀ e ∈ o'.after, Region.binds .any e = true → LL (listed.setIfInBounds i true) e.on := by
    intro j o' hj hoj e he hb
    rcases (hset j).1 hj with rfl | hj
    · rw [ho] at hoj; cases hoj; exact (hset _).2 (.inr (haft' e he hb))
    · exact (hset _).2 (.inr (h.closed j o' hj hoj e he hb))
  have hlsz : (listed.setIfInBounds i true).size = n := by simp [h.lsize]
  have hbef : ∀ j, bef j i → LL listed j := by
    intro j hj
    rcases hC.bef_sound (fun j => LL listed j ∨ j = i) (fun j o' hj hoj e he hb => by
      rcases hj with hj | rfl
      · exact .inl (h.closed j o' hj hoj e he hb)
      · rw [ho] at hoj; cases hoj; exact .inl (haft' e he hb)) j i hj (.inr rfl) with h1 | h1
    · exact h1
    · have := hC.bef_lt _ _ hj; omega
  have hnbef : ∀ j, LL listed j → ¬ bef i j := fun j hj hb => hni (hC.bef_sound (LL listed) h.closed i j hb hj)
  unfold wpOp
  simp only [ho]
  rw [← hwq]
  rcases hC.kinds i hin with hk | hk | hk
  · -- quiet
    have hq := hC.quiet i o hk ho b h.bn (fun j hj hjb => hnbef j ((h.effb j (by have := h.bn; omega) hj).2 hjb)) (fun j hj hji => (h.effb j (by have := hC.bef_lt _ _ hji; omega) hj).1 (hbef j hji))
    have fin : ∀ w' v', VR m (v i) v' → HR P G base w0 (H b).next m (H b) w' → Keep G m (H b) w m (H b) w' → ∃ b' m', DInv P G base w0 top N ops n T H v kd obj ms ws d (listed.setIfInBounds i true) (a.put o.dst v') w' b' m' := by
      intro w' v' hv hr' hK
      obtain ⟨p1, p2, p3, p4⟩ := h.put hC ho hin hni (Sub.refl m) hv
      have hf2 : ∀ f, kd f = 2 → LL (listed.setIfInBounds i true) f → LL listed f := fun f hf hl => by
        rcases (hset f).1 hl with rfl | hl
        · omega
        · exact hl
      refine ⟨b, m, { h with
        lsize := hlsz, closed := hclosed, asize := p3, adef := p4, tmpsL := p1, tmps0 := p2, hr := hr'
        effb := fun j hj hkj => ⟨fun hl => by
            rcases (hset j).1 hl with rfl | hl
            · omega
            · exact (h.effb j hj hkj).1 hl, fun hl => (hset j).2 (.inr ((h.effb j hj hkj).2 hl))⟩
        fillb := fun f hf hkf => (hset f).2 (.inr (h.fillb f hf hkf))
        fresh := fun c h1 h2 h3 => h.fresh c h1 h2 fun f hf hkf hl hbf => h3 f hf hkf ((hset f).2 (.inr hl)) hbf
        extra := fun f hf hkf hl hbf => by
          obtain ⟨r, o', k1, k2, k3, k4, k5⟩ := h.extra f hf hkf (hf2 f hkf hl) hbf
          exact ⟨r, o', k1, by rw [(hK.1.2 r (h.hr.real _ _ _ k1) k4).1]; exact k2, k3, k4, k5⟩
        dist := fun f g r h1 h2 h3 h4 h5 h6 h7 h8 => h.dist f g r h1 h2 (hf2 f h2 h3) h4 h5 h6 (hf2 g h6 h7) h8
        keep := ⟨Nat.le_trans h.keep.1 hK.1.1, fun r hr hs => by
          obtain ⟨k1, k2, k3⟩ := h.keep.2 r hr hs
          exact ⟨((hK.1.2 r (Nat.lt_of_lt_of_le hr h.keep.1) k2).1).trans k1, k2, fun f hf hkf hl hbf => k3 f hf hkf (hf2 f hkf hl) hbf⟩⟩ }⟩
    rcases hq with ⟨hw, hv⟩ | ⟨hw, hopa⟩
    · rw [hw]
      simp only [Bool.false_eq_true, if_false]
      exact fin w undef (by rw [hv]; exact vr_undef m) h.hr (Keep.refl _ _ _ _)
    · rw [hw]
      simp only [if_true]
      refine .inl ?_
      have hok := opA_ok hE hT h.hr (t := T i) (o := o) (a := a) hop
      rw [hopa] at hok
      obtain ⟨m', v', w', h1, h2, h3, h4, h5⟩ := hok (Nat.le_refl _)
      have hm := h5.fix
      subst hm
      unfold Oper.wp
      rcases h2 with h2 | ⟨rfl, h2⟩
      · rw [h2]; exact fin w' v' h3 h4 h5
      · rw [h2]; exact fin w' undef h3 h4 h5
  · -- an effect
    have hbi : b ≤ i := by
      rcases Nat.lt_or_ge i b with h' | h'
      · exact absurd ((h.effb i hin hk).2 h') hni
      · exact h'
    have h' := h.up_to hC (i - b) (by omega) (fun j h1 h2 => by
      rcases hC.kinds j (by omega) with hj | hj | hj
      · exact .inl hj
      · have hl := hbef j (hC.effs j i hj hk (by omega) hin)
        have := (h.effb j (by omega) hj).1 hl
        omega
      · exact .inr ⟨hj, hbef j (hC.fills j i hj hk (by omega) hin)⟩)
    rw [show b + (i - b) = i by omega] at h'
    obtain ⟨hw, hstep⟩ := hC.eff i o hk ho
    rw [hw]
    simp only [if_true]
    refine .inl ?_
    have hnn : (H (i + 1)).next ≤ (H n).next := hC.next_le (by omega) (Nat.le_refl _)
    have hn0 := hC.next_mono i hin
    have h0i : (H 0).next ≤ (H i).next := hC.next_le (by omega) (by omega)
    have hfr : ∀ c, (H i).next ≤ c → c < (H (i + 1)).next → m c = none := by
      intro c h1 h2
      refine h'.fresh c h1 (by omega) fun f hf hkf hl hbf => ?_
      have hfi : f ≠ i := fun e => by subst e; omega
      have := hC.next_le (i := i + 1) (j := f) (by omega) (by omega)
      omega
    have hHR : HR P G base w0 (H (i + 1)).next m (H i) w := { h'.hr with fresh := hfr }
    have fin : ∀ m' w' v', Sub m m' → VR m' (v i) v' → HR P G base w0 (H (i + 1)).next m' (H (i + 1)) w' → Keep G m (H i) w m' (H (i + 1)) w' →
        ∃ b' m', DInv P G base w0 top N ops n T H v kd obj ms ws d (listed.setIfInBounds i true) (a.put o.dst v') w' b' m' := by
      intro m' w' v' hs hv hr' hK
      obtain ⟨p1, p2, p3, p4⟩ := h.put hC ho hin hni hs hv
      have hf2 : ∀ f, kd f = 2 → LL (listed.setIfInBounds i true) f → LL listed f := fun f hf hl => by
        rcases (hset f).1 hl with rfl | hl
        · omega
        · exact hl
      have hback : ∀ f r, f < n → kd f = 2 → LL listed f → i ≤ f → m' (H f).next = some (r, 0) → m (H f).next = some (r, 0) := by
        intro f r hf hkf hl hbf e
        obtain ⟨r2, o2, k1, _⟩ := h'.extra f hf hkf hl hbf
        have := hs _ _ k1
        rw [e] at this
        cases this
        exact k1
      refine ⟨i + 1, m', ⟨hlsz, hclosed, by omega, fun j hj hkj => ⟨fun hl => ?_, fun hl => ?_⟩, fun f hf hkf => ?_, h.sub.trans hs, p3, p4, p1, p2, hr', fun c h1 h2 h3 => ?_, fun f hf hkf hl hbf => ?_, fun f g r h1 h2 h3 h4 h5 h6 h7 h8 e1 e2 => ?_, ⟨Nat.le_trans h.keep.1 hK.1.1, fun r hr hsep => ?_⟩, fun c => ?_⟩⟩
      · rcases (hset j).1 hl with rfl | hl
        · omega
        · have := (h'.effb j hj hkj).1 hl; omega
      · by_cases e : j = i
        · exact (hset j).2 (.inl e)
        · exact (hset j).2 (.inr ((h'.effb j hj hkj).2 (by omega)))
      · by_cases e : f = i
        · subst e; omega
        · exact (hset f).2 (.inr (h'.fillb f (by omega) hkf))
      · rcases hK.2.2 c with e | e
        · rw [e]
          exact h'.fresh c (by omega) h2 fun f hf hkf hl hbf => by
            have hfi : f ≠ i := fun e => by subst e; omega
            exact h3 f hf hkf ((hset f).2 (.inr hl)) (by omega)
        · omega
      · obtain ⟨r, o', k1, k2, k3, k4, k5⟩ := h'.extra f hf hkf (hf2 f hkf hl) (by omega)
        obtain ⟨q1, q2⟩ := hK.1.2 r (h'.hr.real _ _ _ k1) k4
        exact ⟨r, o', hs _ _ k1, by rw [q1]; exact k2, k3.mono hs, q2, k5⟩
      · exact h'.dist f g r h1 h2 (hf2 f h2 h3) (by omega) h5 h6 (hf2 g h6 h7) (by omega) (hback f r h1 h2 (hf2 f h2 h3) (by omega) e1) (hback g r h5 h6 (hf2 g h6 h7) (by omega) e2)
      · obtain ⟨k1, k2, k3⟩ := h'.keep.2 r hr hsep
        obtain ⟨q1, q2⟩ := hK.1.2 r (Nat.lt_of_lt_of_le hr h.keep.1) k2
        exact ⟨q1.trans k1, q2, fun f hf hkf hl hbf e => k3 f hf hkf (hf2 f hkf hl) (by omega) (hback f r hf hkf (hf2 f hkf hl) (by omega) e)⟩
      · rcases hK.2.2 c with e | e
        · rw [e]; exact h.nums c
        · exact .inr (by omega)
    rcases hstep with hopa | ⟨f, args, hopa, hcl⟩
    · have hok := opA_ok hE hT hHR (t := T i) (o := o) (a := a) hop
      rw [hopa] at hok
      obtain ⟨m', v', w', h1, h2, h3, h4, h5⟩ := hok (Nat.le_refl _)
      unfold Oper.wp
      rcases h2 with h2 | ⟨rfl, h2⟩
      · rw [h2]; exact fin m' w' v' h1 h3 h4 h5
      · rw [h2]; exact fin m' w' undef h1 h3 h4 h5
    · have hok := opA_ok hE hT hHR (t := T i) (o := o) (a := a) hop
      rw [hopa] at hok
      obtain ⟨_, args', h2, h3⟩ := hok
      obtain ⟨_, hcall⟩ := hCall (H (i + 1)).next _ _ _ _ _ hcl
      unfold Oper.wp
      rw [h2]
      refine (hcall (Nat.le_refl _) m args' w h3 hHR).mono fun e w' he => ?_
      cases e with
      | returned v' =>
        obtain ⟨m', k1, k2, k3, k4⟩ := he
        exact fin m' w' v' k1 k2 k3 k4
      | panicked ch => exact he.elim
      | outgrown => exact he.elim
  · -- a new block
    have hbi : b ≤ i := by
      rcases Nat.lt_or_ge i b with h' | h'
      · exact absurd (h.fillb i h' hk) hni
      · exact h'
    obtain ⟨hw, hH, hfill⟩ := hC.fill i o hk ho
    rw [hw]
    simp only [if_true]
    refine .inl ?_
    obtain ⟨o', v', hor, hrun, hvr⟩ := hfill m a w hop
    have hnn : (H (i + 1)).next ≤ (H n).next := hC.next_le (by omega) (Nat.le_refl _)
    have hn1 : (H (i + 1)).next = (H i).next + 1 := by rw [hH]; rfl
    have hb0 : (H b).next ≤ (H i).next := hC.next_le hbi (by omega)
    have h0b : (H 0).next ≤ (H b).next := hC.next_le (by omega) h.bn
    have hidne : ∀ f, f < n → kd f = 2 → f ≠ i → (H f).next ≠ (H i).next := by
      intro f hf hkf hne
      have hf1 := hC.fill_next hf hkf
      rcases Nat.lt_or_ge f i with hlt | hge
      · have := hC.next_le (i := f + 1) (j := i) (by omega) (by omega); omega
      · have := hC.next_le (i := i + 1) (j := f) (by omega) (by omega); omega
    have hfree : m (H i).next = none := h.fresh _ hb0 (by omega) fun f hf hkf hl hbf e => by
      have hne : f ≠ i := fun e => hni (by rw [← e]; exact hl)
      exact hidne f hf hkf hne e.symm
    have hsp := h.hr.spare hb0 hfree o'
    have hsub := sub_ext hfree w.heap.size 0
    have hext : ∀ c x, ext m (H i).next w.heap.size 0 c = some x → (c = (H i).next ∧ x = (w.heap.size, 0)) ∨ (c ≠ (H i).next ∧ m c = some x) := by
      intro c x e
      unfold ext at e
      split at e
      · rename_i e'; cases e; exact .inl ⟨e', rfl⟩
      · rename_i e'; exact .inr ⟨e', e⟩
    have hsz : (w.alloc o').heap = w.heap.push o' := rfl
    have hold : ∀ r, r < w.heap.size → (w.alloc o').heap[r]? = w.heap[r]? := fun r hr => by rw [hsz, Array.getElem?_push, if_neg (by omega)]
    have hv := hvr (ext m (H i).next w.heap.size 0) hsub (by simp [ext])
    obtain ⟨p1, p2, p3, p4⟩ := h.put hC ho hin hni hsub hv
    unfold Oper.wp
    rw [hrun]
    have hsepN : ∀ r, r < w.heap.size → Sep G m (H b) r → Sep G (ext m (H i).next w.heap.size 0) (H b) r := by
      intro r hr hs j y d2 hGj hy e
      rcases hext _ _ e with ⟨_, e⟩ | ⟨_, e⟩
      · cases e; omega
      · exact hs j y d2 hGj hy e
    have hf2 : ∀ f, LL (listed.setIfInBounds i true) f → f ≠ i → LL listed f := fun f hl hne => by
      rcases (hset f).1 hl with rfl | hl
      · exact absurd rfl hne
      · exact hl
    refine ⟨b, ext m (H i).next w.heap.size 0, ⟨hlsz, hclosed, h.bn, fun j hj hkj => ⟨fun hl => ?_, fun hl => (hset j).2 (.inr ((h.effb j hj hkj).2 hl))⟩, fun f hf hkf => (hset f).2 (.inr (h.fillb f hf hkf)), h.sub.trans hsub, p3, p4, p1, p2, hsp, fun c h1 h2 h3 => ?_, fun f hf hkf hl hbf => ?_, fun f g r h1 h2 h3 h4 h5 h6 h7 h8 e1 e2 => ?_, ⟨by have := h.keep.1; simp; omega, fun r hr hsep => ?_⟩, fun c => ?_⟩⟩
    · rcases (hset j).1 hl with rfl | hl
      · omega
      · exact (h.effb j hj hkj).1 hl
    · have hci : c ≠ (H i).next := h3 i hin hk ((hset i).2 (.inl rfl)) hbi
      unfold ext
      rw [if_neg hci]
      exact h.fresh c h1 h2 fun f hf hkf hl hbf => h3 f hf hkf ((hset f).2 (.inr hl)) hbf
    · by_cases e : f = i
      · subst e
        refine ⟨w.heap.size, o', by simp [ext], by rw [hsz]; simp, hor.mono hsub, fun j y d2 hGj hy e => ?_, h.hr.base_le⟩
        have hj := (h.hr.blk j y hy).1
        rcases hext _ _ e with ⟨e', _⟩ | ⟨_, e⟩
        · omega
        · have := h.hr.real _ _ _ e; omega
      · obtain ⟨r, o2, k1, k2, k3, k4, k5⟩ := h.extra f hf hkf (hf2 f hl e) hbf
        have hr := h.hr.real _ _ _ k1
        exact ⟨r, o2, hsub _ _ k1, by rw [hold r hr]; exact k2, k3.mono hsub, hsepN r hr k4, k5⟩
    · by_cases ef : f = i <;> by_cases eg : g = i
      · omega
      · subst ef
        have he : ext m (H f).next w.heap.size 0 (H f).next = some (w.heap.size, 0) := by simp [ext]
        rw [he] at e1
        cases e1
        rcases hext _ _ e2 with ⟨e', _⟩ | ⟨_, e2⟩
        · exact absurd e' (hidne g h5 h6 eg)
        · have := h.hr.real _ _ _ e2; omega
      · subst eg
        have he : ext m (H g).next w.heap.size 0 (H g).next = some (w.heap.size, 0) := by simp [ext]
        rw [he] at e2
        cases e2
        rcases hext _ _ e1 with ⟨e', _⟩ | ⟨_, e1⟩
        · exact absurd e' (hidne f h1 h2 ef)
        · have := h.hr.real _ _ _ e1; omega
      · rcases hext _ _ e1 with ⟨e', _⟩ | ⟨_, e1⟩
        · exact absurd e' (hidne f h1 h2 ef)
        · rcases hext _ _ e2 with ⟨e', _⟩ | ⟨_, e2⟩
          · exact absurd e' (hidne g h5 h6 eg)
          · exact h.dist f g r h1 h2 (hf2 f h3 ef) h4 h5 h6 (hf2 g h7 eg) h8 e1 e2
    · obtain ⟨k1, k2, k3⟩ := h.keep.2 r hr hsep
      have hrw : r < w.heap.size := Nat.lt_of_lt_of_le hr h.keep.1
      refine ⟨(hold r hrw).trans k1, hsepN r hrw k2, fun f hf hkf hl hbf e => ?_⟩
      by_cases ef : f = i
      · subst ef
        have he : ext m (H f).next w.heap.size 0 (H f).next = some (w.heap.size, 0) := by simp [ext]
        rw [he] at e
        cases e
        omega
      · rcases hext _ _ e with ⟨e', _⟩ | ⟨_, e⟩
        · exact absurd e' (hidne f hf hkf ef)
        · exact k3 f hf hkf (hf2 f hl ef) hbf e
    · unfold ext
      split
      · rename_i e; exact .inr ⟨by omega, by omega⟩
      · exact h.nums c
end
end Go.Am
end
section
namespace Go.Am
open Go.RowKit
section
variable {P : Program} {G base top N n : Nat} {w0 : World} {call : CallF} {ops : Array Oper} {T : Nat → Tmps} {H : Nat → Heap} {v : Nat → Value} {kd : Nat → Nat} {obj : Nat → AObj} {bef : Nat → Nat → Prop}
variable {ms : Mp} {ws : World} {d : List Deferred} {listed : Array Bool} {a : Act} {w : World} {b : Nat} {m : Mp}
def unl (listed : Array Bool) (n : Nat) : Nat := (List.range n).countP (fun k => !(listed.getD k false))
theorem unl_set {i : Nat} (hi : i < listed.size) (hf : ¬ LL listed i) : ∀ {n : Nat}, (i < n → unl (listed.setIfInBounds i true) n + 1 = unl listed n) ∧ (¬ i < n → unl (listed.setIfInBounds i true) n = unl listed n) := by
  intro n
  have hne : ∀ k, k ≠ i → (listed.setIfInBounds i true).getD k false = listed.getD k false := fun k hk => by
    simp only [Array.getD_eq_getD_getElem?]
    rw [Array.getElem?_setIfInBounds_ne (fun e => hk e.symm)]
  have hi1 : (listed.setIfInBounds i true).getD i false = true := by simp [hi]
  have hi0 : listed.getD i false = false := by unfold LL at hf; simpa using hf
  induction n with
  | zero => exact ⟨fun h => by omega, fun _ => rfl⟩
  | succ n ih =>
    unfold unl at *
    simp only [List.range_succ, List.countP_append, List.countP_singleton]
    by_cases h : i = n
    · subst h
      refine ⟨fun _ => ?_, fun h => by omega⟩
      rw [ih.2 (by omega), hi1, hi0]
      simp
    · rw [hne n (fun e => h e.symm)]
      refine ⟨fun hlt => ?_, fun hlt => ?_⟩
      · have := ih.1 (by omega); omega
      · have := ih.2 (by omega); omega
theorem unl_zero : ∀ {n : Nat}, unl listed n = 0 → ∀ k, k < n → LL listed k := by
  intro n h k hk
  unfold unl at h
  rw [List.countP_eq_zero] at h
  have := h k (by simp [hk])
  unfold LL
  simpa using this
theorem ready_nil (hC : Canon P G N call ops n T H v kd obj bef) (hs : listed.size = n) (h : Region.ready .any ops listed = []) : ∀ k, k < n → LL listed k := by
  intro k
  induction k using Nat.strongRecOn with
  | _ k ih =>
    intro hk
    by_cases hl : LL listed k
    · exact hl
    · exfalso
      have hlt : k < ops.size := by rw [hC.size]; exact hk
      have ho : ops[k]? = some ops[k] := by simp [hlt]
      have : k ∈ Region.ready .any ops listed := mem_ready.2 ⟨by
        unfold LL at hl
        have hk2 : k < listed.size := by rw [hs]; exact hk
        simp [hk2] at hl ⊢
        exact hl, ops[k], ho, fun e he hb => by
          have := hC.after_lt k _ ho e he hb
          exact ih e.on this (by omega)⟩
      rw [h] at this
      cases this
theorem ready_none (hl : ∀ k, k < ops.size → LL listed k) : Region.ready .any ops listed = [] := by
  apply List.eq_nil_iff_forall_not_mem.2
  intro k hk
  obtain ⟨h1, o, ho, _⟩ := mem_ready.1 hk
  have hlt : k < ops.size := by
    rcases Nat.lt_or_ge k ops.size with h' | h'
    · exact h'
    · rw [Array.getElem?_eq_none h'] at ho; cases ho
  have := hl k hlt
  unfold LL at this
  simp only [Array.getD_eq_getD_getElem?] at h1 this
  cases hq : listed[k]? with
  | none => rw [hq] at h1; simp at h1
  | some b => rw [hq] at h1 this; simp at h1 this; rw [h1] at this; cases this
theorem DInv.done (hC : Canon P G N call ops n T H v kd obj bef) (h : DInv P G base w0 top N ops n T H v kd obj ms ws d listed a w b m) (hall : ∀ k, k < n → LL listed k) :
    Sub ms m ∧ St P G base w0 top m N (T n) d (H n) a w ∧ Keep G ms (H 0) ws m (H n) w := by
  have h' := h.up_to hC (n - b) (by have := h.bn; omega) (fun j h1 h2 => by
    have hjn : j < n := by have := h.bn; omega
    rcases hC.kinds j hjn with hj | hj | hj
    · exact .inl hj
    · have := (h.effb j hjn hj).1 (hall j hjn); omega
    · exact .inr ⟨hj, hall j hjn⟩)
  rw [show b + (n - b) = n by have := h.bn; omega] at h'
  refine ⟨h'.sub, ⟨{ h'.hr with fresh := fun c h1 h2 => h'.fresh c h1 h2 fun f hf _ _ hbf => by omega }, fun x => ?_, h'.asize, h'.adef⟩, ⟨⟨h'.keep.1, fun r hr hs => ⟨(h'.keep.2 r hr hs).1, (h'.keep.2 r hr hs).2.1⟩⟩, hC.next_le (Nat.zero_le _) (Nat.le_refl _), h'.nums⟩⟩
  by_cases hex : ∃ (k : Nat) (ok : Oper), ops[k]? = some ok ∧ ok.dst = some x
  · obtain ⟨k, ok, hk, hd⟩ := hex
    have hkn : k < n := by
      rcases Nat.lt_or_ge k ops.size with h' | h'
      · rw [← hC.size]; exact h'
      · rw [Array.getElem?_eq_none h'] at hk; cases hk
    rw [hC.T_yes hk hd (Nat.le_refl _) hkn]
    exact h'.tmpsL k ok x (hall k hkn) hk hd
  · rw [hC.T_no x (Nat.le_refl _) fun k o _ ho hd => hex ⟨k, o, ho, hd⟩]
    exact h'.tmps0 x fun k o _ ho hd => hex ⟨k, o, ho, hd⟩
theorem draw_any (hE : Enters P) (hT : AtomOK P) (hC : Canon P G N call ops n T H v kd obj bef) (hCall : ∀ top, CallOK P G base w0 top call) (htop : (H n).next ≤ top) {Q : Exit → Act → World → Prop} (hout : LetsOut Q)
    (hq : ∀ m' a' w', Sub ms m' → St P G base w0 top m' N (T n) d (H n) a' w' → Keep G ms (H 0) ws m' (H n) w' → Q .normal a' w') :
    ∀ (fuel : Nat) (listed : Array Bool) (a : Act) (w : World) (b : Nat) (m : Mp), DInv P G base w0 top N ops n T H v kd obj ms ws d listed a w b m → unl listed n = fuel → wpAny P .any ops Q fuel listed a w := by
  intro fuel
  induction fuel with
  | zero =>
    intro listed a w b m h hu
    have hall := unl_zero hu
    obtain ⟨h1, h2, h3⟩ := h.done hC hall
    exact ⟨ready_none fun k hk => hall k (by rw [← hC.size]; exact hk), hq m a w h1 h2 h3⟩
  | succ fuel ih =>
    intro listed a w b m h hu
    refine ⟨fun hr => ?_, fun i hi => ?_⟩
    · obtain ⟨h1, h2, h3⟩ := h.done hC (ready_nil hC h.lsize hr)
      exact hq m a w h1 h2 h3
    · refine wpOp_mono (fun a' w' ⟨b', m', h'⟩ => ih _ a' w' b' m' h' ?_) (h.step hE hT hC hCall htop hi hout)
      obtain ⟨hgf, o, ho, _⟩ := mem_ready.1 hi
      have hls : i < listed.size := by
        rcases Nat.lt_or_ge i listed.size with h' | h'
        · exact h'
        · simp [Array.getElem?_eq_none h'] at hgf
      have hni : ¬ LL listed i := by
        unfold LL
        simp [hls] at hgf ⊢
        exact hgf
      have := (unl_set hls hni (n := n)).1 (by rw [← h.lsize]; exact hls)
      omega
theorem draw_canon (hM : P.follows .mixedOrders = true) (hE : Enters P) (hT : AtomOK P) (hC : Canon P G N call ops n T H v kd obj bef) (hCall : ∀ top, CallOK P G base w0 top call) (htop : (H n).next ≤ top)
    (hst : St P G base w0 top m N (T 0) d (H 0) a w) (id : Nat) {Q : Exit → Act → World → Prop} (hout : LetsOut Q)
    (hq : ∀ m' a' w', Sub m m' → St P G base w0 top m' N (T n) d (H n) a' w' → Keep G m (H 0) w m' (H n) w' → Q .normal a' w') : (Code.region id ops true).wp P Q a w := by
  obtain ⟨hr, hk⟩ := hst.hr.drew (w' := { w with drawn := w.drawn + 1 }) rfl rfl rfl rfl
  have hrep : ∀ i, ¬ LL (Array.replicate ops.size false) i := by
    intro i h
    unfold LL at h
    simp only [Array.getD_eq_getD_getElem?, Array.getElem?_replicate] at h
    split at h <;> simp at h
  refine wp_region_any hM (draw_any (ms := m) (ws := { w with drawn := w.drawn + 1 }) (d := d) hE hT hC hCall htop hout (fun m' a' w' h1 h2 h3 => hq m' a' w' h1 h2 (hk.trans h3)) ops.size _ a _ 0 m ?_ ?_)
  · exact ⟨by simp [hC.size], fun j o h => absurd h (hrep j), Nat.zero_le _, fun j _ _ => ⟨fun h => absurd h (hrep j), fun h => by omega⟩, fun f h _ => by omega, Sub.refl _, hst.size, hst.defs, fun k o x h => absurd h (hrep k),
      fun x _ => hst.tmps x, hr.top_le (by have := hC.next_le (i := 0) (j := n) (Nat.zero_le _) (Nat.le_refl _); omega), fun c h1 h2 _ => hr.fresh c h1 h2, fun f _ _ h => absurd h (hrep f), fun f g r _ _ h => absurd h (hrep f),
      ⟨Nat.le_refl _, fun r _ hs => ⟨rfl, hs, fun f _ _ h => absurd h (hrep f)⟩⟩, fun c => .inl rfl⟩
  · rw [hC.size]
    unfold unl
    rw [List.countP_eq_length.2 (fun k _ => by
      have := hrep k
      unfold LL at this
      rw [hC.size] at this
      simpa using this)]
    simp
end
end Go.Am
end
