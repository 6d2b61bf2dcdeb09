/- Proved: part 2 of the proof of PackReads (AmS2, AmS3, AmS4, AmS5, AmS6, AmS7). Conditions: each theorem states its own. -/
import Derived.Orders
import Derived.Great.BuildSlice
import Derived.Laws.BytesString
import Derived.Laws.Append
import Derived.Laws.AppendOwn
import Derived.Test.YtpnkifincadakaaGreatDoorP1
set_option linter.unusedVariables false
set_option linter.unusedSimpArgs false
section
namespace Go.Am
open Go.RowKit
def DR (m : Mp) (d d' : Deferred) : Prop :=
  ∃ g y y', d.target = .fn (.func g) y ∧ d'.target = .fn (.func g) y' ∧ AV m y y' ∧ AV m d.args d'.args
theorem DR.mono {m m' : Mp} (h : Sub m m') {d d' : Deferred} (k : DR m d d') : DR m' d d' := by
  obtain ⟨g, y, y', a, b, c, e⟩ := k
  exact ⟨g, y, y', a, b, c.mono h, e.mono h⟩
def OpOK (P : Program) (G base : Nat) (w0 : World) (top : Nat) (m : Mp) (A : Heap) (w : World) (s : Sem Next) : ORes → Prop
  | .no => True
  | .val v A' => A'.next ≤ top → ∃ m' v' w', Sub m m' ∧ (s.run P w = .ok (.value v') w' ∨ (v' = undef ∧ s.run P w = .ok .skip w')) ∧ VR m' v v' ∧ HR P G base w0 top m' A' w' ∧ Keep G m A w m' A' w'
  | .enter f args A' => A' = A ∧ ∃ args', s.run P w = .ok (.enter f args') w ∧ AV m args args'
  | .defer d A' => A' = A ∧ ∃ d', s.run P w = .ok (.defer d') w ∧ DR m d d'
section
variable {P : Program} {G base top : Nat} {w0 : World} {m : Mp} {A : Heap} {w : World}
theorem OpOK.still (h : HR P G base w0 top m A w) {s : Sem Next} {v v' : Value} (hr : s.run P w = .ok (.value v') w) (hv : VR m v v') : OpOK P G base w0 top m A w s (.val v A) :=
  fun _ => ⟨m, v', w, Sub.refl _, .inl hr, hv, h, Keep.refl _ _ _ _⟩
theorem OpOK.valA (h : HR P G base w0 top m A w) {s : Sem Next} {x : Option Value} (hx : ∀ v, x = some v → ∃ v', s.run P w = .ok (.value v') w ∧ VR m v v') : OpOK P G base w0 top m A w s (valA x A) := by
  cases x with
  | none => trivial
  | some v =>
    obtain ⟨v', h1, h2⟩ := hx v rfl
    exact OpOK.still h h1 h2
theorem OpOK.orA (h : HR P G base w0 top m A w) {s : Sem Next} {x : Option Value} (hx : ∀ v, x = some v → ∃ v', s.run P w = .ok (.value v') w ∧ VR m v v') {k : ORes} (hk : OpOK P G base w0 top m A w s k) : OpOK P G base w0 top m A w s (orA x A k) := by
  cases x with
  | none => exact hk
  | some v =>
    obtain ⟨v', h1, h2⟩ := hx v rfl
    exact OpOK.still h h1 h2
theorem run_v {s : Sem Value} {v' : Value} {w w' : World} (h : s.run P w = .ok v' w') : (do pure (Next.value (← s)) : Sem Next).run P w = .ok (.value v') w' := by
  rw [Sem.run_bind, h]
  rfl
theorem run_u {s : Sem Unit} {w w' : World} (h : s.run P w = .ok () w') : (do s; pure Next.skip : Sem Next).run P w = .ok .skip w' := by
  rw [Sem.run_bind, h]
  rfl
theorem OpOK.sr (h : HR P G base w0 top m A w) {s s' : Sem Value} (hs : SR P VR m s s') : OpOK P G base w0 top m A w (do pure (Next.value (← s'))) (runV P G s A) := by
  unfold runV
  cases e : runA P G s A with
  | none => trivial
  | some r =>
    obtain ⟨v, A'⟩ := r
    intro ht
    obtain ⟨m', v', w', h1, h2, h3, h4, h5⟩ := hs.run h e ht
    exact ⟨m', v', w', h1, .inl (run_v h2), h3, h4, h5⟩
theorem OpOK.sru (h : HR P G base w0 top m A w) {s s' : Sem Unit} (hs : SR P EQ m s s') {A' : Heap} (e : runA P G s A = some ((), A')) : OpOK P G base w0 top m A w (do s'; pure Next.skip) (.val undef A') := by
  intro ht
  obtain ⟨m', v', w', h1, h2, h3, h4, h5⟩ := hs.run h e ht
  exact ⟨m', undef, w', h1, .inr ⟨rfl, run_u h2⟩, .tuple rfl (fun i v v' hv => by simp at hv), h4, h5⟩
theorem run_underlying' {t : TypeId} {d : TypeDesc} (h : P.underlying t = some d) (w : World) : (underlying t).run P w = .ok d w := run_underlying h w
theorem run_typeInfo' {t : TypeId} {i : TypeInfo} (h : P.info? t = some i) (w : World) : (typeInfo t).run P w = .ok i w := by
  simp [typeInfo, program, h, Sem.run_bind, Sem.run]
theorem run_sizeOf' (t : TypeId) (h : P.cellsOf t ≠ 0) (w : World) : (sizeOf t).run P w = .ok (P.cellsOf t) w := by
  unfold Program.cellsOf at h ⊢
  cases hi : P.info? t with
  | none => simp [hi] at h
  | some i => simp [sizeOf, Sem.run_bind, run_typeInfo' hi]
theorem run_sizeOf_info {t : TypeId} {i : TypeInfo} (h : P.info? t = some i) (w : World) : (sizeOf t).run P w = .ok i.size w := by
  simp [sizeOf, Sem.run_bind, run_typeInfo' h]
theorem nat_blt {a b : Nat} (h : Nat.blt a b = true) : a < b := blt_true h
theorem i64Of_is {v : Value} {n : Nat} (h : i64Of v = some n) : v = .int .i64 (n : Int) := by
  unfold i64Of at h
  split at h
  · split at h
    · unfold natOf at h
      split at h
      · cases h; rfl
      · cases h
    · cases h
  · cases h
theorem wrap_i64 (n : Nat) (h : n < 9223372036854775808) : IntKind.wrap .i64 (n : Int) = n := by
  have h1 : ((n : Int) % (2 ^ 64 : Int)) = n := by omega
  simp only [IntKind.wrap, IntKind.bits, IntKind.signed, h1]
  have h2 : ¬ ((n : Int) ≥ (2 ^ 63 : Int)) := by omega
  simp [h2]
  omega
theorem blt_int (a b : Nat) : decide ((a : Int) < (b : Int)) = Nat.blt a b := by
  rw [Bool.eq_iff_iff]
  simp only [decide_eq_true_eq]
  exact ⟨fun h => Nat.ble_eq_true_of_le (by omega), fun h => by have := blt_true h; omega⟩
theorem ble_int (a b : Nat) : decide ((a : Int) ≤ (b : Int)) = Nat.ble a b := by
  rw [Bool.eq_iff_iff]
  simp only [decide_eq_true_eq]
  exact ⟨fun h => Nat.ble_eq_true_of_le (by omega), fun h => by have := ble_true h; omega⟩
theorem beq_int (a b : Nat) : ((a : Int) == (b : Int)) = Nat.beq a b := by
  rw [Bool.eq_iff_iff]
  simp only [beq_iff_eq, Nat.beq_eq]
  omega
theorem binFast_run {op : BinOp} {ty : TypeId} {xo yo : Operand} {x y v : Value} (h : binFast op x y = some v) (w : World) :
    (do eqGuard op ty xo yo x y; Go.binOp op ty x y : Sem Value).run P w = .ok v w ∧ ∀ m, VR m v v ∧ x = x := by
  unfold binFast at h
  split at h
  · rename_i a ha
    split at h
    · rename_i b hb
      have ex := i64Of_is ha
      have ey := i64Of_is hb
      subst ex
      subst ey
      have hg : ∀ op, (eqGuard op ty xo yo (.int .i64 (a : Int)) (.int .i64 (b : Int))).run P w = .ok () w := by
        intro op; cases op <;> simp [eqGuard, Sem.run_bind, Sem.run]
      rw [show (do eqGuard op ty xo yo (.int .i64 (a : Int)) (.int .i64 (b : Int)); Go.binOp op ty (.int .i64 (a : Int)) (.int .i64 (b : Int)) : Sem Value).run P w = (Go.binOp op ty (.int .i64 (a : Int)) (.int .i64 (b : Int))).run P w by
        rw [Sem.run_bind, hg]; rfl]
      unfold binNat at h
      split at h <;> (try split at h) <;> first | cases h | skip
      · rename_i e
        have := wrap_i64 (a + b) (nat_blt e)
        refine ⟨?_, fun m => ⟨.int _ _, rfl⟩⟩
        simp only [Go.binOp, ne_eq, not_true_eq_false, if_false, Op.intArith]
        rw [show ((a : Int) + (b : Int)) = ((a + b : Nat) : Int) by omega, this]
        rfl
      · rename_i e1 e2
        have h1 := ble_true e1
        have := wrap_i64 (a - b) (by have := nat_blt e2; omega)
        refine ⟨?_, fun m => ⟨.int _ _, rfl⟩⟩
        simp only [Go.binOp, ne_eq, not_true_eq_false, if_false, Op.intArith]
        rw [show ((a : Int) - (b : Int)) = ((a - b : Nat) : Int) by omega, this]
        rfl
      all_goals
        refine ⟨?_, fun m => ⟨.bool _, rfl⟩⟩
        simp only [Go.binOp, ne_eq, not_true_eq_false, if_false, Op.intCmp, gt_iff_lt, ge_iff_le, blt_int, ble_int, beq_int, bne]
        rfl
    · cases h
  · cases h
end
end Go.Am
end
section
namespace Go.Am
open Go.RowKit
section
variable {P : Program} {G base top : Nat} {w0 : World} {m : Mp} {A : Heap} {w : World}
theorem fieldFast_run {s : TypeId} {i : Nat} {v v' x : Value} (h : fieldFast P s v i = some x) (hv : VR m v v') (w : World) : ∃ x', (Instr.fieldAt s v' i).run P w = .ok x' w ∧ VR m x x' := by
  unfold fieldFast at h
  split at h
  · rename_i a
    cases hv with
    | ptr e =>
      rename_i a'
      split at h
      · rename_i fs hu
        split at h
        · rename_i f hf
          split at h
          · rename_i h0
            cases h
            have h0 : P.cellsOf f.type ≠ 0 := fun e => by rw [e] at h0; cases h0
            refine ⟨.pointer (some (a'.add f.offset)), ?_, .ptr (e.add _)⟩
            simp [Instr.fieldAt, Sem.run_bind, run_underlying' hu, hf, Instr.sureAddr, fieldPlace, run_sizeOf' _ h0, h0]
          · cases h
        · cases h
      · cases h
  · cases h
theorem indexFast_run {t : TypeId} {v v' i i' x : Value} (h : indexFast P t v i = some x) (hv : VR m v v') (hi : VR m i i') (w : World) : ∃ x', (Instr.indexAt t v' i').run P w = .ok x' w ∧ VR m x x' := by
  unfold indexFast at h
  split at h
  · rename_i k n
    cases hi
    split at h
    · rename_i e a l c hu
      split at h
      · rename_i hl
        have hl := blt_true hl
        have key : ∀ a' c', AR m a a' → ∃ x', (Instr.indexAt t (.slice (some a') l c') (.int k (Int.ofNat n))).run P w = .ok x' w ∧ VR m x x' := by
          intro a' c' ha
          unfold atElem at h
          split at h
          · rename_i inf hin
            cases h
            refine ⟨.pointer (some (a'.add (n * inf.size))), ?_, .ptr (ha.add _)⟩
            have hb : (0 : Int) ≤ (n : Int) ∧ (n : Int) < (l : Int) := by omega
            simp [Instr.indexAt, asIntOf, Sem.run_bind, run_underlying' hu, hb, run_sizeOf_info hin]
            exact fun hh => absurd hh (by omega)
          · cases h
        cases hv with
        | slice l c ha => exact key _ _ ha
        | sliceUp l c ha hd => exact key _ _ ha
        | sliceEnd c hd => omega
      · cases h
    · rename_i l e a hu
      split at h
      · rename_i hl
        have hl := blt_true hl
        cases hv with
        | ptr ha =>
          rename_i a'
          unfold atElem at h
          split at h
          · rename_i inf hin
            cases h
            refine ⟨.pointer (some (a'.add (n * inf.size))), ?_, .ptr (ha.add _)⟩
            have hb : (0 : Int) ≤ (n : Int) ∧ (n : Int) < (l : Int) := by omega
            simp [Instr.indexAt, asIntOf, Sem.run_bind, run_underlying' hu, hb, run_sizeOf_info hin, Instr.sureAddr]
            exact fun hh => absurd hh (by omega)
          · cases h
      · cases h
    · cases h
  · cases h
theorem nilFast_run {v v' x : Value} (h : nilFast v = some x) (hv : VR m v v') (o : Oper) (xo : Operand) (ho : o.op = .nilCheck xo) (ρ : Operand → Value) (hρ : ρ xo = v') (w : World) :
    ∃ x', (execOp ρ o).run P w = .ok (.value x') w ∧ VR m x x' := by
  unfold nilFast at h
  simp only [execOp, ho, hρ]
  split at h
  · cases h
    cases hv with
    | ptr e => exact ⟨_, rfl, .ptr e⟩
  · cases h
    refine ⟨v', ?_, hv⟩
    cases hv <;> rfl
  · cases h
    refine ⟨v', ?_, hv⟩
    cases hv with
    | func hf hx ex hy ey =>
      rename_i f' x' y'
      cases f' <;> first | rfl | (simp [FR] at hf)
  · cases h
theorem lenFast_run {ty : TypeId} {v v' x : Value} (h : lenFast P ty v = some x) (hv : VR m v v') (tys : Array TypeId) (args : Array Value) (ht : tys[0]? = some ty) (ha : args[0]? = some v') (tt : TypeId) (w : World) :
    ∃ x', (Builtin.len_ tys tt args).run P w = .ok x' w ∧ VR m x x' := by
  unfold lenFast at h
  split at h
  · rename_i e a l c hu
    cases h
    refine ⟨.int .i64 (l : Int), ?_, .int _ _⟩
    cases hv <;> simp [Builtin.len_, ht, ha, Sem.run_bind, run_underlying' hu, goInt]
  · cases h
def Enters (P : Program) : Prop := ∀ f fn c, P.funcs[f]? = some fn → fn.body = some c → ∀ args w, (callFunc f args).run P w = .ok (.enter f args) w
theorem enterFast_run (hE : Enters P) {v v' : Value} {args args' : Array Value} {n : Next} (h : enterFast P v args = some n) (hv : VR m v v') (ha : AV m args args') (w : World) :
    ∃ f xs xs', n = .enter f xs ∧ (do let d ← Deferred.ofValue v' args'; invoke d.target d.args : Sem Next).run P w = .ok (.enter f xs') w ∧ AV m xs xs' := by
  unfold enterFast at h
  split at h
  · rename_i f x y
    split at h
    · rename_i fn hf
      split at h
      · rename_i c hb
        cases h
        cases hv with
        | func hfr hx ex hy ey =>
          rename_i f' x' y'
          have : f' = .func f := by cases f' <;> simp [FR] at hfr ⊢; exact hfr.symm
          subst this
          refine ⟨f, _, x' ++ args' ++ y', rfl, ?_, (AV.append ⟨hx, ex⟩ ha).append ⟨hy, ey⟩⟩
          simp only [Deferred.ofValue, Sem.run_bind]
          exact hE f fn c hf hb _ w
      · cases h
    · cases h
  · cases h
end
end Go.Am
end
section
namespace Go.Am
open Go.RowKit
section
variable {P : Program} {G base top : Nat} {w0 : World} {m : Mp} {A : Heap} {w : World}
theorem runP_run {α : Type} (s : Sem α) : ∀ {a : α}, runP P s = some a → ∀ w, s.run P w = .ok a w := by
  induction s with
  | pure a => intro b h w; cases h; rfl
  | program k ih => intro b h w; simp only [runP] at h; simp only [Sem.run]; exact ih _ h w
  | mark x k ih => intro b h w; simp only [runP] at h; simp only [Sem.run]; exact ih h w
  | _ => intro b h w; simp [runP] at h
theorem plainAll_spec {t : Tmps} {ρ : Operand → Value} : ∀ {l : List Operand}, plainAll t l = true → (∀ x ∈ l, VR m (evalA t x) (ρ x)) → ∀ x ∈ l, ρ x = evalA t x := by
  intro l
  induction l with
  | nil => intro _ _ x hx; simp at hx
  | cons y l ih =>
    intro h hv x hx
    simp only [plainAll] at h
    split at h
    · rename_i hp
      cases hx with
      | head => exact plain_eq 60 hp (hv _ (by simp))
      | tail _ hx => exact ih h (fun z hz => hv z (by simp [hz])) x hx
    · cases h
theorem plain_path {t : Tmps} {ρ : Operand → Value} {o : Oper} (hs : ∀ cs b, o.op ≠ .select cs b) (hp : plainAll t o.op.operands.toList = true) (hv : ∀ x ∈ o.op.operands, VR m (evalA t x) (ρ x)) {v : Value}
    (hr : runP P (execOp (evalA t) o) = some (.value v)) (w : World) : (execOp ρ o).run P w = .ok (.value v) w := by
  have := plainAll_spec hp (fun x hx => hv x (by simpa using hx))
  rw [execOp_congr o hs (fun x hx => this x (by simpa using hx))]
  exact runP_run _ hr w
theorem LR.len {l l' : List Value} (h : LR m l l') : l.length = l'.length := by
  induction h with
  | nil => rfl
  | cons _ _ ih => simp [ih]
inductive PR (m : Mp) : List (Nat × Value) → List (Nat × Value) → Prop
  | nil : PR m [] []
  | cons {i : Nat} {v v' : Value} {l l' : List (Nat × Value)} (h : VR m v v') (r : PR m l l') : PR m ((i, v) :: l) ((i, v') :: l')
theorem pr_map (ρ ρ' : Operand → Value) : ∀ (l : List (Nat × Operand)), (∀ x ∈ l, VR m (ρ x.2) (ρ' x.2)) → PR m (l.map fun (i, x) => (i, ρ x)) (l.map fun (i, x) => (i, ρ' x))
  | [], _ => .nil
  | (i, x) :: l, h => .cons (h (i, x) (by simp)) (pr_map ρ ρ' l fun y hy => h y (by simp [hy]))
theorem fold_set {x x' : Array Value} (off : Nat) : ∀ (l l' : List Value) (k : Nat) (y y' : Array Value), LR m l l' → AV m y y' →
    AV m ((l.zipIdx k).foldl (fun cs (c, j) => cs.setIfInBounds (off + j) c) y) ((l'.zipIdx k).foldl (fun cs (c, j) => cs.setIfInBounds (off + j) c) y') := by
  intro l l' k y y' h hy
  induction h generalizing k y y' with
  | nil => exact hy
  | cons hv hr ih => exact ih (k + 1) _ _ (hy.set _ hv)
theorem fill_rel (place : Nat → Option (Nat × Nat)) {l l' : List (Nat × Value)} (h : PR m l l') : ∀ {x x' r : Array Value}, AV m x x' → Instr.fill place x l = some r → ∃ r', Instr.fill place x' l' = some r' ∧ AV m r r' := by
  induction h with
  | nil => intro x x' r hx h; cases h; exact ⟨x', rfl, hx⟩
  | cons hv hr ih =>
    rename_i i v v' l l'
    intro x x' r hx h
    simp only [Instr.fill] at h ⊢
    split at h
    · cases h
    · rename_i off size hp
      have hc := hv.cells
      split at h
      · cases h
      · rename_i hn
        rw [if_neg (by rw [← hc.1, ← hx.1]; exact hn)]
        refine ih ?_ h
        have hz : ∀ (y : Array Value), y.zipIdx.foldl (fun cs (c, j) => cs.setIfInBounds (off + j) c) x = (y.toList.zipIdx 0).foldl (fun cs (c, j) => cs.setIfInBounds (off + j) c) x := by
          intro y; rw [← Array.foldl_toList, Array.toList_zipIdx]
        have hz' : ∀ (y : Array Value), y.zipIdx.foldl (fun cs (c, j) => cs.setIfInBounds (off + j) c) x' = (y.toList.zipIdx 0).foldl (fun cs (c, j) => cs.setIfInBounds (off + j) c) x' := by
          intro y; rw [← Array.foldl_toList, Array.toList_zipIdx]
        rw [hz, hz']
        exact fold_set (x := x) (x' := x') off _ _ 0 _ _ hc.list hx
theorem zero_cells {t : TypeId} {i : TypeInfo} {z : Value} (hz : zeroOk P t = true) (hi : P.info? t = some i) (h : i.zero = some z) : AV m z.cells z.cells := by
  have : VR m z z := plain_self 3000 (by simpa [zeroOk, hi, h] using hz)
  exact this.cells
theorem built_rel {ty : TypeId} {l l' : List (Nat × Value)} (hz : zeroOk P ty = true) (h : PR m l l') {r : Array Value} (hb : P.built ty l = some r) : ∃ r', P.built ty l' = some r' ∧ AV m r r' := by
  unfold Program.built at hb ⊢
  cases hi : P.info? ty with
  | none => simp [hi] at hb
  | some it =>
    cases hu : P.underlying ty with
    | none => simp [hi, hu] at hb
    | some d =>
      cases hzz : it.zero with
      | none => cases d <;> simp [hi, hu, hzz] at hb
      | some z =>
        cases d <;> try (simp [hi, hu] at hb; done)
        case array n e =>
          cases hie : P.info? e with
          | none => simp [hi, hu, hzz, hie] at hb
          | some ie =>
            simp only [hi, hu, hzz, hie] at hb ⊢
            exact fill_rel _ h (zero_cells hz hi hzz) hb
        case struct fields =>
          cases hp : fields.toList.mapM (fun f => (P.info? f.type).map fun i => (f.offset, i.size)) with
          | none => simp [hi, hu, hzz, hp] at hb
          | some places =>
            simp only [hi, hu, hzz, hp] at hb ⊢
            exact fill_rel _ h (zero_cells hz hi hzz) hb
theorem buildA_ok (h : HR P G base w0 top m A w) {ty : TypeId} {parts parts' : Array (Nat × Value)} (hp : PR m parts.toList parts'.toList) :
    OpOK P G base w0 top m A w (do pure (Next.value (← Instr.build ty parts'))) (buildA P ty parts.toList A) := by
  unfold buildA
  split
  · rename_i hz
    split
    · rename_i cells hb
      obtain ⟨r', hb', hv⟩ := built_rel hz hp hb
      exact OpOK.still h (run_v (run_build w ty parts' r' hb')) (.agg hv.1 hv.2)
    · trivial
  · trivial
theorem OpOK.made (h : HR P G base w0 top m A w) {s : Sem Next} {c c' : Array Value} {e : TypeId} {l k : Nat} (hv : AV m c c')
    (hr : s.run P w = .ok (.value (.slice (some ⟨w.heap.size, 0, none⟩) l k)) (w.alloc (.cells c' e))) :
    OpOK P G base w0 top m A w s (.val (.slice (some ⟨A.next, 0, none⟩) l (3 * k)) (hpush A (some (ofObj (.cells c e))))) := by
  intro ht
  have hlt : A.next < top := by simp only [hpush] at ht; omega
  obtain ⟨hsub, hadd, hkeep⟩ := h.add hlt (AOR.row (e := e) hv) (w' := w.alloc (.cells c' e)) rfl rfl rfl rfl
  exact ⟨_, _, _, hsub, .inl hr, .slice l k ⟨⟨0, by simp [ext]⟩, rfl, rfl⟩, hadd, hkeep⟩
theorem map_zero {z : Array Value} (h : AV m z z) (n : Nat) : AV m ((Array.range n).map (z[· % z.size]!)) ((Array.range n).map (z[· % z.size]!)) := by
  refine ⟨rfl, fun i v v' hv hv' => ?_⟩
  rw [hv] at hv'
  cases hv'
  simp only [Array.getElem?_map, Option.map_eq_some_iff] at hv
  obtain ⟨k, hk, e⟩ := hv
  by_cases hz : k % z.size < z.size
  · rw [← e]
    rw [getElem!_pos z _ hz]
    exact h.2 (k % z.size) _ _ (by simp [hz]) (by simp [hz])
  · rw [← e, getElem!_neg z _ hz]
    exact .bool false
theorem rowA_ok (h : HR P G base w0 top m A w) {ty : TypeId} {len : Nat} {parts parts' : Array (Nat × Value)} (hp : PR m parts.toList parts'.toList) :
    OpOK P G base w0 top m A w (do pure (Next.value (← Instr.buildSlice ty len parts'))) (rowA P ty len parts.toList A) := by
  unfold rowA
  split
  · rename_i e hu
    split
    · rename_i ie hi
      split
      · rename_i z hz hzz
        split
        · rename_i h1 h2
          split
          · rename_i cells hf
            obtain ⟨r', hf', hv⟩ := fill_rel _ hp (map_zero (zero_cells hz hi hzz) _) hf
            have h1 := ble_true h1
            have h2 : len * ie.size ≠ 0 := fun e => by rw [e] at h2; cases h2
            exact OpOK.made h hv (run_v (run_buildSlice w ty e len parts' r' ie z hu hi hzz (by omega) h2 hf'))
          · trivial
        · rename_i h1 h2
          split
          · rename_i hnil
            have h2 : len * ie.size = 0 := Nat.eq_of_beq_eq_true h2
            have hp' : parts'.toList = [] := by
              generalize parts'.toList = l' at hp
              rw [hnil] at hp
              cases hp
              rfl
            refine OpOK.made (c := #[]) (c' := #[]) h (.empty m) (run_v ?_)
            simp [Instr.buildSlice, run_underlying hu, sizeOf, typeInfo, hi, h2, hp', Instr.fill, newRow, Array.range_zero']
          · trivial
        · trivial
      · trivial
    · trivial
  · trivial
theorem makeA_ok (h : HR P G base w0 top m A w) {ty : TypeId} {l l' c c' : Value} (hl : VR m l l') (hc : VR m c c') :
    OpOK P G base w0 top m A w (do pure (Next.value (← Instr.makeSlice ty l' c'))) (makeA P ty l c A) := by
  unfold makeA
  split
  · rename_i kl ln kc cn
    cases hl
    cases hc
    split
    · rename_i e hu
      split
      · rename_i ie hi
        split
        · rename_i z hz hzz
          split
          · rename_i h1 h2 h3
            have h1 := ble_true h1
            have h2 := ble_true h2
            have h3 := ble_true h3
            refine OpOK.made h (map_zero (zero_cells hz hi hzz) _) (run_v ?_)
            have hb : ((ie.bytes : Int) * (cn : Int)) ≤ 281474976710656 := by
              have h : ((ie.bytes * cn : Nat) : Int) ≤ 281474976710656 := by omega
              rwa [Int.natCast_mul] at h
            have := run_make (P := P) w ty e ie z hu hi hzz kl kc (ln : Int) (cn : Int) (by omega) (by omega) hb (by omega)
            simpa [madeCells] using this
          · trivial
        · trivial
      · trivial
    · trivial
  · trivial
end
end Go.Am
end
section
namespace Go.Am
open Go.RowKit
section
variable {P : Program} {G base top : Nat} {w0 : World} {m : Mp} {A : Heap} {w : World}
theorem eq_ptr (n : Nat) {t e : TypeId} (hu : P.underlying t = some (.pointer e)) (a b : Option Addr) (h : a = none ∨ b = none) (w : World) : (Op.equalIn (n + 1) t (.pointer a) (.pointer b)).run P w = .ok (a.isNone && b.isNone) w := by
  cases a <;> cases b <;> simp_all [Op.equalIn, Sem.run_bind, run_underlying' hu]
theorem eq_slice (n : Nat) {t e : TypeId} (hu : P.underlying t = some (.slice e)) (a b : Option Addr) (l c l' c' : Nat) (h : a = none ∨ b = none) (w : World) : (Op.equalIn (n + 1) t (.slice a l c) (.slice b l' c')).run P w = .ok (a.isNone && b.isNone) w := by
  cases a <;> cases b <;> simp_all [Op.equalIn, Sem.run_bind, run_underlying' hu]
theorem eq_map (n : Nat) {t k e : TypeId} (hu : P.underlying t = some (.map k e)) (a b : Option Nat) (h : a = none ∨ b = none) (w : World) : (Op.equalIn (n + 1) t (.map a) (.map b)).run P w = .ok (a.isNone && b.isNone) w := by
  cases a <;> cases b <;> simp_all [Op.equalIn, Sem.run_bind, run_underlying' hu]
theorem eq_func1 (n : Nat) {t : TypeId} {ps rs : Array TypeId} {v : Bool} (hu : P.underlying t = some (.func ps rs v)) (f : Fn) (x y : Array Value) (w : World) : (Op.equalIn (n + 1) t .nilFunc (.func f x y)).run P w = .ok false w := by
  simp [Op.equalIn, Sem.run_bind, run_underlying' hu]
theorem eq_func2 (n : Nat) {t : TypeId} {ps rs : Array TypeId} {v : Bool} (hu : P.underlying t = some (.func ps rs v)) (f : Fn) (x y : Array Value) (w : World) : (Op.equalIn (n + 1) t (.func f x y) .nilFunc).run P w = .ok false w := by
  simp [Op.equalIn, Sem.run_bind, run_underlying' hu]
theorem eq_iface1 (n : Nat) {t : TypeId} {ms : Array (String × TypeId)} (hu : P.underlying t = some (.interface ms)) (u : TypeId) (v : Value) (w : World) : (Op.equalIn (n + 1) t .nilIface (.iface u v)).run P w = .ok false w := by
  simp [Op.equalIn, Sem.run_bind, run_underlying' hu]
theorem eq_iface2 (n : Nat) {t : TypeId} {ms : Array (String × TypeId)} (hu : P.underlying t = some (.interface ms)) (u : TypeId) (v : Value) (w : World) : (Op.equalIn (n + 1) t (.iface u v) .nilIface).run P w = .ok false w := by
  simp [Op.equalIn, Sem.run_bind, run_underlying' hu]
theorem et_ptr {t : TypeId} {a : Option Addr} (h : eqType P t (.pointer a) = true) : ∃ e, P.underlying t = some (.pointer e) := by
  unfold eqType at h; split at h <;> first | (rename_i hu hv; cases hv; exact ⟨_, hu⟩) | (rename_i hu; exact ⟨_, hu⟩) | (rename_i hv; cases hv; done) | (cases h; done)
theorem et_slice {t : TypeId} {a : Option Addr} {l c : Nat} (h : eqType P t (.slice a l c) = true) : ∃ e, P.underlying t = some (.slice e) := by
  unfold eqType at h; split at h <;> first | (rename_i hu hv; cases hv; exact ⟨_, hu⟩) | (rename_i hu; exact ⟨_, hu⟩) | (rename_i hv; cases hv; done) | (cases h; done)
theorem et_map {t : TypeId} {a : Option Nat} (h : eqType P t (.map a) = true) : ∃ k e, P.underlying t = some (.map k e) := by
  unfold eqType at h; split at h <;> first | (rename_i hu hv; cases hv; exact ⟨_, _, hu⟩) | (rename_i hu; exact ⟨_, _, hu⟩) | (rename_i hv; cases hv; done) | (cases h; done)
theorem et_func1 {t : TypeId} (h : eqType P t .nilFunc = true) : ∃ a b c, P.underlying t = some (.func a b c) := by
  unfold eqType at h; split at h <;> first | (rename_i hu hv; cases hv; exact ⟨_, _, _, hu⟩) | (rename_i hu; exact ⟨_, _, _, hu⟩) | (rename_i hv; cases hv; done) | (cases h; done)
theorem et_func2 {t : TypeId} {f : Fn} {x y : Array Value} (h : eqType P t (.func f x y) = true) : ∃ a b c, P.underlying t = some (.func a b c) := by
  unfold eqType at h; split at h <;> first | (rename_i hu hv; cases hv; exact ⟨_, _, _, hu⟩) | (rename_i hu; exact ⟨_, _, _, hu⟩) | (rename_i hv; cases hv; done) | (cases h; done)
theorem et_iface1 {t : TypeId} (h : eqType P t .nilIface = true) : ∃ a, P.underlying t = some (.interface a) := by
  unfold eqType at h; split at h <;> first | (rename_i hu hv; cases hv; exact ⟨_, hu⟩) | (rename_i hu; exact ⟨_, hu⟩) | (rename_i hv; cases hv; done) | (cases h; done)
theorem et_iface2 {t u : TypeId} {v : Value} (h : eqType P t (.iface u v) = true) : ∃ a, P.underlying t = some (.interface a) := by
  unfold eqType at h; split at h <;> first | (rename_i hu hv; cases hv; exact ⟨_, hu⟩) | (rename_i hu; exact ⟨_, hu⟩) | (rename_i hv; cases hv; done) | (cases h; done)
theorem equalIn_nil (n : Nat) {t : TypeId} {x y x' y' : Value} {b : Bool} (ht : eqType P t x = true) (h : eqA x y = some b) (hx : VR m x x') (hy : VR m y y') (w : World) : (Op.equalIn (n + 1) t x' y').run P w = .ok b w := by
  unfold eqA at h
  split at h <;> first | (cases h; done) | skip
  · cases h; obtain ⟨e, hu⟩ := et_ptr ht; cases hx; cases hy; exact eq_ptr n hu _ _ (.inl rfl) w
  · cases h; obtain ⟨e, hu⟩ := et_ptr ht; cases hx; cases hy; exact eq_ptr n hu _ _ (.inl rfl) w
  · cases h; obtain ⟨e, hu⟩ := et_ptr ht; cases hx; cases hy; exact eq_ptr n hu _ _ (.inr rfl) w
  · cases h; obtain ⟨e, hu⟩ := et_slice ht; cases hx; cases hy; exact eq_slice n hu _ _ _ _ _ _ (.inl rfl) w
  · cases h; obtain ⟨e, hu⟩ := et_slice ht; cases hx; cases hy <;> exact eq_slice n hu _ _ _ _ _ _ (.inl rfl) w
  · cases h; obtain ⟨e, hu⟩ := et_slice ht; cases hy; cases hx <;> exact eq_slice n hu _ _ _ _ _ _ (.inr rfl) w
  · cases h; obtain ⟨k, e, hu⟩ := et_map ht; cases hx; cases hy; exact eq_map n hu _ _ (.inl rfl) w
  · cases h; obtain ⟨k, e, hu⟩ := et_map ht; cases hx; cases hy; exact eq_map n hu _ _ (.inr rfl) w
  · cases h; obtain ⟨_, _, _, hu⟩ := et_func1 ht; cases hx; cases hy; exact eq_func1 n hu _ _ _ w
  · cases h; obtain ⟨_, _, _, hu⟩ := et_func2 ht; cases hx; cases hy; exact eq_func2 n hu _ _ _ w
  · cases h; obtain ⟨_, hu⟩ := et_iface1 ht; cases hx; cases hy; exact eq_iface1 n hu _ _ w
  · cases h; obtain ⟨_, hu⟩ := et_iface2 ht; cases hx; cases hy; exact eq_iface2 n hu _ _ w
theorem equal_nil {t : TypeId} {x y x' y' : Value} {b : Bool} (ht : eqType P t x = true) (h : eqA x y = some b) (hx : VR m x x') (hy : VR m y y') (w : World) : (Op.equal t x' y').run P w = .ok b w :=
  equalIn_nil 9999 ht h hx hy w
theorem addr_eq {a b a' b' : Addr} (ha : AR m a a') (hb : AR m b b') (h : a.block = b.block) : (a' == b') = (a == b) ∧ a'.block = b'.block := by
  obtain ⟨⟨d, h1⟩, h2, h3⟩ := ha
  obtain ⟨⟨d', k1⟩, k2, k3⟩ := hb
  rw [h, k1] at h1
  simp only [Option.some.injEq, Prod.mk.injEq] at h1
  have hblk : a'.block = b'.block := h1.1.symm
  refine ⟨?_, hblk⟩
  obtain ⟨ab, ao, as⟩ := a
  obtain ⟨bb, bo, bs⟩ := b
  obtain ⟨ab', ao', as'⟩ := a'
  obtain ⟨bb', bo', bs'⟩ := b'
  simp only at h h2 h3 k2 k3 hblk
  subst h2 h3 k2 k3 h hblk
  rw [Bool.eq_iff_iff]
  simp
theorem equalIn_same (n : Nat) {t : TypeId} {x y x' y' : Value} {b : Bool} (h : sameA P t x y = some b) (hx : VR m x x') (hy : VR m y y') (w : World) : (Op.equalIn (n + 1) t x' y').run P w = .ok b w := by
  unfold sameA at h
  split at h
  · rename_i e a b' hu
    split at h
    · rename_i h1 h2
      cases h
      have h1 : a.block = b'.block := Nat.eq_of_beq_eq_true h1
      have h2 : P.cellsOf e ≠ 0 := fun e => by rw [e] at h2; cases h2
      cases hx with
      | ptr ha =>
        cases hy with
        | ptr hb =>
          obtain ⟨e1, e2⟩ := addr_eq ha hb h1
          simp [Op.equalIn, Sem.run_bind, run_underlying' hu, run_sizeOf' _ h2, h2, sameAddr, e2, e1]
    · cases h
  · cases h
theorem equal_same {t : TypeId} {x y x' y' : Value} {b : Bool} (h : sameA P t x y = some b) (hx : VR m x x') (hy : VR m y y') (w : World) : (Op.equal t x' y').run P w = .ok b w :=
  equalIn_same 9999 h hx hy w
theorem eqB_run {t : TypeId} {x y x' y' : Value} {b : Bool} (h : eqB P t x y = some b) (hx : VR m x x') (hy : VR m y y') (w : World) : (Op.equal t x' y').run P w = .ok b w := by
  unfold eqB at h
  split at h
  · rename_i b' h1 h2
    cases h
    exact equal_nil h1 h2 hx hy w
  · exact equal_same h hx hy w
theorem eqB_guard {t : TypeId} {x y x' y' : Value} {b : Bool} (h : eqB P t x y = some b) (hx : VR m x x') (hy : VR m y y') (op : BinOp) (xo yo : Operand) (w : World) :
    (eqGuard op t xo yo x' y').run P w = .ok () w ∧ (Go.binOp .eql t x' y' = do pure (.bool (← Op.equal t x' y'))) ∧ (Go.binOp .neq t x' y' = do pure (.bool (!(← Op.equal t x' y')))) := by
  have hk : (∃ b, eqA x y = some b) ∨ (∃ a b, x = .pointer (some a) ∧ y = .pointer (some b)) := by
    unfold eqB at h
    split at h
    · rename_i b' h1 h2; exact .inl ⟨_, h2⟩
    · unfold sameA at h
      split at h
      · exact .inr ⟨_, _, rfl, rfl⟩
      · cases h
  rcases hk with ⟨c, hc⟩ | ⟨a, b, rfl, rfl⟩
  · unfold eqA at hc
    split at hc <;> first | (cases hc; done) | skip
    all_goals (cases hx <;> cases hy <;> exact ⟨by cases op <;> rfl, rfl, rfl⟩)
  · cases hx
    cases hy
    exact ⟨by cases op <;> rfl, rfl, rfl⟩
theorem binA_ok (h : HR P G base w0 top m A w) {op : BinOp} {t : TypeId} {x y x' y' : Value} {xo yo : Operand} (hx : VR m x x') (hy : VR m y y') :
    OpOK P G base w0 top m A w (do pure (Next.value (← (do eqGuard op t xo yo x' y'; Go.binOp op t x' y')))) (binA P op t x y A) := by
  unfold binA
  split
  · split
    · rename_i b hb
      obtain ⟨h1, h2, h3⟩ := eqB_guard hb hx hy .eql xo yo w
      refine OpOK.still h (run_v (v' := .bool b) ?_) (.bool b)
      rw [Sem.run_bind, h1, h2]
      simp [Sem.run_bind, eqB_run hb hx hy w]
    · trivial
  · split
    · rename_i b hb
      obtain ⟨h1, h2, h3⟩ := eqB_guard hb hx hy .neq xo yo w
      refine OpOK.still h (run_v (v' := .bool (not b)) ?_) (.bool _)
      rw [Sem.run_bind, h1, h3]
      simp [Sem.run_bind, eqB_run hb hx hy w]
    · trivial
  · trivial
inductive OV (m : Mp) : Option Value → Option Value → Prop
  | none : OV m none none
  | some {v v' : Value} (h : VR m v v') : OV m (some v) (some v')
theorem natV_some {v v' : Value} {z n : Nat} (h : natV (some v) z = some n) (hv : VR m v v') : ∃ k, v' = .int k (n : Int) := by
  unfold natV at h
  simp only at h
  split at h
  · cases h; cases hv; exact ⟨_, rfl⟩
  · cases h
theorem sliceBound_run {v' : Value} {k : IntKind} {n y : Nat} (e : v' = .int k (n : Int)) (h : n ≤ y) (code : BoundsCode) (w : World) : (Instr.sliceBound v' y code).run P w = .ok n w := by
  subst e
  have hb : (0 : Int) ≤ (n : Int) ∧ (n : Int) ≤ (y : Int) := by omega
  simp [Instr.sliceBound, asIntOf, Sem.run_bind, hb]
theorem bounds3_run {l c c' i j k : Nat} {lo hi mx lo' hi' mx' : Option Value} (h : bounds3 l c lo hi mx = some (i, j, k)) (hlo : OV m lo lo') (hhi : OV m hi hi') (hmx : OV m mx mx') (hc : c ≤ c') (hx : mx = none ∨ c = c') (b : Bool) (w : World) :
    ∃ k', (Instr.sliceBounds b l c' lo' hi' mx').run P w = .ok (i, j, k') w ∧ i ≤ j ∧ j ≤ k ∧ k ≤ c ∧ (mx = none → k' = c' ∧ k = c) ∧ (c = c' → k' = k) := by
  unfold bounds3 at h
  split at h
  · rename_i i0 j0 k0 hi0 hj0 hk0
    split at h
    · rename_i h1 h2 h3
      have h1 := ble_true h1
      have h2 := ble_true h2
      have h3 := ble_true h3
      split at h
      · cases h
      · rename_i hnot
        cases h
        cases hmx with
        | none =>
          have hkc : k = c := by simp [natV] at hk0; exact hk0.symm
          cases hhi with
          | none =>
            have hjl : j = l := by simp [natV] at hj0; exact hj0.symm
            subst hkc hjl
            cases hlo with
            | none =>
              have : i = 0 := by simp [natV] at hi0; exact hi0.symm
              subst this
              exact ⟨c', by simp [Instr.sliceBounds, Sem.run_bind], by omega, by omega, by omega, fun _ => ⟨rfl, rfl⟩, fun e => e.symm⟩
            | some hv =>
              obtain ⟨kk, e⟩ := natV_some hi0 hv
              exact ⟨c', by simp [Instr.sliceBounds, Sem.run_bind, sliceBound_run (P := P) e h1], by omega, by omega, by omega, fun _ => ⟨rfl, rfl⟩, fun e => e.symm⟩
          | some hu =>
            obtain ⟨kj, ej⟩ := natV_some hj0 hu
            subst hkc
            have hjc : j ≤ c' := by omega
            cases hlo with
            | none =>
              have : i = 0 := by simp [natV] at hi0; exact hi0.symm
              subst this
              exact ⟨c', by simp [Instr.sliceBounds, Sem.run_bind, sliceBound_run (P := P) ej hjc], by omega, by omega, by omega, fun _ => ⟨rfl, rfl⟩, fun e => e.symm⟩
            | some hv =>
              obtain ⟨kk, e⟩ := natV_some hi0 hv
              exact ⟨c', by simp [Instr.sliceBounds, Sem.run_bind, sliceBound_run (P := P) ej hjc, sliceBound_run (P := P) e h1], by omega, by omega, by omega, fun _ => ⟨rfl, rfl⟩, fun e => e.symm⟩
        | some hm =>
          obtain ⟨km, em⟩ := natV_some hk0 hm
          have hcc : c = c' := hx.resolve_left (by simp)
          subst hcc
          cases hhi with
          | none => exact absurd rfl (hnot _ rfl)
          | some hu =>
            obtain ⟨kj, ej⟩ := natV_some hj0 hu
            cases hlo with
            | none =>
              have : i = 0 := by simp [natV] at hi0; exact hi0.symm
              subst this
              exact ⟨k, by simp [Instr.sliceBounds, Sem.run_bind, sliceBound_run (P := P) em h3, sliceBound_run (P := P) ej h2], by omega, by omega, by omega, (fun e => by cases e), fun _ => rfl⟩
            | some hv =>
              obtain ⟨kk, e⟩ := natV_some hi0 hv
              exact ⟨k, by simp [Instr.sliceBounds, Sem.run_bind, sliceBound_run (P := P) em h3, sliceBound_run (P := P) ej h2, sliceBound_run (P := P) e h1], by omega, by omega, by omega, (fun e => by cases e), fun _ => rfl⟩
    · cases h
  · cases h
end
end Go.Am
end
section
namespace Go.Am
open Go.RowKit
section
variable {P : Program} {G base top : Nat} {w0 : World} {m : Mp} {A : Heap} {w : World}
theorem run_slice_row {ty e : TypeId} {inf : TypeInfo} (hu : P.underlying ty = some (.slice e)) (hi : P.info? e = some inf) {a : Option Addr} {l c i j k : Nat} {lo hi' mx : Option Value}
    (hb : (Instr.sliceBounds true l c lo hi' mx).run P w = .ok (i, j, k) w) :
    (Instr.sliceAt ty (.slice a l c) lo hi' mx).run P w = .ok (.slice (if k = i then a else a.map (·.add (i * inf.size))) (j - i) (k - i)) w := by
  simp [Instr.sliceAt, Instr.slice, Sem.run_bind, run_underlying' hu, hb, run_sizeOf_info hi]
theorem run_slice_arr {ty e : TypeId} {inf : TypeInfo} {n : Nat} (hu : P.underlying ty = some (.array n e)) (hi : P.info? e = some inf) {a : Addr} {i j k : Nat} {lo hi' mx : Option Value}
    (hb : (Instr.sliceBounds false n n lo hi' mx).run P w = .ok (i, j, k) w) :
    (Instr.sliceAt ty (.pointer (some a)) lo hi' mx).run P w = .ok (.slice (some (if k = i then a else a.add (i * inf.size))) (j - i) (k - i)) w := by
  simp [Instr.sliceAt, Instr.sureAddr, Sem.run_bind, run_underlying' hu, hb, run_sizeOf_info hi]
theorem shift_vr {a a' : Addr} (ha : AR m a a') (s i j k : Nat) :
    VR m (.slice (shift (some a) s i k) (j - i) (3 * (k - i))) (.slice (if k = i then some a' else some (a'.add (i * s))) (j - i) (k - i)) := by
  unfold shift
  split
  · rename_i e
    rw [if_pos (Nat.eq_of_beq_eq_true e)]
    exact .slice _ _ ha
  · rename_i e
    rw [if_neg (fun h => by subst h; simp at e)]
    exact .slice _ _ (ha.add _)
theorem sliceA_ok (h : HR P G base w0 top m A w) {ty : TypeId} {x x' : Value} {lo hi mx lo' hi' mx' : Option Value} (hx : VR m x x') (hlo : OV m lo lo') (hhi : OV m hi hi') (hmx : OV m mx mx') :
    OpOK P G base w0 top m A w (do pure (Next.value (← Instr.sliceAt ty x' lo' hi' mx'))) (sliceA P ty x lo hi mx A) := by
  unfold sliceA
  split
  · rename_i e hu
    split
    · rename_i inf b l c hin
      unfold sliceRow
      cases hx with
      | snil =>
        simp only
        split
        · rename_i i j k hb
          obtain ⟨k', h1, h2, h3, h4, h5, h6⟩ := bounds3_run (c' := c) hb hlo hhi hmx (Nat.le_refl _) (.inr rfl) true w
          have hk := h6 rfl
          subst hk
          refine OpOK.still h (run_v (run_slice_row hu hin h1)) ?_
          simp only [Option.map_none, ite_self]
          exact .snil _ _
        · trivial
      | slice l c ha =>
        have e0 : 3 * c % 3 = 0 := by omega
        have e1 : 3 * c / 3 = c := by omega
        simp only [e0, e1]
        split
        · rename_i i j k hb
          obtain ⟨k', h1, h2, h3, h4, h5, h6⟩ := bounds3_run (c' := c) hb hlo hhi hmx (Nat.le_refl _) (.inr rfl) true w
          have hk := h6 rfl
          subst hk
          exact OpOK.still h (run_v (run_slice_row hu hin h1)) (shift_vr ha _ _ _ _)
        · trivial
      | @sliceUp a a' d l c ha hd =>
        have e0 : (3 * c + 1) % 3 = 1 := by omega
        have e1 : (3 * c + 1) / 3 = c := by omega
        simp only [e0, e1]
        split
        · rename_i i j k hb
          cases hmx
          obtain ⟨k', h1, h2, h3, h4, h5, h6⟩ := bounds3_run (c' := c + d) hb hlo hhi .none (by omega) (.inl rfl) true w
          obtain ⟨h5, h7⟩ := h5 rfl
          subst h5
          subst h7
          have hrun := run_slice_row (a := some a') hu hin h1
          split
          · rename_i hi
            have hi := blt_true hi
            refine OpOK.still h (run_v hrun) ?_
            rw [if_neg (by omega)]
            have := VR.sliceUp (m := m) (j - i) (k - i) (ha.add (i * inf.size)) (d := d) (by rw [Addr.add_block, Addr.add_block]; exact hd)
            rw [show k - i + d = k + d - i by omega] at this
            exact this
          · rename_i hi
            have hi : ¬ i < k := fun h => by
              have : Nat.blt i k = true := Nat.ble_eq_true_of_le h
              rw [this] at hi; cases hi
            split
            · rename_i h0
              have h0 : i = 0 := Nat.eq_of_beq_eq_true h0
              subst h0
              have hk0 : k = 0 := by omega
              subst hk0
              refine OpOK.still h (run_v hrun) ?_
              have hadd : a'.add (0 * inf.size) = a' := by simp [Addr.add]
              simp only [Option.map_some, hadd, ite_self, Nat.sub_zero]
              exact .sliceUp _ _ ha hd
            · have hj : j - i = 0 := by omega
              refine OpOK.still h (run_v hrun) ?_
              rw [hj]
              split
              · exact .sliceEnd _ hd
              · exact .sliceEnd (a' := a'.add (i * inf.size)) _ (by rw [Addr.add_block]; exact hd)
        · trivial
      | sliceEnd c hd => trivial
    · trivial
  · rename_i n e hu
    split
    · rename_i inf a hin
      unfold sliceArr
      split
      · rename_i i j k hb
        cases hx with
        | ptr ha =>
          obtain ⟨k', h1, h2, h3, h4, h5, h6⟩ := bounds3_run (c' := n) hb hlo hhi hmx (Nat.le_refl _) (.inr rfl) false w
          have hk := h6 rfl
          subst hk
          refine OpOK.still h (run_v (run_slice_arr hu hin h1)) ?_
          have := shift_vr ha inf.size i j k'
          split
          · rename_i e; rw [if_pos e] at this; exact this
          · rename_i e; rw [if_neg e] at this; exact this
      · trivial
    · trivial
  · trivial
theorem bytesOf_spec : ∀ {l : List Value} {bs : List UInt8}, bytesOf l = some bs → ∃ ns : List Int, l = ns.map (Value.int .u8) ∧ bs = ns.map (fun n => UInt8.ofNat n.toNat)
  | [], bs, h => by cases h; exact ⟨[], rfl, rfl⟩
  | v :: l, bs, h => by
    simp only [bytesOf] at h
    split at h
    · rename_i k n
      split at h
      · rename_i r hr
        cases h
        obtain ⟨ns, h1, h2⟩ := bytesOf_spec hr
        exact ⟨(n : Int) :: ns, by simp [h1], by simp [h2]⟩
      · cases h
    · cases h
theorem foldl_push : ∀ (ns : List Int) (s : ByteArray), ns.foldl (fun r n => r.push (UInt8.ofNat n.toNat)) s = ⟨s.data ++ (ns.map (fun n => UInt8.ofNat n.toNat)).toArray⟩
  | [], s => by simp
  | n :: ns, s => by
    simp only [List.foldl_cons, foldl_push ns]
    congr 1
    simp [ByteArray.push]
theorem cells_at (h : HR P G base w0 top m A w) {a a' : Addr} (ha : AR m a a') {n : Nat} {t : Tr Value} {e : TypeId} (ho : hget A a.block = some (.cells n t e)) (hsp : a.spot = none)
    {k : Nat} (hk : a.off + k ≤ n) {l : List Value} (hg : grab t k a.off = some l) : ∃ l', LR m l l' ∧ ∀ j v, l'[j]? = some v → w.cell? (a'.add j) = some v := by
  obtain ⟨hl, hget⟩ := grab_spec hg
  have key : ∀ k' (o : Nat), o + k' = k → ∃ l', LR m (l.drop o) l' ∧ ∀ j v, l'[j]? = some v → w.cell? (a'.add (o + j)) = some v := by
    intro k'
    induction k' with
    | zero =>
      intro o ho
      rw [List.drop_eq_nil_of_le (by omega)]
      exact ⟨[], .nil, fun j v hv => by simp at hv⟩
    | succ k' ih =>
      intro o hok
      obtain ⟨l', h1, h2⟩ := ih (o + 1) (by omega)
      obtain ⟨v, hv, hlv⟩ := hget o (by omega)
      have hlt : o < l.length := by omega
      have hd : l.drop o = v :: l.drop (o + 1) := by
        rw [List.drop_eq_getElem_cons hlt]
        congr 1
        rw [List.getElem?_eq_getElem hlt] at hlv
        exact Option.some.inj hlv
      obtain ⟨v', hc, hvr⟩ := h.cell (ha.add o) (by rw [Addr.add_block]; exact ho) (Addr.add_spot a hsp o) (by rw [Addr.add_off]; omega) (by rw [Addr.add_off]; exact hv)
      refine ⟨v' :: l', by rw [hd]; exact .cons hvr h1, fun j u hu => ?_⟩
      cases j with
      | zero => simp at hu; subst hu; exact hc
      | succ j => rw [show o + (j + 1) = o + 1 + j by omega]; exact h2 j u (by simpa using hu)
  obtain ⟨l', h1, h2⟩ := key k 0 (by omega)
  exact ⟨l', by simpa using h1, fun j v hv => by have := h2 j v hv; simpa using this⟩
theorem LR.ints {l' : List Value} : ∀ {ns : List Int}, LR m (ns.map (Value.int .u8)) l' → l' = ns.map (Value.int .u8) := by
  intro ns h
  generalize hl : ns.map (Value.int .u8) = l at h
  induction h generalizing ns with
  | nil => exact rfl
  | cons hv hr ih =>
    cases ns with
    | nil => cases hl
    | cons n ns =>
      simp only [List.map_cons, List.cons.injEq] at hl
      obtain ⟨rfl, hl⟩ := hl
      cases hv
      rw [ih hl]
theorem stringA_ok (h : HR P G base w0 top m A w) {src dst : TypeId} {x x' : Value} (hx : VR m x x') :
    OpOK P G base w0 top m A w (do pure (Next.value (← convert src dst x'))) (stringA P src dst x A) := by
  unfold stringA
  split
  · rename_i e a l c hs hd
    split
    · rename_i n t el he hsp hA
      split
      · rename_i vs hb hg
        have hb := ble_true hb
        split
        · rename_i bs hbs
          obtain ⟨ns, h1, h2⟩ := bytesOf_spec hbs
          have key : ∀ a' c', AR m a a' → OpOK P G base w0 top m A w (do pure (Next.value (← convert src dst (.slice (some a') l c')))) (.val (.string ⟨bs.toArray⟩) A) := by
            intro a' c' ha
            obtain ⟨l', hl', hcells⟩ := cells_at h ha hA hsp hb hg
            subst h1
            have := hl'.ints
            subst this
            have hlen : (ns.map (Value.int .u8)).length = l := (grab_spec hg).1
            have hload := run_loadCells_list (P := P) w a' (ns.map (Value.int .u8)) hcells
            rw [hlen] at hload
            refine OpOK.still h (run_v (v' := .string ⟨bs.toArray⟩) ?_) (.string _)
            have hconv : (convert src dst (.slice (some a') l c')).run P w = (Conv.bytesToString (.slice (some a') l c')).run P w := by
              simp [convert, run_underlying hs, run_underlying hd, run_underlying he]
            rw [hconv, run_bytesToString w a' l c' ns hload, foldl_push, h2]
            have h0 : ByteArray.empty.data = (#[] : Array UInt8) := rfl
            rw [h0, Array.empty_append]
          cases hx with
          | slice l c ha => exact key _ _ ha
          | sliceUp l c ha hd' => exact key _ _ ha
          | @sliceEnd _ a' d c hd' =>
            have hl0 : vs = [] := by have : some [] = some vs := hg; cases this; rfl
            subst hl0
            cases hbs
            refine OpOK.still h (run_v (v' := .string ⟨#[]⟩) ?_) (.string _)
            have hconv : (convert src dst (.slice (some a') 0 c)).run P w = (Conv.bytesToString (.slice (some a') 0 c)).run P w := by
              simp [convert, run_underlying hs, run_underlying hd, run_underlying he]
            have hload := run_loadCells_list (P := P) w a' [] (fun j v hv => by simp at hv)
            rw [hconv, run_bytesToString w a' 0 c [] hload]
            rfl
        · trivial
      · trivial
    · trivial
  · trivial
end
end Go.Am
end
section
namespace Go.Am
open Go.RowKit
section
variable {P : Program} {G base top : Nat} {w0 : World} {m : Mp} {A : Heap} {w : World}
theorem HR.congr (h : HR P G base w0 top m A w) {B : Heap} (hn : B.next = A.next) (hg : ∀ i, hget B i = hget A i) : HR P G base w0 top m B w :=
  ⟨h.below, h.base_le, h.g_le, by rw [hn]; exact h.g_len, by rw [hn]; exact h.fresh, h.real, h.own, h.glob, fun b o e => by rw [hn]; exact h.blk b o (by rw [← hg]; exact e),
    fun b b' o o' r d d' hG e e' => h.inj b b' o o' r d d' hG (by rw [← hg]; exact e) (by rw [← hg]; exact e')⟩
def setMany (c : Array Value) : Nat → List Value → Array Value
  | _, [] => c
  | o, v :: l => setMany (c.setIfInBounds o v) (o + 1) l
theorem setMany_size : ∀ (l : List Value) (c : Array Value) (o : Nat), (setMany c o l).size = c.size
  | [], c, o => rfl
  | v :: l, c, o => by simp [setMany, setMany_size l]
theorem setMany_get : ∀ (l : List Value) (c : Array Value) (o : Nat), o + l.length ≤ c.size → ∀ i, (setMany c o l)[i]? = if o ≤ i ∧ i < o + l.length then l[i - o]? else c[i]?
  | [], c, o, _, i => by rw [if_neg (by simp)]; rfl
  | v :: l, c, o, h, i => by
    simp only [List.length_cons] at h
    simp only [setMany]
    rw [setMany_get l _ (o + 1) (by simp; omega) i]
    by_cases h1 : o + 1 ≤ i ∧ i < o + 1 + l.length
    · rw [if_pos h1, if_pos (by simp; omega), show i - o = (i - (o + 1)) + 1 by omega]
      simp
    · rw [if_neg h1, Array.getElem?_setIfInBounds]
      by_cases h2 : o = i
      · subst h2
        rw [if_pos rfl, if_pos (by omega), if_pos (by simp)]
        simp
      · rw [if_neg h2, if_neg (by simp; omega)]
theorem storeCells_real {P : Program} {r off : Nat} {e : TypeId} {fr : Nat × Nat} : ∀ (l : List Value) (i : Nat) (c : Array Value) (w : World), w.heap[r]? = some (.cells c e fr) → (fr.1 = fr.2 ∨ c.size ≤ fr.1) → off + i + l.length ≤ c.size → (∀ v ∈ l, isCell v = true) →
    ∃ w', (storeCells ⟨r, off, none⟩ l i).run P w = .ok () w' ∧ w'.heap = w.heap.setIfInBounds r (.cells (setMany c (off + i) l) e fr) ∧ w'.os = w.os ∧ w'.tape = w.tape ∧ w'.output = w.output
  | [], i, c, w, hw, hf, hl, hc => by
    refine ⟨w, rfl, ?_, rfl, rfl, rfl⟩
    apply Array.ext_getElem?
    intro k
    rw [Array.getElem?_setIfInBounds]
    split
    · rename_i h; subst h; split
      · exact hw
      · rename_i h2; rw [Array.getElem?_eq_none (by omega)] at hw; cases hw
    · rfl
  | v :: l, i, c, w, hw, hf, hl, hc => by
    simp only [List.length_cons] at hl
    have hr : r < w.heap.size := by
      rcases Nat.lt_or_ge r w.heap.size with h | h
      · exact h
      · rw [Array.getElem?_eq_none h] at hw; cases hw
    have hadd : (⟨r, off, none⟩ : Addr).add i = ⟨r, off + i, none⟩ := by
      unfold Addr.add; split <;> simp_all
    have hcell : w.cell? ⟨r, off + i, none⟩ = some c[off + i] := by
      simp only [World.cell?, hw]
      have : off + i < c.size := by omega
      simp [this]
    have hfz : w.frozen? ⟨r, off + i, none⟩ = false := by
      simp only [World.frozen?, hw, Bool.and_eq_false_iff, decide_eq_false_iff_not]; omega
    have hset : (w.setCell ⟨r, off + i, none⟩ v).heap = w.heap.setIfInBounds r (.cells (c.setIfInBounds (off + i) v) e fr) := by
      simp only [World.setCell]
      apply Array.ext_getElem?
      intro k
      rw [Array.getElem?_modify, Array.getElem?_setIfInBounds]
      split
      · rename_i h; subst h; rw [hw]; simp [hr]
      · rfl
    obtain ⟨w', h1, h2, h3, h4, h5⟩ := storeCells_real (P := P) (r := r) (off := off) (e := e) (fr := fr) l (i + 1) (c.setIfInBounds (off + i) v) (w.setCell ⟨r, off + i, none⟩ v)
      (by rw [hset, Array.getElem?_setIfInBounds, if_pos rfl, if_pos hr]) (by rw [Array.size_setIfInBounds]; exact hf) (by rw [Array.size_setIfInBounds]; omega) (fun u hu => hc u (by simp [hu]))
    refine ⟨w', ?_, ?_, h3, h4, h5⟩
    · have hv := hc v (by simp)
      simp only [storeCells, Sem.run_bind, hadd, store]
      have hst : (Sem.store .plain ⟨r, off + i, none⟩ v (.pure ()) : Sem Unit).run P w = .ok () (w.setCell ⟨r, off + i, none⟩ v) := by
        cases v <;> first | (simp only [Sem.run, hcell, hfz]; rfl) | simp [isCell] at hv
      rw [hst]
      exact h1
    · rw [h2, hset, show off + (i + 1) = off + i + 1 by omega]
      simp only [setMany]
      apply Array.ext_getElem?
      intro k
      rw [Array.getElem?_setIfInBounds, Array.getElem?_setIfInBounds, Array.getElem?_setIfInBounds]
      simp
      split <;> rfl
theorem allCells_spec : ∀ {l : List Value}, allCells l = true → ∀ v ∈ l, isCell v = true
  | [], _, v, hv => by simp at hv
  | u :: l, h, v, hv => by
    simp only [allCells] at h
    split at h
    · rename_i hu
      cases hv with
      | head => exact hu
      | tail _ hv => exact allCells_spec h v hv
    · cases h
theorem isCell_rel {v v' : Value} (h : VR m v v') (hc : isCell v = true) : isCell v' = true := by
  cases h <;> first | rfl | exact hc
theorem LR.cellsOk {l l' : List Value} (h : LR m l l') (hc : ∀ v ∈ l, isCell v = true) : ∀ v ∈ l', isCell v = true := by
  induction h with
  | nil => intro v hv; simp at hv
  | cons hv hr ih =>
    intro v hm
    cases hm with
    | head => exact isCell_rel hv (hc _ (by simp))
    | tail _ hm => exact ih (fun v hv => hc v (by simp [hv])) v hm
theorem LR.get {l l' : List Value} (h : LR m l l') : ∀ {i : Nat} {v : Value}, l[i]? = some v → ∃ v', l'[i]? = some v' ∧ VR m v v' := by
  induction h with
  | nil => intro i v hv; simp at hv
  | cons hv hr ih =>
    intro i v hi
    cases i with
    | zero => simp at hi; subst hi; exact ⟨_, rfl, hv⟩
    | succ i => simpa using ih (by simpa using hi)
theorem news_run (h : HR P G base w0 top m A w) {s n : Nat} {x x' : Value} {new : List Value} (hx : VR m x x') (hn : newsA s x A = some (new, n)) :
    (∀ w2 : World, (Builtin.lenOf x').run P w2 = .ok n w2) ∧ new.length = n * s ∧
    ∃ new', LR m new new' ∧ ∀ w2 : World, w2.heap = w.heap → (Builtin.firstCells s n x').run P w2 = .ok new'.toArray w2 := by
  unfold newsA at hn
  split at hn
  · rename_i a k c
    split at hn
    · rename_i N t e hA hsp
      split at hn
      · rename_i l hb hg
        cases hn
        have hb := ble_true hb
        have hlen := (grab_spec hg).1
        have key : ∀ a' c', AR m a a' → (∀ w2 : World, (Builtin.lenOf (.slice (some a') n c')).run P w2 = .ok n w2) ∧ new.length = n * s ∧
            ∃ new', LR m new new' ∧ ∀ w2 : World, w2.heap = w.heap → (Builtin.firstCells s n (.slice (some a') n c')).run P w2 = .ok new'.toArray w2 := by
          intro a' c' ha
          obtain ⟨l', h1, h2⟩ := cells_at h ha hA hsp hb hg
          refine ⟨fun _ => rfl, hlen, l', h1, fun w2 hw2 => ?_⟩
          have := run_loadCells_list (P := P) w2 a' l' (fun j v hv => by
            have := h2 j v hv
            simp only [World.cell?, hw2] at this ⊢
            exact this)
          simp only [Builtin.firstCells]
          rw [← hlen, h1.len]
          exact this
        cases hx with
        | slice l c ha => exact key _ _ ha
        | sliceUp l c ha hd => exact key _ _ ha
        | @sliceEnd _ a' d c hd =>
          have hl0 : new = [] := by
            have : grab t (0 * s) a.off = some new := hg
            rw [Nat.zero_mul] at this
            have h2 : some [] = some new := this
            cases h2; rfl
          subst hl0
          refine ⟨fun _ => rfl, by simp, [], .nil, fun w2 hw2 => ?_⟩
          simp [Builtin.firstCells, loadCells, loadCellsFrom]
      · cases hn
    · cases hn
  · rename_i k c
    split at hn
    · rename_i h0
      cases hn
      have h0 : k = 0 := Nat.eq_of_beq_eq_true h0
      subst h0
      cases hx
      exact ⟨fun _ => rfl, by simp, [], .nil, fun w2 _ => by simp [Builtin.firstCells]⟩
    · cases hn
  · rename_i b
    split at hn
    rotate_left
    · cases hn
    rename_i h1
    have h1 : s = 1 := Nat.eq_of_beq_eq_true h1
    cases hn
    cases hx
    refine ⟨fun _ => rfl, ?_, b.data.toList.map (fun b => .int .u8 b.toNat), ?_, fun w2 _ => ?_⟩
    · subst h1; rw [List.length_map, Nat.mul_one]; rfl
    · generalize b.data.toList = l
      induction l with
      | nil => exact .nil
      | cons a l ih => exact .cons (.int _ _) ih
    · simp only [Builtin.firstCells]
      have : (b.extract 0 b.size).data = b.data := by
        rw [ByteArray.data_extract]
        exact Array.extract_size
      rw [this, ← Array.toList_map]
      rfl
  · cases hn
theorem run_app_room {sT xT e ty : TypeId} {inf : TypeInfo} {d : TypeDesc} (hu : P.underlying sT = some (.slice e)) (hi : P.info? e = some inf) (hx : P.underlying xT = some d) (hd : isInt d = false)
    {a : Option Addr} {l c n : Nat} {x : Value} {new : Array Value} {w' : World} (hn : ∀ w : World, (Builtin.lenOf x).run P w = .ok n w) (hf : (Builtin.firstCells inf.size n x).run P w = .ok new w) (hr : l + n ≤ c)
    (hs : ∀ b, a = some b → (storeCells (b.add (l * inf.size)) new.toList).run P w = .ok () w') (hs0 : a = none → w' = w) :
    (Builtin.append_ #[sT, xT] ty #[.slice a l c, x]).run P w = .ok (.slice a (l + n) c) w' := by
  cases d with
  | slice u =>
    cases a with
    | none =>
      have := hs0 rfl
      subst this
      simp [Builtin.append_, Sem.run_bind, run_underlying' hu, run_underlying' hx, run_sizeOf_info hi, hn, hf, hr]
    | some b => simp [Builtin.append_, Sem.run_bind, run_underlying' hu, run_underlying' hx, run_sizeOf_info hi, hn, hf, hr, hs b rfl]
  | string =>
    cases a with
    | none =>
      have := hs0 rfl
      subst this
      simp [Builtin.append_, Sem.run_bind, run_underlying' hu, run_underlying' hx, run_sizeOf_info hi, hn, hf, hr]
    | some b => simp [Builtin.append_, Sem.run_bind, run_underlying' hu, run_underlying' hx, run_sizeOf_info hi, hn, hf, hr, hs b rfl]
  | _ => simp [isInt] at hd
theorem run_app_grow {sT xT e ty : TypeId} {inf : TypeInfo} {d : TypeDesc} {z : Value} (hu : P.underlying sT = some (.slice e)) (hi : P.info? e = some inf) (hzz : inf.zero = some z) (hx : P.underlying xT = some d) (hd : isInt d = false)
    {a : Option Addr} {l c n : Nat} {x : Value} {old new : Array Value} (hn : ∀ w : World, (Builtin.lenOf x).run P w = .ok n w) (hf : ∀ w2 : World, w2.heap = w.heap → (Builtin.firstCells inf.size n x).run P w2 = .ok new w2)
    (ho : ∀ w2 : World, w2.heap = w.heap → (Builtin.firstCells inf.size l (.slice a l c)).run P w2 = .ok old w2) (hr : ¬ l + n ≤ c)
    (h1 : l + n ≤ 4194304) (h2 : inf.bytes ≤ 1048576) :
    (Builtin.append_ #[sT, xT] ty #[.slice a l c, x]).run P w = .ok (.slice (some ⟨w.heap.size, 0, none⟩) (l + n) (grownCap w (l + n) c e))
      (w.drew.alloc (.cells (old ++ new ++ Builtin.zeroCells z.cells (grownCap w (l + n) c e - (l + n))) e)) := by
  have h63' : ¬ (9223372036854775807 < ((l : Int) + (n : Int))) := by omega
  have h48' : ¬ (281474976710656 < Builtin.nextslicecap (l + n) c * inf.bytes) := by
    have h3 := nextslicecap_le (need := l + n) (old := c) (by omega)
    have h4 : Builtin.nextslicecap (l + n) c * inf.bytes ≤ 8388608 * 1048576 := Nat.mul_le_mul (by omega) h2
    omega
  have ho' := ho w.drew rfl
  have hf' := hf w.drew rfl
  cases d with
  | slice u =>
    simp [Builtin.append_, run_underlying hu, run_underlying hx, sizeOf, typeInfo, zeroValue, hi, hzz, hn, hr, h63', h48', Question.forced, ho', hf', newRow, grownCap]
  | string =>
    simp [Builtin.append_, run_underlying hu, run_underlying hx, sizeOf, typeInfo, zeroValue, hi, hzz, hn, hr, h63', h48', Question.forced, ho', hf', newRow, grownCap]
  | _ => simp [isInt] at hd
end
end Go.Am
end
