/- Proved: part 6 of the proof of PackReads (AmW2, AmW3, AmW4). Conditions: each theorem states its own. -/
import Derived.Test.YtpnkifincadakaaGreatDoorP5
set_option linter.unusedVariables false
set_option linter.unusedSimpArgs false
section
namespace Go.Am
open Go.RowKit
section
variable {P : Program} {G : Nat}
def Same (A : Heap) (r : ORes) : Prop := match r with
  | .val v B => B = A
  | .enter f args B => B = A
  | _ => True
def Dry (r : Heap → ORes) : Prop := ∀ A v B, r A = .val v B → B = A ∧ ∀ C, r C = .val v C
theorem Dry.no : Dry (fun _ => ORes.no) := fun A v B h => by cases h
theorem Dry.val (v : Value) : Dry (fun A => .val v A) := fun A v' B h => by cases h; exact ⟨rfl, fun C => rfl⟩
theorem Dry.valA (x : Option Value) : Dry (fun A => Am.valA x A) := by
  cases x
  · exact Dry.no
  · exact Dry.val _
theorem Dry.orA (x : Option Value) {k : Heap → ORes} (h : Dry k) : Dry (fun A => Am.orA x A (k A)) := by
  cases x
  · exact h
  · exact Dry.val _
inductive DryS {α : Type} : Sem α → Prop
  | pure (a : α) : DryS (.pure a)
  | program {k : Program → Sem α} (h : ∀ p, DryS (k p)) : DryS (.program k)
  | halt (h : Halt) : DryS (.halt h)
theorem DryS.bind {α β : Type} {s : Sem α} {f : α → Sem β} (h : DryS s) (hf : ∀ a, DryS (f a)) : DryS (s >>= f) := by
  induction h with
  | pure a => exact hf a
  | program h ih => exact .program ih
  | halt h => exact .halt h
theorem DryS.run {α : Type} {s : Sem α} (h : DryS s) {A B : Heap} {v : α} (e : runA P G s A = some (v, B)) : B = A ∧ ∀ C, runA P G s C = some (v, C) := by
  induction h with
  | pure a => cases e; exact ⟨rfl, fun C => rfl⟩
  | program h ih => exact ih _ e
  | halt h => cases e
theorem DryS.runV {s : Sem Value} (h : DryS s) : Dry (fun A => Am.runV P G s A) := by
  intro A v B e
  simp only [Am.runV] at e ⊢
  cases hr : runA P G s A with
  | none => rw [hr] at e; cases e
  | some r =>
    obtain ⟨v1, B1⟩ := r
    rw [hr] at e
    cases e
    obtain ⟨h1, h2⟩ := h.run hr
    exact ⟨h1, fun C => by rw [h2 C]; rfl⟩
theorem drys_underlying (t : TypeId) : DryS (underlying t) := .program fun p => by
  show DryS (match p.underlying t with | some d => _ | none => _)
  cases p.underlying t
  · exact .halt _
  · exact .pure _
theorem drys_typeInfo (t : TypeId) : DryS (typeInfo t) := .program fun p => by
  show DryS (match p.info? t with | some d => _ | none => _)
  cases p.info? t
  · exact .halt _
  · exact .pure _
theorem drys_isAgg (t : TypeId) : DryS (isAgg t) := (drys_underlying t).bind fun d => by cases d <;> exact .pure _
theorem drys_sizeOf (t : TypeId) : DryS (sizeOf t) := (drys_typeInfo t).bind fun _ => .pure _
theorem drys_part (t : TypeId) (x : Array Value) (n : Nat) : DryS (part t x n) := (drys_isAgg t).bind fun b => by
  cases b
  · show DryS (match x[n]? with | some v => _ | none => _)
    cases x[n]?
    · exact .halt _
    · exact .pure _
  · exact (drys_sizeOf t).bind fun _ => .pure _
theorem drys_field (t : TypeId) (x : Value) (i : Nat) : DryS (Instr.field t x i) := (drys_underlying t).bind fun d => by
  cases d with
  | struct fs =>
    show DryS (match fs[i]? with | some f => _ | none => _)
    cases fs[i]? with
    | none => exact .halt _
    | some f =>
      refine DryS.bind ?_ fun _ => drys_part _ _ _
      cases x <;> first | exact .pure _ | exact .halt _
  | _ => exact .halt _
theorem drys_extract (x : Value) (i : Nat) : DryS (Instr.extract x i) := by
  unfold Instr.extract
  split
  · split
    · exact .pure _
    · exact .halt _
  · exact .halt _
theorem drys_iface (t : TypeId) (x : Value) : DryS (Instr.makeInterface t x) := (drys_underlying t).bind fun d => by cases d <;> first | exact .halt _ | exact .pure _
theorem dry_build (ty : TypeId) (l : List (Nat × Value)) : Dry (fun A => buildA P ty l A) := by
  unfold buildA
  split
  · split
    · exact Dry.val _
    · exact Dry.no
  · exact Dry.no
theorem dry_bin (op : BinOp) (t : TypeId) (x y : Value) : Dry (fun A => binA P op t x y A) := by
  unfold binA
  split
  · split
    · exact Dry.val _
    · exact Dry.no
  · split
    · exact Dry.val _
    · exact Dry.no
  · exact Dry.no
theorem dry_slice (ty : TypeId) (x : Value) (lo hi mx : Option Value) : Dry (fun A => sliceA P ty x lo hi mx A) := by
  unfold sliceA sliceRow sliceArr
  (repeat' split) <;> first | exact Dry.no | exact Dry.val _
theorem dry_kind (t : Tmps) (o : Oper) (h : classA o.op = 0) : Dry (fun A => kindA P G t o A) := by
  obtain ⟨dst, op, ty, pos, after, guard⟩ := o
  cases op
  case call c =>
    unfold kindA
    simp only [classA] at h ⊢
    split at h
    · rename_i b hb
      rw [hb]
      split at h
      · exact Dry.no
      · exact absurd h (by decide)
    · exact absurd h (by decide)
  case makeFunc f x y =>
    unfold kindA
    simp only
    split
    · exact Dry.no
    · exact Dry.val _
  all_goals first
    | exact absurd (show 1 = 0 from h) (by decide)
    | exact absurd (show 2 = 0 from h) (by decide)
    | exact absurd (show 3 = 0 from h) (by decide)
    | exact dry_build _ _
    | exact dry_bin _ _ _ _
    | exact dry_slice _ _ _ _ _
    | exact (drys_field _ _ _).runV
    | exact (drys_extract _ _).runV
    | exact (drys_iface _ _).runV
    | exact Dry.no
theorem dry_plain (r : Option Next) {k : Heap → ORes} (h : Dry k) : Dry (fun A => plainRes r A (k A)) := by
  unfold plainRes
  split
  · split
    · exact Dry.val _
    · exact Dry.no
  · exact h
theorem dry_slow (t : Tmps) (o : Oper) (h : classA o.op = 0) : Dry (fun A => slowA P G t o A) := by
  unfold slowA
  split
  · exact dry_plain _ (dry_kind t o h)
  · exact dry_kind t o h
theorem dry_opA (t : Tmps) (o : Oper) (h : classA o.op = 0) : Dry (fun A => opA P G t o A) := by
  have hs := dry_slow (P := P) (G := G) t o h
  obtain ⟨dst, op, ty, pos, after, guard⟩ := o
  cases op
  case pick c x y =>
    unfold opA pickA
    simp only
    split
    · exact Dry.val _
    · exact Dry.val _
    · exact Dry.no
  case call c =>
    unfold opA callA0
    simp only [classA] at h ⊢
    split at h
    · rename_i b hb
      rw [hb]
      split at h
      · simp only
        split
        · exact Dry.orA _ hs
        · exact Dry.no
      · exact absurd h (by decide)
    · exact absurd h (by decide)
  all_goals first
    | exact absurd (show 1 = 0 from h) (by decide)
    | exact absurd (show 2 = 0 from h) (by decide)
    | exact absurd (show 3 = 0 from h) (by decide)
    | exact Dry.val _
    | exact Dry.valA _
    | exact Dry.orA _ hs
    | exact hs
    | exact Dry.no
theorem same_kind (t : Tmps) (o : Oper) (A : Heap) (h : classA o.op = 3) : Same A (kindA P G t o A) := by
  obtain ⟨dst, op, ty, pos, after, guard⟩ := o
  cases op
  case call c =>
    simp only [classA] at h
    split at h
    · split at h <;> exact absurd h (by decide)
    · exact absurd h (by decide)
  case convert =>
    unfold kindA
    simp only
    unfold stringA; (repeat' split) <;> first | trivial | exact rfl
  case lookup =>
    unfold kindA
    simp only
    unfold lookA; (repeat' split) <;> first | trivial | exact rfl
  all_goals first
    | exact absurd (show 0 = 3 from h) (by decide)
    | exact absurd (show 1 = 3 from h) (by decide)
    | exact absurd (show 2 = 3 from h) (by decide)
    | trivial
theorem same_slow (t : Tmps) (o : Oper) (A : Heap) (h : classA o.op = 3) : Same A (slowA P G t o A) := by
  unfold slowA plainRes
  split
  · split
    · split
      · rfl
      · trivial
    · exact same_kind t o A h
  · exact same_kind t o A h
theorem same_opA (t : Tmps) (o : Oper) (A : Heap) (h : classA o.op = 3) : Same A (opA P G t o A) := by
  have hs := same_slow (P := P) (G := G) t o A h
  obtain ⟨dst, op, ty, pos, after, guard⟩ := o
  cases op
  case load ty x =>
    unfold opA
    simp only
    cases loadFast P ty (evalA t x) A
    · trivial
    · exact rfl
  case call c =>
    simp only [classA] at h
    split at h
    · split at h <;> exact absurd h (by decide)
    · exact absurd h (by decide)
  case convert =>
    unfold opA convA
    simp only
    split
    · split
      · split
        · rfl
        · trivial
      · exact hs
    · exact hs
  all_goals first
    | exact absurd (show 0 = 3 from h) (by decide)
    | exact absurd (show 1 = 3 from h) (by decide)
    | exact absurd (show 2 = 3 from h) (by decide)
    | exact hs
def EnterSame (A : Heap) (r : ORes) : Prop := ∀ f args B, r = .enter f args B → B = A
theorem EnterSame.val (A : Heap) (v : Value) (B : Heap) : EnterSame A (.val v B) := fun f args B h => by cases h
theorem EnterSame.no (A : Heap) : EnterSame A .no := fun f args B h => by cases h
theorem EnterSame.defer (A : Heap) (d : Deferred) (B : Heap) : EnterSame A (.defer d B) := fun f args B h => by cases h
theorem es_valA0 (A : Heap) (x : Option (Value × Heap)) : EnterSame A (valA0 x) := by
  cases x with
  | none => exact .no _
  | some r => exact .val _ _ _
theorem es_valA (A B : Heap) (x : Option Value) : EnterSame A (valA x B) := by
  cases x with
  | none => exact .no _
  | some r => exact .val _ _ _
theorem es_orA (A B : Heap) (x : Option Value) {k : ORes} (h : EnterSame A k) : EnterSame A (orA x B k) := by
  cases x with
  | none => exact h
  | some r => exact .val _ _ _
theorem es_kind (t : Tmps) (o : Oper) (A : Heap) : EnterSame A (kindA P G t o A) := by
  unfold kindA buildA rowA makeA sliceA sliceRow sliceArr binA stringA lookA putA rangeA nextA entryA deferA delA externA atomA
  (repeat' split) <;> first | exact .no _ | exact .val _ _ _ | exact .defer _ _ _ | exact es_valA0 _ _
theorem es_slow (t : Tmps) (o : Oper) (A : Heap) : EnterSame A (slowA P G t o A) := by
  unfold slowA plainRes
  (repeat' split) <;> first | exact .no _ | exact .val _ _ _ | exact es_kind t o A
theorem es_opA (t : Tmps) (o : Oper) (A : Heap) : EnterSame A (opA P G t o A) := by
  unfold opA pickA storeA callA0 convA
  (repeat' split) <;> first | exact .no _ | exact .val _ _ _ | exact es_slow t o A | exact es_valA _ _ _ | exact es_orA _ _ _ (es_slow t o A) | exact fun f args B h => by cases h; rfl
theorem andB_true {a b : Bool} (h : andB a b = true) : a = true ∧ b = true := by cases a <;> simp_all [andB]
theorem orB_true {a b : Bool} (h : orB a b = true) : a = true ∨ b = true := by cases a <;> simp_all [orB]
theorem veq_spec (n : Nat) : (∀ x y, veq n x y = true → x = y) ∧ (∀ x y, veqs n x y = true → x = y) := by
  induction n with
  | zero => exact ⟨fun x y h => (by simp [veq] at h), fun x y h => (by simp [veqs] at h)⟩
  | succ n ih =>
    obtain ⟨ih1, ih2⟩ := ih
    refine ⟨fun x y h => ?_, fun x y h => ?_⟩
    · simp only [veq] at h
      split at h
      case h_1 => simpa using h
      case h_2 => have := andB_true h; simp at this; rw [this.1, this.2]
      case h_3 => rfl
      case h_4 => simpa using h
      case h_5 => have := andB_true h; rw [Nat.eq_of_beq_eq_true this.1, Nat.eq_of_beq_eq_true this.2]
      case h_6 =>
        obtain ⟨h1, h2⟩ := andB_true h
        obtain ⟨h2, h3⟩ := andB_true h2
        rw [Nat.eq_of_beq_eq_true h2, Nat.eq_of_beq_eq_true h3]
        simp at h1
        rw [h1]
      case h_7 a b =>
        simp only [decide_eq_true_eq] at h
        obtain ⟨a⟩ := a
        obtain ⟨b⟩ := b
        have : a = b := Array.ext' h
        rw [this]
      case h_8 => rfl
      case h_9 => rw [Nat.eq_of_beq_eq_true h]
      case h_10 => rfl
      case h_11 => rfl
      case h_12 =>
        obtain ⟨h1, h2⟩ := andB_true h
        obtain ⟨h2, h3⟩ := andB_true h2
        rw [Nat.eq_of_beq_eq_true h1, Array.ext' (ih2 _ _ h2), Array.ext' (ih2 _ _ h3)]
      case h_13 =>
        obtain ⟨h1, h2⟩ := andB_true h
        rw [Nat.eq_of_beq_eq_true h1, ih1 _ _ h2]
      case h_14 => rw [Array.ext' (ih2 _ _ h)]
      case h_15 => rw [Array.ext' (ih2 _ _ h)]
      case h_16 => cases h
    · cases x with
      | nil => cases y with
        | nil => rfl
        | cons v l => simp [veqs] at h
      | cons v l => cases y with
        | nil => simp [veqs] at h
        | cons v' l' =>
          simp only [veqs] at h
          obtain ⟨h1, h2⟩ := andB_true h
          rw [ih1 _ _ h1, ih2 _ _ h2]
theorem fill_made {t : Tmps} {o : Oper} {id l k : Nat} {e : TypeId} {c : Array Value}
    (h : ∀ (m : Mp) (a : Act) (w : World), (∀ x ∈ o.op.operands, VR m (evalA t x) (a.eval x)) → ∃ c', AV m c c' ∧ (execOp a.eval o).run P w = .ok (.value (.slice (some ⟨w.heap.size, 0, none⟩) l k)) (w.alloc (.cells c' e))) :
    FillOK P t o (ofObj (.cells c e)) (.slice (some ⟨id, 0, none⟩) l (3 * k)) id := by
  intro m a w hv
  obtain ⟨c', h1, h2⟩ := h m a w hv
  exact ⟨_, _, .row h1, h2, fun m' hs hm => .slice l k ⟨⟨0, hm⟩, rfl, rfl⟩⟩
theorem hget_one (n : Nat) (ob : AObj) : hget (hpush ⟨n, .leaf⟩ (some ob)) n = some ob := by rw [hget_push]; simp
theorem fill_kind {t : Tmps} {o : Oper} {n : Nat} {v : Value} {B : Heap} {ob : AObj} (hc : classA o.op = 2) (h : kindA P G t o ⟨n, .leaf⟩ = .val v B) (hb : hget B n = some ob) : FillOK P t o ob v n := by
  obtain ⟨dst, op, ty0, pos, after, guard⟩ := o
  cases op
  case call c =>
    simp only [classA] at hc
    split at hc
    · split at hc <;> exact absurd hc (by decide)
    · exact absurd hc (by decide)
  case alloc e =>
    have h : (match zeroOk P e with | true => runV P G (Instr.alloc e true (.tuple #[])) ⟨n, .leaf⟩ | false => ORes.no) = .val v B := h
    split at h
    rotate_left
    · cases h
    rename_i hz
    intro m a w hv
    simp only [execOp]
    have hz' := hz
    unfold zeroOk at hz'
    split at hz'
    · rename_i i hi
      cases hzv : i.zero with
      | none =>
        simp only [runV, Instr.alloc, zeroValue, runA_bind, runA_typeInfo hi, hzv] at h
        cases h
      | some z =>
        have hzz : runA P G (Instr.alloc e true (.tuple #[])) ⟨n, .leaf⟩ = some (.pointer (some ⟨n, 0, none⟩), hpush ⟨n, .leaf⟩ (some (ofObj (.cells z.cells e)))) := by
          simp only [Instr.alloc, zeroValue, runA_bind, runA_typeInfo hi, hzv, runA_pure]
          rfl
        simp only [runV, hzz, valA0] at h
        cases h
        rw [hget_one] at hb
        cases hb
        refine ⟨.cells z.cells e, .pointer (some ⟨w.heap.size, 0, none⟩), .row (zero_cells hz hi hzv), run_v ?_, fun m' hs hm => .ptr ⟨⟨0, hm⟩, rfl, rfl⟩⟩
        simp only [Instr.alloc, zeroValue, Sem.run_bind, run_typeInfo' hi, Result.andThen, hzv]
        rfl
    · rename_i hi
      simp only [runV, Instr.alloc, zeroValue, runA_bind, typeInfo, runA_program, hi] at h
      cases h
  case buildSlice ty len parts =>
    have h : rowA P ty len (parts.map fun (i, x) => (i, evalA t x)).toList ⟨n, .leaf⟩ = .val v B := h
    unfold rowA at h
    split at h
    rotate_left
    · cases h
    rename_i e hu
    split at h
    rotate_left
    · cases h
    rename_i ie hi
    split at h
    rotate_left
    · cases h
    rename_i z hz hzz
    have hp : ∀ (m : Mp) (a : Act), (∀ x ∈ Op.operands (.buildSlice ty len parts), VR m (evalA t x) (a.eval x)) → PR m (parts.map fun (i, x) => (i, evalA t x)).toList (parts.map fun (i, x) => (i, a.eval x)).toList := by
      intro m a hv
      simp only [Op.operands] at hv
      have := pr_map (m := m) (evalA t) a.eval parts.toList (fun x hx => hv x.2 (by simp only [List.mem_toArray, List.mem_map]; exact ⟨x, hx, rfl⟩))
      simpa using this
    split at h
    · rename_i h1 h2
      split at h
      · rename_i cells hf
        cases h
        rw [hget_one] at hb
        cases hb
        refine fill_made fun m a w hv => ?_
        obtain ⟨r', hf', hv'⟩ := fill_rel _ (hp m a hv) (map_zero (zero_cells hz hi hzz) _) hf
        have h1 := ble_true h1
        have h2 : len * ie.size ≠ 0 := fun e => by rw [e] at h2; cases h2
        simp only [execOp]
        exact ⟨r', hv', run_v (run_buildSlice w ty e len _ r' ie z hu hi hzz (by omega) h2 hf')⟩
      · cases h
    · rename_i h1 h2
      split at h
      · rename_i hnil
        cases h
        rw [hget_one] at hb
        cases hb
        have h2 : len * ie.size = 0 := Nat.eq_of_beq_eq_true h2
        refine fill_made fun m a w hv => ⟨#[], .empty m, ?_⟩
        have hp' : parts = #[] := by simpa using hnil
        subst hp'
        simp only [execOp]
        refine run_v ?_
        simp [Instr.buildSlice, run_underlying hu, sizeOf, typeInfo, hi, h2, Instr.fill, newRow, Array.range_zero']
      · cases h
    · cases h
  case makeSlice ty lx cx =>
    have h : makeA P ty (evalA t lx) (evalA t cx) ⟨n, .leaf⟩ = .val v B := h
    unfold makeA at h
    split at h
    rotate_left
    · cases h
    rename_i kl ln kc cn hl hcx
    split at h
    rotate_left
    · cases h
    rename_i e hu
    split at h
    rotate_left
    · cases h
    rename_i ie hi
    split at h
    rotate_left
    · cases h
    rename_i z hz hzz
    split at h
    rotate_left
    · cases h
    rename_i h1 h2 h3
    cases h
    rw [hget_one] at hb
    cases hb
    refine fill_made fun m a w hv => ⟨madeCells z.cells (cn * ie.size), map_zero (zero_cells hz hi hzz) _, ?_⟩
    simp only [Op.operands] at hv
    have e1 := hv lx (by simp)
    have e2 := hv cx (by simp)
    rw [hl] at e1
    rw [hcx] at e2
    simp only [execOp]
    generalize a.eval lx = l' at e1 ⊢
    generalize a.eval cx = c' at e2 ⊢
    cases e1
    cases e2
    have h1 := ble_true h1
    have h2 := ble_true h2
    have h3 := ble_true h3
    have hb : ((ie.bytes : Int) * (cn : Int)) ≤ 281474976710656 := by
      have h : ((ie.bytes * cn : Nat) : Int) ≤ 281474976710656 := by omega
      rwa [Int.natCast_mul] at h
    refine run_v ?_
    have := run_make (P := P) w ty e ie z hu hi hzz kl kc (ln : Int) (cn : Int) (by omega) (by omega) hb (by omega)
    simpa [madeCells] using this
  all_goals first
    | exact absurd (show 0 = 2 from hc) (by decide)
    | exact absurd (show 1 = 2 from hc) (by decide)
    | exact absurd (show 3 = 2 from hc) (by decide)
end
end Go.Am
end
section
namespace Go.Am
open Go.RowKit
theorem fillE_get {α : Type} (l : List α) : ∀ (n : Nat) (t : Tr α) (i : Nat), (fillE l n t).get i = if n ≤ i ∧ i < n + l.length then l[i - n]? else t.get i := by
  induction l with
  | nil => intro n t i; rw [if_neg (by simp)]; rfl
  | cons v l ih =>
    intro n t i
    have e : fillE (v :: l) n t = fillE l (n + 1) (t.set n (some v)) := rfl
    rw [e, ih, Tr.get_set]
    by_cases h : n + 1 ≤ i ∧ i < n + 1 + l.length
    · rw [if_pos h, if_pos (by simp; omega)]
      rw [show i - n = (i - (n + 1)) + 1 by omega]
      rfl
    · rw [if_neg h]
      by_cases h2 : i = n
      · subst h2; rw [if_pos rfl, if_pos (by simp)]; simp
      · rw [if_neg h2, if_neg (by simp; omega)]
theorem allB_true {f : Nat → Bool} : ∀ {n : Nat}, allB f n = true → ∀ i, i < n → f i = true
  | 0, _, i, h => by omega
  | n + 1, h, i, hi => by
    have e : allB f (n + 1) = match f n with | true => allB f n | false => false := rfl
    rw [e] at h
    split at h
    · rename_i hf
      by_cases he : i = n
      · subst he; exact hf
      · exact allB_true h i (by omega)
    · cases h
theorem allL_true {f : Nat → Bool} : ∀ {l : List Nat}, allL f l = true → ∀ x ∈ l, f x = true
  | [], _, x, h => by cases h
  | y :: l, h, x, hx => by
    have e : allL f (y :: l) = match f y with | true => allL f l | false => false := rfl
    rw [e] at h
    split at h
    · rename_i hf
      cases hx with
      | head => exact hf
      | tail _ hx => exact allL_true h x hx
    · cases h
theorem bitA_eq (x i : Nat) : bitA x i = x.testBit i := by
  rw [Nat.testBit_eq_decide_div_mod_eq]
  unfold bitA
  show Nat.beq (x / 2 ^ i % 2) 1 = _
  cases h : Nat.beq (x / 2 ^ i % 2) 1 with
  | true => have := Nat.eq_of_beq_eq_true h; simp [this]
  | false =>
    have : x / 2 ^ i % 2 ≠ 1 := fun e => by rw [e] at h; cases h
    simp [this]
theorem afters_in {o : Oper} {e : Edge} (h : e ∈ o.after) (hb : Region.binds .any e = true) : e.on ∈ afters o := by
  have key : ∀ l : List Edge, e ∈ l → e.on ∈ aftersL l := by
    intro l
    induction l with
    | nil => intro h; cases h
    | cons x l ih =>
      intro h
      have ee : aftersL (x :: l) = match Region.binds .any x with | true => x.on :: aftersL l | false => aftersL l := rfl
      rw [ee]
      cases h with
      | head => rw [hb]; simp
      | tail _ h => split <;> simp [ih h]
  exact key _ (by simpa using h)
theorem afters_out {o : Oper} {x : Nat} (h : x ∈ afters o) : ∃ e ∈ o.after, Region.binds .any e = true ∧ e.on = x := by
  have key : ∀ l : List Edge, x ∈ aftersL l → ∃ e ∈ l, Region.binds .any e = true ∧ e.on = x := by
    intro l
    induction l with
    | nil => intro h; cases h
    | cons y l ih =>
      intro h
      have ee : aftersL (y :: l) = match Region.binds .any y with | true => y.on :: aftersL l | false => aftersL l := rfl
      rw [ee] at h
      split at h
      · rename_i hb
        cases h with
        | head => exact ⟨y, by simp, hb, rfl⟩
        | tail _ h => obtain ⟨e, h1, h2⟩ := ih h; exact ⟨e, by simp [h1], h2⟩
      · obtain ⟨e, h1, h2⟩ := ih h; exact ⟨e, by simp [h1], h2⟩
  obtain ⟨e, h1, h2⟩ := key _ h
  exact ⟨e, by simpa using h1, h2⟩
theorem maskL_bit (M : Tr Nat) (i : Nat) : ∀ l : List Nat, (maskL M l).testBit i = true ↔ ∃ e ∈ l, i = e ∨ (getN M e).testBit i = true
  | [] => by
    have : maskL M [] = 0 := rfl
    rw [this]; simp
  | x :: l => by
    have : maskL M (x :: l) = (2 ^ x ||| getN M x) ||| maskL M l := rfl
    rw [this, Nat.testBit_or, Nat.testBit_or, Nat.testBit_two_pow, Bool.or_eq_true, Bool.or_eq_true, maskL_bit M i l]
    simp only [decide_eq_true_eq, List.mem_cons, exists_eq_or_imp]
    constructor
    · rintro ((h | h) | h)
      · exact .inl (.inl h.symm)
      · exact .inl (.inr h)
      · exact .inr h
    · rintro ((h | h) | h)
      · exact .inl (.inl h.symm)
      · exact .inl (.inr h)
      · exact .inr h
theorem statL_true {ops : Array Oper} {M D : Tr Nat} : ∀ {l : List Oper} {i : Nat}, statL ops M D l i = true → ∀ k o, l[k]? = some o → statOne ops M D (i + k) o = true
  | [], _, _, k, o, h => by simp at h
  | x :: l, i, h, k, o, hk => by
    have e : statL ops M D (x :: l) i = match statOne ops M D i x with | true => statL ops M D l (i + 1) | false => false := rfl
    rw [e] at h
    split at h
    · rename_i hf
      cases k with
      | zero => simp at hk; subst hk; exact hf
      | succ k => rw [show i + (k + 1) = i + 1 + k by omega]; exact statL_true h k o (by simpa using hk)
    · cases h
theorem classA_le (op : Op) : classA op = 0 ∨ classA op = 1 ∨ classA op = 2 ∨ classA op = 3 := by
  cases op
  case call c =>
    simp only [classA]
    split
    · split <;> simp
    · simp
  all_goals first | exact .inl rfl | exact .inr (.inl rfl) | exact .inr (.inr (.inl rfl)) | exact .inr (.inr (.inr rfl))
section
variable {P : Program} {G : Nat} {call : CallF} {ops : Array Oper}
theorem trace_spec : ∀ {l : List Oper} {i : Nat} {t : Tmps} {A : Heap} {es : List Ent}, traceA P G call ops l i t A = some es → es.length = l.length + 1 ∧ (∃ e, es[0]? = some e ∧ e.t = t ∧ e.A = A) ∧
    (∀ k o, l[k]? = some o → ∃ e e', es[k]? = some e ∧ es[k + 1]? = some e' ∧ entA P G call ops (i + k) e.t o e.A = .got e.v e'.A e.k e.ob ∧ e'.t = putT e.t o.dst e.v)
  | [], i, t, A, es, h => by
    have e : traceA P G call ops [] i t A = some [⟨t, A, undef, 0, noOb⟩] := rfl
    rw [e] at h
    cases h
    exact ⟨rfl, ⟨_, rfl, rfl, rfl⟩, fun k o h => by simp at h⟩
  | o :: l, i, t, A, es, h => by
    have e : traceA P G call ops (o :: l) i t A = match entA P G call ops i t o A with
      | .no => none
      | .got v B k ob => consE ⟨t, A, v, k, ob⟩ (traceA P G call ops l (i + 1) (putT t o.dst v) B) := rfl
    rw [e] at h
    split at h
    · cases h
    · rename_i v B k ob hent
      cases hr : traceA P G call ops l (i + 1) (putT t o.dst v) B with
      | none => rw [hr] at h; cases h
      | some es' =>
        rw [hr] at h
        cases h
        obtain ⟨h1, ⟨e0, h2, h3, h4⟩, h5⟩ := trace_spec hr
        refine ⟨by simp [h1], ⟨_, rfl, rfl, rfl⟩, fun k' o' hk => ?_⟩
        cases k' with
        | zero =>
          simp at hk
          subst hk
          exact ⟨_, e0, rfl, by simpa using h2, by rw [h4]; exact hent, h3⟩
        | succ k' =>
          obtain ⟨e1, e2, g1, g2, g3, g4⟩ := h5 k' o' (by simpa using hk)
          exact ⟨e1, e2, by simpa using g1, by simpa using g2, by rw [show i + (k' + 1) = i + 1 + k' by omega]; exact g3, g4⟩
theorem busyM_bit (i : Nat) : ∀ (es : List Ent) (k : Nat), (busyM es k).testBit i = true ↔ ∃ j e, i = k + j ∧ es[j]? = some e ∧ e.k ≠ 0
  | [], k => by
    have : busyM [] k = 0 := rfl
    rw [this]; simp
  | x :: es, k => by
    have e : busyM (x :: es) k = match Nat.beq x.k 0 with | true => busyM es (k + 1) | false => 2 ^ k ||| busyM es (k + 1) := rfl
    rw [e]
    split
    · rename_i h
      have h := Nat.eq_of_beq_eq_true h
      rw [busyM_bit i es (k + 1)]
      constructor
      · rintro ⟨j, e, h1, h2, h3⟩; exact ⟨j + 1, e, by omega, by simpa using h2, h3⟩
      · rintro ⟨j, e, h1, h2, h3⟩
        cases j with
        | zero => simp at h2; subst h2; exact absurd h h3
        | succ j => exact ⟨j, e, by omega, by simpa using h2, h3⟩
    · rename_i h
      have hx : x.k ≠ 0 := fun e => by rw [e] at h; cases h
      rw [Nat.testBit_or, Nat.testBit_two_pow, Bool.or_eq_true, busyM_bit i es (k + 1)]
      simp only [decide_eq_true_eq]
      constructor
      · rintro (h | ⟨j, e, h1, h2, h3⟩)
        · exact ⟨0, x, by omega, rfl, hx⟩
        · exact ⟨j + 1, e, by omega, by simpa using h2, h3⟩
      · rintro ⟨j, e, h1, h2, h3⟩
        cases j with
        | zero => exact .inl (by omega)
        | succ j => exact .inr ⟨j, e, by omega, by simpa using h2, h3⟩
theorem effM_bit (i : Nat) : ∀ (es : List Ent) (k : Nat), (effM es k).testBit i = true ↔ ∃ j e, i = k + j ∧ es[j]? = some e ∧ e.k = 1
  | [], k => by
    have : effM [] k = 0 := rfl
    rw [this]; simp
  | x :: es, k => by
    have e : effM (x :: es) k = match Nat.beq x.k 1 with | false => effM es (k + 1) | true => 2 ^ k ||| effM es (k + 1) := rfl
    rw [e]
    split
    · rename_i h
      have hx : x.k ≠ 1 := fun e => by rw [e] at h; cases h
      rw [effM_bit i es (k + 1)]
      constructor
      · rintro ⟨j, e, h1, h2, h3⟩; exact ⟨j + 1, e, by omega, by simpa using h2, h3⟩
      · rintro ⟨j, e, h1, h2, h3⟩
        cases j with
        | zero => simp at h2; subst h2; exact absurd h3 hx
        | succ j => exact ⟨j, e, by omega, by simpa using h2, h3⟩
    · rename_i h
      have hx := Nat.eq_of_beq_eq_true h
      rw [Nat.testBit_or, Nat.testBit_two_pow, Bool.or_eq_true, effM_bit i es (k + 1)]
      simp only [decide_eq_true_eq]
      constructor
      · rintro (h | ⟨j, e, h1, h2, h3⟩)
        · exact ⟨0, x, by omega, rfl, hx⟩
        · exact ⟨j + 1, e, by omega, by simpa using h2, h3⟩
      · rintro ⟨j, e, h1, h2, h3⟩
        cases j with
        | zero => exact .inl (by omega)
        | succ j => exact .inr ⟨j, e, by omega, by simpa using h2, h3⟩
theorem waitM_bit (M : Tr Nat) (Y i j : Nat) : ∀ n, (waitM M Y i n).testBit j = true ↔ j < n ∧ Y.testBit j = true ∧ (getN M j).testBit i = true
  | 0 => by
    have : waitM M Y i 0 = 0 := rfl
    rw [this]; simp
  | n + 1 => by
    have e : waitM M Y i (n + 1) = match andB (bitA Y n) (bitA (getN M n) i) with | true => 2 ^ n ||| waitM M Y i n | false => waitM M Y i n := rfl
    rw [e]
    split
    · rename_i h
      obtain ⟨h1, h2⟩ := andB_true h
      rw [bitA_eq] at h1 h2
      rw [Nat.testBit_or, Nat.testBit_two_pow, Bool.or_eq_true, waitM_bit M Y i j n]
      simp only [decide_eq_true_eq]
      constructor
      · rintro (h | ⟨g1, g2, g3⟩)
        · subst h; exact ⟨by omega, h1, h2⟩
        · exact ⟨by omega, g2, g3⟩
      · rintro ⟨g1, g2, g3⟩
        by_cases he : n = j
        · exact .inl he
        · exact .inr ⟨by omega, g2, g3⟩
    · rename_i h
      rw [waitM_bit M Y i j n]
      constructor
      · rintro ⟨g1, g2, g3⟩; exact ⟨by omega, g2, g3⟩
      · rintro ⟨g1, g2, g3⟩
        refine ⟨?_, g2, g3⟩
        by_cases he : j = n
        · subst he
          rw [bitA_eq, bitA_eq, g2, g3] at h
          cases h
        · omega
theorem readsL_true {M : Tr Nat} {E : Tr Ent} {n X Y : Nat} : ∀ {l : List Oper} {i : Nat}, readsL P G ops M E n X Y l i = true → ∀ k o, l[k]? = some o → readE P G ops M E n X Y (i + k) o (getE E (i + k)) = true
  | [], _, _, k, o, h => by simp at h
  | x :: l, i, h, k, o, hk => by
    have e : readsL P G ops M E n X Y (x :: l) i = match readE P G ops M E n X Y i x (getE E i) with | true => readsL P G ops M E n X Y l (i + 1) | false => false := rfl
    rw [e] at h
    split at h
    · rename_i hf
      cases k with
      | zero => simp at hk; subst hk; exact hf
      | succ k => rw [show i + (k + 1) = i + 1 + k by omega]; exact readsL_true h k o (by simpa using hk)
    · cases h
end
section
variable {P : Program} {G base : Nat} {w0 : World} {call : CallF} {ops : Array Oper} {es : List Ent}
theorem ent_spec {i : Nat} {t : Tmps} {o : Oper} {A B : Heap} {v : Value} {k : Nat} {ob : AObj} (hC : ∀ top, CallOK P G base w0 top call) (h : entA P G call ops i t o A = .got v B k ob) :
    A.next ≤ B.next ∧
    ((k = 0 ∧ B = A ∧ ((wq t o ops = false ∧ v = undef) ∨ (wq t o ops = true ∧ opA P G t o A = .val v A ∧ ((∀ C, opA P G t o C = .val v C) ∨ classA o.op = 3)))) ∨
     (k = 1 ∧ wq t o ops = true ∧ (opA P G t o A = .val v B ∨ ∃ f args, opA P G t o A = .enter f args A ∧ call f args A = some (v, B))) ∨
     (k = 2 ∧ wq t o ops = true ∧ B = hpush A (some ob) ∧ FillOK P t o ob v A.next)) := by
  have eff : effE call (opA P G t o A) = .got v B k ob → A.next ≤ B.next ∧ k = 1 ∧ (opA P G t o A = .val v B ∨ ∃ f args, opA P G t o A = .enter f args A ∧ call f args A = some (v, B)) := by
    intro h0
    have hn := next_opA (P := P) (G := G) (A := A) t o
    have hs := es_opA (P := P) (G := G) t o A
    unfold effE at h0
    split at h0
    · rename_i v' A' hop
      cases h0
      rw [hop] at hn
      exact ⟨hn, rfl, .inl hop⟩
    · rename_i f args A' hop
      have := hs f args A' hop
      subst this
      unfold callE at h0
      split at h0
      · rename_i v' B' hcall
        cases h0
        exact ⟨(hC 0 f args A' _ _ hcall).1, rfl, .inr ⟨f, args, hop, hcall⟩⟩
      · cases h0
    · cases h0
  unfold entA at h
  split at h
  · rename_i hw
    cases h
    exact ⟨Nat.le_refl _, .inl ⟨rfl, rfl, .inl ⟨hw, rfl⟩⟩⟩
  · rename_i hw
    split at h
    · obtain ⟨h1, h2, h3⟩ := eff h
      exact ⟨h1, .inr (.inl ⟨h2, hw, h3⟩)⟩
    · rename_i hc
      split at h
      · unfold newE at h
        split at h
        · rename_i v' B' hk
          split at h
          · rename_i ob' hob
            cases h
            exact ⟨Nat.le_succ _, .inr (.inr ⟨rfl, hw, rfl, fill_kind hc hk hob⟩)⟩
          · cases h
        · cases h
      · obtain ⟨h1, h2, h3⟩ := eff h
        exact ⟨h1, .inr (.inl ⟨h2, hw, h3⟩)⟩
    · rename_i hn1 hn2
      unfold quietE at h
      split at h
      · rename_i v' B' hop
        cases h
        refine ⟨Nat.le_refl _, .inl ⟨rfl, rfl, .inr ⟨hw, ?_⟩⟩⟩
        rcases classA_le o.op with hc | hc | hc | hc
        · obtain ⟨h1, h2⟩ := dry_opA (P := P) (G := G) t o hc A _ _ hop
          subst h1
          exact ⟨hop, .inl h2⟩
        · exact absurd hc hn1
        · exact absurd hc hn2
        · have := same_opA (P := P) (G := G) t o A hc
          rw [hop] at this
          have this : B' = A := this
          subst this
          exact ⟨hop, .inr hc⟩
      · cases h
end
end Go.Am
end
section
namespace Go.Am
open Go.RowKit
theorem regOk_at {G N : Nat} : ∀ {l : List Oper}, regOk G N l = true → ∀ o ∈ l, allOpn G o.op.operands.toList = true ∧ dstOk N o.dst = true
  | [], _, o, h => by cases h
  | x :: l, h, o, ho => by
    simp only [regOk] at h
    split at h
    · rename_i h1 h2
      cases ho with
      | head => exact ⟨h1, h2⟩
      | tail _ ho => exact regOk_at h o ho
    · cases h
theorem getE_fill {es : List Ent} {i : Nat} (h : i < es.length) : es[i]? = some (getE (fillE es 0 .leaf) i) := by
  unfold getE
  rw [fillE_get, if_pos ⟨Nat.zero_le _, by omega⟩]
  simp [h]
theorem getE_off {es : List Ent} {i : Nat} (h : es.length ≤ i) : getE (fillE es 0 .leaf) i = noEnt := by
  unfold getE
  rw [fillE_get, if_neg (by omega)]
  rfl
theorem mod_bit {X j i : Nat} : (X % 2 ^ j).testBit i = true ↔ i < j ∧ X.testBit i = true := by
  rw [Nat.testBit_mod_two_pow]; simp
theorem lt_bits {U b : Nat} (h : ∀ j, U.testBit j = true → j < b) : U < 2 ^ b :=
  Nat.lt_pow_two_of_testBit U fun i hi => by
    cases hb : U.testBit i with
    | false => rfl
    | true => have := h i hb; omega
section
variable {P : Program} {G base : Nat} {w0 : World} {call : CallF} {ops : Array Oper}
theorem canon_of (hC : ∀ top, CallOK P G base w0 top call) {N : Nat} {es : List Ent} {t : Tmps} {A : Heap} (hreg : regOk G N ops.toList = true) (hst : statA ops = true) (htr : traceA P G call ops ops.toList 0 t A = some es)
    (hch : checkA P G ops (masksOf ops) (fillE es 0 .leaf) ops.toList.length (busyM es 0) (effM es 0) = true) :
    Canon P G N call ops ops.size (fun i => (getE (fillE es 0 .leaf) i).t) (fun i => (getE (fillE es 0 .leaf) i).A) (fun i => (getE (fillE es 0 .leaf) i).v) (fun i => (getE (fillE es 0 .leaf) i).k) (fun i => (getE (fillE es 0 .leaf) i).ob)
      (fun i j => j < ops.size ∧ (getN (masksOf ops) j).testBit i = true) := by
  obtain ⟨hlen, -, htr⟩ := trace_spec htr
  have hlen' : es.length = ops.size + 1 := by rw [hlen]; simp
  generalize hM : masksOf ops = M at hch ⊢
  have hstat : ∀ i o, ops[i]? = some o → statOne ops M (dstsA ops.toList 0 .leaf) i o = true := by
    intro i o ho
    unfold statA at hst
    rw [hM] at hst
    have := statL_true hst i o (by simpa using ho)
    simpa using this
  generalize dstsA ops.toList 0 .leaf = D at hstat
  generalize hE : getE (fillE es 0 .leaf) = g
  have hg : ∀ i, i ≤ ops.size → es[i]? = some (g i) := fun i hi => by rw [← hE]; exact getE_fill (by omega)
  have hgo : ∀ i, ops.size < i → g i = noEnt := fun i hi => by rw [← hE]; exact getE_off (by omega)
  have hsz : ∀ {i : Nat} {o : Oper}, ops[i]? = some o → i < ops.size := by
    intro i o ho
    rcases Nat.lt_or_ge i ops.size with h | h
    · exact h
    · rw [Array.getElem?_eq_none h] at ho; cases ho
  have hstep : ∀ i o, ops[i]? = some o → entA P G call ops i (g i).t o (g i).A = .got (g i).v (g (i + 1)).A (g i).k (g i).ob ∧ (g (i + 1)).t = putT (g i).t o.dst (g i).v := by
    intro i o ho
    have hi := hsz ho
    obtain ⟨e, e', h1, h2, h3, h4⟩ := htr i o (by simpa using ho)
    rw [hg i (by omega)] at h1
    rw [hg (i + 1) (by omega)] at h2
    cases h1
    cases h2
    rw [Nat.zero_add] at h3
    exact ⟨h3, h4⟩
  have hent := fun i o ho => ent_spec hC (hstep i o ho).1
  have hopsi : ∀ i, i < ops.size → ∃ o, ops[i]? = some o := fun i hi => ⟨ops[i], by simp [hi]⟩
  have s1 : ∀ i o, ops[i]? = some o → ∀ x ∈ afters o, x < i := fun i o ho x hx => by
    have := (andB_true (hstat i o ho)).1
    exact blt_true (allL_true this x hx)
  have s2 : ∀ i o, ops[i]? = some o → getN M i = maskL M (afters o) := fun i o ho => by
    have := (andB_true (andB_true (hstat i o ho)).2).1
    exact Nat.eq_of_beq_eq_true this
  have s3 : ∀ i o d, ops[i]? = some o → o.dst = some d → D.get d = some i := fun i o d ho hd => by
    have := (andB_true (andB_true (andB_true (hstat i o ho)).2).2).1
    unfold dstIs at this
    rw [hd] at this
    simp only at this
    split at this
    · rename_i k hk
      rw [hk, Nat.eq_of_beq_eq_true this]
    · cases this
  have s4 : ∀ i o, ops[i]? = some o → ∀ x ∈ o.looksAt ops, readOk M D i x = true := fun i o ho x hx => by
    have := (andB_true (andB_true (andB_true (hstat i o ho)).2).2).2
    exact allL_true this x hx
  have hbit : ∀ j o, ops[j]? = some o → ∀ i, (getN M j).testBit i = true ↔ ∃ e ∈ afters o, i = e ∨ (getN M e).testBit i = true := fun j o ho i => by
    rw [s2 j o ho]; exact maskL_bit M i _
  have hbef_lt : ∀ j i, j < ops.size → (getN M j).testBit i = true → i < j := by
    intro j
    induction j using Nat.strongRecOn with
    | _ j ih =>
      intro i hj hb
      obtain ⟨o, ho⟩ := hopsi j hj
      obtain ⟨e, he, h⟩ := (hbit j o ho i).1 hb
      have hlt := s1 j o ho e he
      rcases h with rfl | h
      · exact hlt
      · have := ih e hlt i (by omega) h; omega
  have hch1 : ∀ j, j < ops.size → orderOk M (fillE es 0 .leaf) (busyM es 0) j = true := by
    unfold checkA at hch
    split at hch
    · rename_i h
      intro j hj
      exact allB_true h j (by simpa using hj)
    · cases hch
  have hch2 : ∀ i o, ops[i]? = some o → readE P G ops M (fillE es 0 .leaf) ops.toList.length (busyM es 0) (effM es 0) i o (g i) = true := by
    unfold checkA at hch
    split at hch
    · intro i o ho
      have := readsL_true hch i o (by simpa using ho)
      rw [Nat.zero_add, hE] at this
      exact this
    · cases hch
  have hbusy : ∀ i, (busyM es 0).testBit i = true ↔ i ≤ ops.size ∧ (g i).k ≠ 0 := by
    intro i
    rw [busyM_bit]
    constructor
    · rintro ⟨j, e, h1, h2, h3⟩
      rw [Nat.zero_add] at h1
      subst h1
      have hi : i ≤ ops.size := by
        rcases Nat.lt_or_ge i es.length with h' | h'
        · omega
        · rw [List.getElem?_eq_none h'] at h2; cases h2
      rw [hg i hi] at h2
      cases h2
      exact ⟨hi, h3⟩
    · rintro ⟨h1, h2⟩
      exact ⟨i, g i, by omega, hg i h1, h2⟩
  have heff : ∀ i, (effM es 0).testBit i = true ↔ i ≤ ops.size ∧ (g i).k = 1 := by
    intro i
    rw [effM_bit]
    constructor
    · rintro ⟨j, e, h1, h2, h3⟩
      rw [Nat.zero_add] at h1
      subst h1
      have hi : i ≤ ops.size := by
        rcases Nat.lt_or_ge i es.length with h' | h'
        · omega
        · rw [List.getElem?_eq_none h'] at h2; cases h2
      rw [hg i hi] at h2
      cases h2
      exact ⟨hi, h3⟩
    · rintro ⟨h1, h2⟩
      exact ⟨i, g i, by omega, hg i h1, h2⟩
  have horder : ∀ i j, j < ops.size → (g j).k = 1 → i < j → (g i).k ≠ 0 → (getN M j).testBit i = true := by
    intro i j hj hk hij hki
    have h := hch1 j hj
    unfold orderOk at h
    rw [hE, hk] at h
    have h : Nat.beq (Nat.land (Nat.mod (busyM es 0) (2 ^ j)) (getN M j)) (Nat.mod (busyM es 0) (2 ^ j)) = true := h
    have h := Nat.eq_of_beq_eq_true h
    have h : ((busyM es 0) % 2 ^ j) &&& getN M j = (busyM es 0) % 2 ^ j := h
    have hb : ((busyM es 0) % 2 ^ j).testBit i = true := mod_bit.2 ⟨hij, (hbusy i).2 ⟨by omega, hki⟩⟩
    rw [← h, Nat.testBit_and, Bool.and_eq_true] at hb
    exact hb.2
  have hquietH : ∀ i, i < ops.size → (g i).k = 0 → (g (i + 1)).A = (g i).A := by
    intro i hi hk
    obtain ⟨o, ho⟩ := hopsi i hi
    rcases (hent i o ho).2 with ⟨_, h, _⟩ | ⟨h, _⟩ | ⟨h, _⟩
    · exact h
    · omega
    · omega
  refine ⟨rfl, fun i o ho => regOk_at hreg o (by rw [Array.getElem?_eq_some_iff] at ho; obtain ⟨h1, h2⟩ := ho; rw [← h2]; simp), fun i o ho e he hb => s1 i o ho _ (afters_in he hb), fun i o ho => (hstep i o ho).2, fun i hi => ?_,
    fun L hL i j hij hLj => ?_, fun i j hij => hbef_lt j i hij.1 hij.2, fun i j oi oj d hi hj hdi hdj => ?_, fun i oi k ok d hi hk hd hx => ?_, fun i j hi hj hij hjn => ⟨hjn, horder i j hjn hj hij (by omega)⟩, fun f j hf hj hij hjn => ⟨hjn, horder f j hjn hj hij (by omega)⟩,
    fun i hi => ?_, hquietH, fun i o hk ho b hb hb1 hb2 => ?_, fun i o hk ho => ?_, fun i o hk ho => ?_⟩
  · obtain ⟨o, ho⟩ := hopsi i hi
    exact (hent i o ho).1
  · induction j using Nat.strongRecOn with
    | _ j ih =>
      obtain ⟨o, ho⟩ := hopsi j hij.1
      obtain ⟨x, hx, h⟩ := (hbit j o ho i).1 hij.2
      have hlt := s1 j o ho x hx
      obtain ⟨e, he, hbe, hex⟩ := afters_out hx
      have hLx : L x := by rw [← hex]; exact hL j o hLj ho e he hbe
      rcases h with rfl | h
      · exact hLx
      · exact ih x hlt ⟨by have := hij.1; omega, h⟩ hLx
  · have h1 := s3 i oi d hi hdi
    have h2 := s3 j oj d hj hdj
    rw [h1] at h2
    cases h2
    rfl
  · have h1 := s3 k ok d hk hd
    have h2 := s4 i oi hi d hx
    unfold readOk at h2
    rw [h1] at h2
    simp only at h2
    rcases orB_true h2 with h | h
    · exact .inl (Nat.eq_of_beq_eq_true h)
    · rcases orB_true h with h | h
      · rw [bitA_eq] at h; exact .inr (.inl ⟨hsz hi, h⟩)
      · rw [bitA_eq] at h; exact .inr (.inr ⟨hsz hk, h⟩)
  · obtain ⟨o, ho⟩ := hopsi i hi
    rcases (hent i o ho).2 with ⟨h, _⟩ | ⟨h, _⟩ | ⟨h, _⟩
    · exact .inl h
    · exact .inr (.inl h)
    · exact .inr (.inr h)
  · have hi := hsz ho
    rcases (hent i o ho).2 with ⟨_, _, h⟩ | ⟨h, _⟩ | ⟨h, _⟩
    rotate_left
    · have : (g i).k = 0 := hk
      omega
    · have : (g i).k = 0 := hk
      omega
    rcases h with ⟨hw, hv⟩ | ⟨hw, hop, hd⟩
    · exact .inl ⟨hw, hv⟩
    refine .inr ⟨hw, ?_⟩
    rcases hd with hd | hc
    · exact hd _
    have hr := hch2 i o ho
    unfold readE at hr
    rw [hc, hw] at hr
    have hr : allB (readsAt P G (fillE es 0 .leaf) (busyM es 0) (Nat.land (effM es 0) (getN M i)) (waitM M (effM es 0) i ops.toList.length) (g i).t o (g i).v) (Nat.succ ops.toList.length) = true := hr
    have hat : ∀ b, b ≤ ops.size → candA (busyM es 0) b = true → (∀ j, (g j).k = 1 → j < b → ¬ (j < ops.size ∧ (getN M j).testBit i = true)) → (∀ j, (g j).k = 1 → (i < ops.size ∧ (getN M i).testBit j = true) → j < b) →
        opA P G (g i).t o (g b).A = .val (g i).v (g b).A := by
      intro b hb hcand h1 h2
      have h := allB_true hr b (by simp; omega)
      unfold readsAt at h
      have hU : Nat.blt (Nat.land (effM es 0) (getN M i)) (Nat.pow 2 b) = true := by
        have : ((effM es 0) &&& (getN M i)) < 2 ^ b := lt_bits fun j hj => by
          rw [Nat.testBit_and, Bool.and_eq_true] at hj
          exact h2 j ((heff j).1 hj.1).2 ⟨hi, hj.2⟩
        exact Nat.ble_eq_true_of_le this
      have hW : Nat.beq (Nat.mod (waitM M (effM es 0) i ops.toList.length) (Nat.pow 2 b)) 0 = true := by
        have : waitM M (effM es 0) i ops.toList.length % 2 ^ b = 0 := by
          apply Nat.eq_of_testBit_eq
          intro j
          rw [Nat.zero_testBit]
          cases hj : (waitM M (effM es 0) i ops.toList.length % 2 ^ b).testBit j with
          | false => rfl
          | true =>
            obtain ⟨g1, g2⟩ := mod_bit.1 hj
            obtain ⟨k1, k2, k3⟩ := (waitM_bit M _ i j _).1 g2
            exact absurd ⟨by simpa using k1, k3⟩ (h1 j ((heff j).1 k2).2 g1)
        show Nat.beq (waitM M (effM es 0) i ops.toList.length % 2 ^ b) 0 = true
        rw [this]
        rfl
      rw [hcand, hU, hW] at h
      have h : sameAt (opA P G (g i).t o (getE (fillE es 0 .leaf) b).A) (g i).v = true := h
      rw [hE] at h
      unfold sameAt at h
      split at h
      · rename_i v' B hop'
        have := (veq_spec 3000).1 _ _ h
        subst this
        have hs := same_opA (P := P) (G := G) (g i).t o (g b).A hc
        rw [hop'] at hs
        have hs : B = (g b).A := hs
        subst hs
        exact hop'
      · cases h
    have key : ∀ b, b ≤ ops.size → (∀ j, (g j).k = 1 → j < b → ¬ (j < ops.size ∧ (getN M j).testBit i = true)) → (∀ j, (g j).k = 1 → (i < ops.size ∧ (getN M i).testBit j = true) → j < b) →
        opA P G (g i).t o (g b).A = .val (g i).v (g b).A := by
      intro b
      induction b with
      | zero => intro hb h1 h2; exact hat 0 hb rfl h1 h2
      | succ b ih =>
        intro hb h1 h2
        cases hcand : candA (busyM es 0) (b + 1) with
        | true => exact hat (b + 1) hb hcand h1 h2
        | false =>
          have hkb : (g b).k = 0 := by
            have : (busyM es 0).testBit b = false := by
              rw [← bitA_eq]; exact hcand
            rcases Nat.eq_zero_or_pos (g b).k with h | h
            · exact h
            · rw [(hbusy b).2 ⟨by omega, by omega⟩] at this
              cases this
          rw [hquietH b (by omega) hkb]
          refine ih (by omega) (fun j hj hjb => h1 j hj (by omega)) fun j hj hjb => ?_
          have := h2 j hj hjb
          have : j ≠ b := fun e => by subst e; omega
          omega
    exact key b hb hb1 hb2
  · have hk' : (g i).k = 1 := hk
    rcases (hent i o ho).2 with ⟨h, _⟩ | ⟨_, hw, h⟩ | ⟨h, _⟩
    · omega
    · exact ⟨hw, h⟩
    · omega
  · have hk' : (g i).k = 2 := hk
    rcases (hent i o ho).2 with ⟨h, _⟩ | ⟨h, _⟩ | ⟨_, hw, h, hf⟩
    · omega
    · omega
    · exact ⟨hw, h, hf⟩
theorem drawOK (hM : P.follows .mixedOrders = true) (hE : Enters P) (hT : AtomOK P) (top : Nat) : DrawOK P G base top w0 := by
  intro call hCall N id ops t d A t' d' A' hreg h
  unfold drawA at h
  split at h
  rotate_left
  · cases h
  rename_i hst
  split at h
  rotate_left
  · cases h
  rename_i es htr
  unfold drawE at h
  split at h
  rotate_left
  · cases h
  rename_i hch
  cases h
  have hC := canon_of hCall hreg hst htr hch
  obtain ⟨hlen, ⟨e0, h0, h1, h2⟩, -⟩ := trace_spec htr
  have hE0 : getE (fillE es 0 .leaf) 0 = e0 := by
    have := getE_fill (es := es) (i := 0) (by omega)
    rw [h0] at this
    cases this
    rfl
  refine ⟨?_, fun ht m a w hst Q hout hq => ?_⟩
  · have := hC.next_le (i := 0) (j := ops.size) (Nat.zero_le _) (Nat.le_refl _)
    simp only [hE0, h2] at this
    simpa using this
  · refine draw_canon hM hE hT hC hCall (by simpa using ht) (by simp only [hE0, h1, h2]; exact hst) id hout ?_
    intro m' a' w' k1 k2 k3
    refine hq m' a' w' k1 (by simpa using k2) ?_
    simp only [hE0, h2] at k3
    simpa using k3
end
end Go.Am
end
