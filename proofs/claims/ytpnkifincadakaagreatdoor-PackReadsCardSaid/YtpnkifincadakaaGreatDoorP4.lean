/- Proved: part 4 of the proof of PackReads (AmS12, AmX1, AmX2, AmX3, AmX4). Conditions: each theorem states its own. -/
import Derived.Test.YtpnkifincadakaaGreatDoorP3
set_option linter.unusedVariables false
set_option linter.unusedSimpArgs false
section
namespace Go.Am
open Go.RowKit
section
variable {P : Program} {G base top : Nat} {w0 : World} {m : Mp} {A : Heap} {w : World}
theorem AV.maps {t : Tmps} {ρ : Operand → Value} {xs : Array Operand} (hv : ∀ x ∈ xs, VR m (evalA t x) (ρ x)) : AV m (xs.map (evalA t)) (xs.map ρ) := by
  refine ⟨by simp, fun i v v' h1 h2 => ?_⟩
  simp only [Array.getElem?_map, Option.map_eq_some_iff] at h1 h2
  obtain ⟨o1, e1, rfl⟩ := h1
  obtain ⟨o2, e2, rfl⟩ := h2
  rw [e1] at e2
  cases e2
  exact hv o1 (Array.mem_of_getElem? e1)
theorem ov_map {t : Tmps} {ρ : Operand → Value} {x : Option Operand} (hv : ∀ y, x = some y → VR m (evalA t y) (ρ y)) : OV m (mapO t x) (x.map ρ) := by
  cases x with
  | none => exact .none
  | some x => exact .some (hv x rfl)
theorem kindA_ok (hE : Enters P) (hT : AtomOK P) (h : HR P G base w0 top m A w) {t : Tmps} {o : Oper} {a : Act} (hv : ∀ x ∈ o.op.operands, VR m (evalA t x) (a.eval x)) :
    OpOK P G base w0 top m A w (execOp a.eval o) (kindA P G t o A) := by
  unfold kindA
  split <;> rename_i hop <;> simp only [hop, Op.operands] at hv <;> simp only [execOp, hop]
  · split
    · rename_i hz; exact OpOK.sr h (sr_alloc hz)
    · trivial
  · exact OpOK.sr h (sr_box _ (hv _ (by simp)))
  · rename_i parts
    have := pr_map (m := m) (evalA t) a.eval parts.toList (fun x hx => hv x.2 (by simp only [List.mem_toArray, List.mem_map]; exact ⟨x, hx, rfl⟩))
    refine buildA_ok h ?_
    simpa using this
  · rename_i parts
    have := pr_map (m := m) (evalA t) a.eval parts.toList (fun x hx => hv x.2 (by simp only [List.mem_toArray, List.mem_map]; exact ⟨x, hx, rfl⟩))
    refine rowA_ok h ?_
    simpa using this
  · exact OpOK.sr h (sr_makeInterface _ (hv _ (by simp)))
  · rename_i f x y
    have hx := AV.maps (t := t) (ρ := a.eval) (xs := x) (m := m) (fun z hz => hv z (by simp [hz]))
    have hy := AV.maps (t := t) (ρ := a.eval) (xs := y) (m := m) (fun z hz => hv z (by simp [hz]))
    split
    · trivial
    · rename_i hne
      refine OpOK.still h (run_v rfl) (.func ?_ hx.1 hx.2 hy.1 hy.2)
      cases f <;> first | rfl | exact absurd rfl (hne _)
  · split
    · exact OpOK.sr h (sr_makeMap _)
    · trivial
  · exact makeA_ok h (hv _ (by simp)) (hv _ (by simp))
  · exact OpOK.sr h (sr_field _ (hv _ (by simp)) _)
  · exact OpOK.sr h (sr_extract (hv _ (by simp)) _)
  · split
    · rename_i u A' hr
      exact OpOK.sru h (sr_storeAt _ (hv _ (by simp)) (hv _ (by simp))) hr
    · trivial
  · rename_i ty x lo hi mx
    exact sliceA_ok h (hv _ (by simp)) (ov_map fun y hy => hv y (by subst hy; simp)) (ov_map fun y hy => hv y (by subst hy; simp)) (ov_map fun y hy => hv y (by subst hy; simp))
  · exact binA_ok h (hv _ (by simp)) (hv _ (by simp))
  · exact stringA_ok h (hv _ (by simp))
  · exact lookA_ok h (hv _ (by simp)) (hv _ (by simp))
  · exact putA_ok h (hv _ (by simp)) (hv _ (by simp)) (hv _ (by simp))
  · exact putA_ok h (hv _ (by simp)) (hv _ (by simp)) (hv _ (by simp))
  · exact rangeA_ok h (hv _ (by simp))
  · split
    · trivial
    · exact nextA_ok h (hv _ (by simp)) _
  · exact entryA_ok h (hv _ (by simp))
  · exact deferA_ok h hv _
  · rename_i c
    split
    · rename_i b hc
      split
      · simp only [resolve, hc, Sem.run_bind]
        have := delA_ok h (c := c) (t := t) (a := a.eval) (fun x hx => hv x (by simp [Call.operands, hx])) o.type
        exact this
      · trivial
    · rename_i f hc
      simp only [resolve, hc]
      exact externA_ok hT h (hv f (by simp [Call.operands, hc])) (AV.maps fun x hx => hv x (by simp [Call.operands, hx]))
    · trivial
  · trivial
theorem slowA_ok (hE : Enters P) (hT : AtomOK P) (h : HR P G base w0 top m A w) {t : Tmps} {o : Oper} {a : Act} (hs : ∀ cs b, o.op ≠ .select cs b) (hv : ∀ x ∈ o.op.operands, VR m (evalA t x) (a.eval x)) :
    OpOK P G base w0 top m A w (execOp a.eval o) (slowA P G t o A) := by
  unfold slowA
  split
  · rename_i hp
    unfold plainRes
    split
    · rename_i v hr
      split
      · rename_i hpv
        exact OpOK.still h (plain_path hs hp hv hr w) (plain_self 60 hpv)
      · trivial
    · exact kindA_ok hE hT h hv
  · exact kindA_ok hE hT h hv
theorem convA_ok (hE : Enters P) (hT : AtomOK P) (h : HR P G base w0 top m A w) {t : Tmps} {o : Oper} {a : Act} {src dst : TypeId} {x : Operand} (hop : o.op = .convert src dst x) (hv : ∀ x ∈ o.op.operands, VR m (evalA t x) (a.eval x)) :
    OpOK P G base w0 top m A w (execOp a.eval o) (convA P G src dst t x o A) := by
  have hslow := slowA_ok hE hT h (t := t) (o := o) (a := a) (fun cs b e => by rw [hop] at e; cases e) hv
  unfold convA
  split
  · rename_i ad l c hx
    split
    · rename_i e1 e hs hd
      split
      · rename_i n tr el hsd he hG hA
        have hsd : src = dst := Nat.eq_of_beq_eq_true hsd
        have hxr := hv x (by simp [hop, Op.operands])
        rw [hx] at hxr
        have key : ∀ (a' : Addr) (c' : Nat), (∃ d, m ad.block = some (a'.block, d)) → a.eval x = .slice (some a') l c' → OpOK P G base w0 top m A w (execOp a.eval o) (.val (.slice (some ad) l c) A) := by
          rintro a' c' ⟨d, hm⟩ hax ht
          obtain ⟨-, r, d2, o', hm2, hw, hor⟩ := h.blk _ _ hA
          rw [hm] at hm2
          cases hm2
          cases hor with
          | cells hf hsz hval =>
            rename_i cs fr
            have hr : a'.block < w.heap.size := h.real _ _ _ hm
            have hfz : (w.freeze ⟨a'.block, cs.size, none⟩ 1).heap = w.heap.setIfInBounds a'.block (.cells cs el (if fr.1 == fr.2 then (cs.size, cs.size + 1) else (min fr.1 cs.size, max fr.2 (cs.size + 1)))) := by
              simp only [World.freeze]
              rw [if_neg (by omega)]
              apply Array.ext_getElem?
              intro i
              simp only [Array.getElem?_modify, Array.getElem?_setIfInBounds]
              split
              · rename_i e'; subst e'; rw [hw]; simp [hr]
              · rfl
            obtain ⟨hput, hkeep⟩ := h.put (b := ad.block) (r := a'.block) (d := d) (ble_true hG) hA hm (o := .cells n tr el) (o' := .cells cs el (if fr.1 == fr.2 then (cs.size, cs.size + 1) else (min fr.1 cs.size, max fr.2 (cs.size + 1))))
              (.cells (by
                split
                · exact .inr (Nat.le_refl _)
                · rename_i hne
                  refine .inr ?_
                  have : fr.1 ≠ fr.2 := by simpa using hne
                  simp only
                  omega) hsz hval) hfz rfl rfl rfl
            have hsame : ∀ i, hget (hset A ad.block (some (.cells n tr el))) i = hget A i := by
              intro i; rw [hget_set]; split
              · rename_i e'; rw [e', hA]
              · rfl
            have hput2 := hput.congr (B := A) rfl (fun i => (hsame i).symm)
            have hkeep2 : Keep G m A w m A (w.freeze ⟨a'.block, cs.size, none⟩ 1) := ⟨⟨hkeep.1.1, fun r hr hs => ⟨(hkeep.1.2 r hr hs).1, hs⟩⟩, Nat.le_refl _, fun _ => .inl rfl⟩
            refine ⟨m, .slice (some a') l c', _, Sub.refl _, .inl ?_, hax ▸ hxr, hput2, hkeep2⟩
            simp only [execOp, hop, hax]
            refine run_v ?_
            have hsh : w.shape? a'.block = some (el, cs.size) := by simp [World.shape?, hw]
            simp [convert, Sem.run_bind, run_underlying hs, run_underlying hd, run_underlying he, hsd, markStringish, shape, freeze, Sem.run, hsh]
        generalize hq : a.eval x = v' at hxr
        cases hxr with
        | slice l c ha => exact key _ _ ha.1 hq
        | sliceUp l c ha hd => exact key _ _ ha.1 hq
        | sliceEnd c hd => exact key _ _ ⟨_, hd⟩ hq
      · trivial
    · exact hslow
  · exact hslow
theorem opA_ok (hE : Enters P) (hT : AtomOK P) (h : HR P G base w0 top m A w) {t : Tmps} {o : Oper} {a : Act} (hv : ∀ x ∈ o.op.operands, VR m (evalA t x) (a.eval x)) :
    OpOK P G base w0 top m A w (execOp a.eval o) (opA P G t o A) := by
  unfold opA
  split
  case h_11 src dst x hop => exact convA_ok hE hT h hop hv
  case h_12 => trivial
  case h_13 hno => exact slowA_ok hE hT h (fun cs b e => hno cs b e) hv
  all_goals rename_i hop
  · simp only [hop, Op.operands] at hv
    simp only [execOp, hop]
    exact OpOK.still h rfl (hv _ (by simp))
  · simp only [hop, Op.operands] at hv
    simp only [execOp, hop]
    exact OpOK.still h rfl (hv _ (by simp))
  · rename_i c x y
    simp only [hop, Op.operands] at hv
    have hc := hv c (by simp)
    have hx := hv x (by simp)
    have hy := hv y (by simp)
    simp only [execOp, hop]
    unfold pickA
    split
    · rename_i hcb
      rw [hcb] at hc
      generalize hq : a.eval c = v' at hc
      cases hc
      exact OpOK.still h (by simp [Sem.run_bind, asBool, Sem.run_pure]) hx
    · rename_i hcb
      rw [hcb] at hc
      generalize hq : a.eval c = v' at hc
      cases hc
      exact OpOK.still h (by simp [Sem.run_bind, asBool, Sem.run_pure]) hy
    · trivial
  · rename_i op ty x y yt
    have hsl := slowA_ok hE hT h (t := t) (o := o) (a := a) (fun cs b e => by rw [hop] at e; cases e) hv
    refine OpOK.orA h (fun v hv2 => ?_) hsl
    simp only [hop, Op.operands] at hv
    have hx := hv x (by simp)
    have hy := hv y (by simp)
    have hint : ∃ p q : Nat, evalA t x = .int .i64 (p : Int) ∧ evalA t y = .int .i64 (q : Int) := by
      unfold binFast at hv2
      split at hv2
      · rename_i p hp
        split at hv2
        · rename_i q hq
          exact ⟨p, q, i64Of_is hp, i64Of_is hq⟩
        · cases hv2
      · cases hv2
    obtain ⟨p, q, e1, e2⟩ := hint
    have hx' : a.eval x = evalA t x := by rw [e1] at hx ⊢; generalize a.eval x = v' at hx; cases hx; rfl
    have hy' : a.eval y = evalA t y := by rw [e2] at hy ⊢; generalize a.eval y = v' at hy; cases hy; rfl
    obtain ⟨h1, h2⟩ := binFast_run (P := P) (ty := ty) (xo := x) (yo := y) hv2 w
    refine ⟨v, ?_, (h2 m).1⟩
    simp only [execOp, hop, hx', hy']
    exact run_v h1
  · rename_i ty x
    simp only [hop, Op.operands] at hv
    have hx := hv x (by simp)
    simp only [execOp, hop]
    cases hl : loadFast P ty (evalA t x) A with
    | none => trivial
    | some v =>
      have := OpOK.sr h (sr_loadAt ty hx)
      unfold runV at this
      rw [loadFast_run hl] at this
      exact this
  · rename_i ty x y
    have hsl := slowA_ok hE hT h (t := t) (o := o) (a := a) (fun cs b e => by rw [hop] at e; cases e) hv
    unfold storeA
    split
    · rename_i A' hst
      simp only [hop, Op.operands] at hv
      simp only [execOp, hop]
      exact OpOK.sru h (sr_storeAt ty (hv x (by simp)) (hv y (by simp))) (storeFast_run hst)
    · exact hsl
  · rename_i s x i
    simp only [hop, Op.operands] at hv
    simp only [execOp, hop]
    exact OpOK.valA h fun v hf => by
      obtain ⟨x', h1, h2⟩ := fieldFast_run hf (hv x (by simp)) w
      exact ⟨x', run_v h1, h2⟩
  · rename_i ty x i
    simp only [hop, Op.operands] at hv
    simp only [execOp, hop]
    exact OpOK.valA h fun v hf => by
      obtain ⟨x', h1, h2⟩ := indexFast_run hf (hv x (by simp)) (hv i (by simp)) w
      exact ⟨x', run_v h1, h2⟩
  · rename_i x
    simp only [hop, Op.operands] at hv
    exact OpOK.valA h fun v hf => nilFast_run hf (hv x (by simp)) o x hop a.eval rfl w
  · rename_i c
    have hsl := slowA_ok hE hT h (t := t) (o := o) (a := a) (fun cs b e => by rw [hop] at e; cases e) hv
    simp only [hop, Op.operands] at hv
    have hargs : AV m (c.args.map (evalA t)) (c.args.map a.eval) := AV.maps fun x hx => hv x (by simp [Call.operands, hx])
    unfold callA0
    split
    · rename_i f hc
      split
      · rename_i g xs hen
        simp only [execOp, hop, resolve, hc]
        obtain ⟨g', ys, ys', e1, h1, h2⟩ := enterFast_run hE hen (hv f (by simp [Call.operands, hc])) hargs w
        cases e1
        exact ⟨rfl, ys', h1, h2⟩
      · exact hsl
    · rename_i b hc
      split
      · split
        · rename_i v A' hap
          simp only [execOp, hop, resolve, hc, Sem.run_bind]
          intro ht
          obtain ⟨m', v', w', h1, h2, h3, h4, h5⟩ := appendA_ok h hargs (tys := c.argTypes) o.type v A' hap ht
          refine ⟨m', v', w', h1, .inl ?_, h3, h4, h5⟩
          exact run_v h2
        · trivial
      · split
        · rename_i x ty hx hty
          refine OpOK.orA h (fun v hl => ?_) hsl
          have hxr := hv x (by simp [Call.operands, Array.mem_of_getElem? hx])
          obtain ⟨x', h1, h2⟩ := lenFast_run (P := P) hl hxr c.argTypes (c.args.map a.eval) hty (by rw [Array.getElem?_map, hx]; rfl) o.type w
          refine ⟨x', ?_, h2⟩
          simp only [execOp, hop, resolve, hc, Sem.run_bind, Sem.run_pure, Result.andThen]
          exact run_v h1
        · trivial
      · exact hsl
    · trivial
end
end Go.Am
end
section
namespace Go.Am
open Go.RowKit
section
variable {P : Program} {G : Nat} {A : Heap}
def NextOK (A : Heap) : ORes → Prop
  | .no => True
  | .val _ B => A.next ≤ B.next
  | .enter _ _ B => A.next ≤ B.next
  | .defer _ B => A.next ≤ B.next
theorem next_val (v : Value) : NextOK A (.val v A) := Nat.le_refl _
theorem next_valA (x : Option Value) : NextOK A (valA x A) := by cases x <;> first | trivial | exact Nat.le_refl _
theorem next_orA (x : Option Value) {k : ORes} (h : NextOK A k) : NextOK A (orA x A k) := by cases x <;> first | exact h | exact Nat.le_refl _
theorem next_runV (s : Sem Value) : NextOK A (runV P G s A) := by
  unfold runV
  cases e : runA P G s A with
  | none => trivial
  | some r => exact runA_next s e
theorem next_binA (op : BinOp) (t : TypeId) (x y : Value) : NextOK A (binA P op t x y A) := by unfold binA; (repeat' split) <;> first | trivial | exact Nat.le_refl _
theorem next_sliceA (ty : TypeId) (x : Value) (lo hi mx : Option Value) : NextOK A (sliceA P ty x lo hi mx A) := by
  unfold sliceA sliceRow sliceArr; (repeat' split)
  all_goals first | trivial | exact Nat.le_refl _
theorem next_stringA (s d : TypeId) (x : Value) : NextOK A (stringA P s d x A) := by unfold stringA; (repeat' split) <;> first | trivial | exact Nat.le_refl _
theorem next_lookA (ty : TypeId) (x k : Value) (ok : Bool) : NextOK A (lookA P ty x k ok A) := by unfold lookA; (repeat' split) <;> first | trivial | exact Nat.le_refl _
theorem next_putA (ty : TypeId) (x k v : Value) : NextOK A (putA P G ty x k v A) := by unfold putA; (repeat' split) <;> first | trivial | exact Nat.le_refl _
theorem next_delA (c : Call) (t : Tmps) : NextOK A (delA P G c t A) := by unfold delA; (repeat' split) <;> first | trivial | exact Nat.le_refl _
theorem next_rangeA (ty : TypeId) (x : Value) : NextOK A (rangeA P ty x A) := by unfold rangeA; (repeat' split) <;> first | trivial | exact Nat.le_succ _
theorem next_nextA (x : Value) : NextOK A (nextA G x A) := by unfold nextA; (repeat' split) <;> first | trivial | exact Nat.le_refl _
theorem next_entryA (x : Value) : NextOK A (entryA x A) := by unfold entryA; (repeat' split) <;> first | trivial | exact Nat.le_refl _
theorem next_externA (f : Value) (args : Array Value) : NextOK A (externA P G f args A) := by
  unfold externA atomA; (repeat' split)
  all_goals first | trivial | exact Nat.le_refl _
theorem next_deferA (c : Call) (t : Tmps) : NextOK A (deferA c t A) := by unfold deferA; (repeat' split) <;> first | trivial | exact Nat.le_refl _
theorem next_buildA (ty : TypeId) (l : List (Nat × Value)) : NextOK A (buildA P ty l A) := by unfold buildA; (repeat' split) <;> first | trivial | exact Nat.le_refl _
theorem next_rowA (ty : TypeId) (n : Nat) (l : List (Nat × Value)) : NextOK A (rowA P ty n l A) := by unfold rowA; (repeat' split) <;> first | trivial | exact Nat.le_succ _
theorem next_makeA (ty : TypeId) (l c : Value) : NextOK A (makeA P ty l c A) := by unfold makeA; (repeat' split) <;> first | trivial | exact Nat.le_succ _
theorem next_kindA (t : Tmps) (o : Oper) : NextOK A (kindA P G t o A) := by
  unfold kindA
  split
  all_goals first
    | exact next_runV _
    | exact next_buildA _ _
    | exact next_rowA _ _ _
    | exact next_makeA _ _ _
    | exact next_sliceA _ _ _ _ _
    | exact next_binA _ _ _ _
    | exact next_stringA _ _ _
    | exact next_lookA _ _ _ _
    | exact next_putA _ _ _ _
    | exact next_rangeA _ _
    | exact next_entryA _
    | exact next_deferA _ _
    | skip
  · split
    · exact next_runV _
    · trivial
  · split
    · trivial
    · exact Nat.le_refl _
  · split
    · exact next_runV _
    · trivial
  · split
    · rename_i e; exact runA_next _ e
    · trivial
  · split
    · trivial
    · exact next_nextA _
  · split
    · split
      · exact next_delA _ _
      · trivial
    · exact next_externA _ _
    · trivial
  · trivial
theorem next_slowA (t : Tmps) (o : Oper) : NextOK A (slowA P G t o A) := by
  unfold slowA plainRes
  split
  · split
    · split
      · exact Nat.le_refl _
      · trivial
    · exact next_kindA _ _
  · exact next_kindA _ _
theorem next_appendA {args : Array Value} {ty : Array TypeId} {v : Value} {B : Heap} (h : appendA P G args ty A = some (v, B)) : A.next ≤ B.next := by
  unfold appendA at h
  split at h
  · split at h
    · split at h
      · split at h
        · split at h
          · unfold appendNil at h
            split at h
            · split at h <;> cases h
              · exact Nat.le_refl _
              · exact Nat.le_succ _
            · cases h
          · split at h
            · unfold appendRow at h
              split at h
              · split at h
                · split at h
                  · cases h; exact Nat.le_refl _
                  · cases h
                · split at h
                  · split at h
                    · cases h; exact Nat.le_succ _
                    · split at h
                      · cases h; exact Nat.le_succ _
                      · cases h
                  · cases h
                · cases h
              · cases h
            · cases h
          · cases h
        · cases h
      · cases h
    · cases h
  · cases h
theorem next_opA (t : Tmps) (o : Oper) : NextOK A (opA P G t o A) := by
  unfold opA
  split
  case h_6 => 
    unfold storeA
    split
    · rename_i h
      unfold storeFast at h
      split at h
      · split at h
        · split at h
          · cases h; exact Nat.le_refl _
          · cases h
        · cases h
      · cases h
    · exact next_slowA _ _
  case h_3 => unfold pickA; split <;> first | trivial | exact Nat.le_refl _
  case h_10 =>
    unfold callA0
    split
    · split
      · exact Nat.le_refl _
      · exact next_slowA _ _
    · split
      · split
        · rename_i h; exact next_appendA h
        · trivial
      · split
        · exact next_orA _ (next_slowA _ _)
        · trivial
      · exact next_slowA _ _
    · trivial
  case h_11 =>
    unfold convA
    split
    · split
      · split
        · exact Nat.le_refl _
        · trivial
      · exact next_slowA _ _
    · exact next_slowA _ _
  all_goals first
    | trivial
    | exact next_val _
    | exact next_valA _
    | exact next_orA _ (next_slowA _ _)
    | exact next_slowA _ _
end
end Go.Am
end
section
namespace Go.Am
open Go.RowKit
inductive DLR (m : Mp) : List Deferred → List Deferred → Prop
  | nil : DLR m [] []
  | cons {d d' : Deferred} {l l' : List Deferred} (h : DR m d d') (r : DLR m l l') : DLR m (d :: l) (d' :: l')
theorem DLR.mono {m m' : Mp} (h : Sub m m') {l l' : List Deferred} (k : DLR m l l') : DLR m' l l' := by
  induction k with
  | nil => exact .nil
  | cons h1 _ ih => exact .cons (h1.mono h) ih
structure St (P : Program) (G base : Nat) (w0 : World) (top : Nat) (m : Mp) (N : Nat) (t : Tmps) (d : List Deferred) (A : Heap) (a : Act) (w : World) : Prop where
  hr : HR P G base w0 top m A w
  tmps : ∀ n, VR m (getT t n) (a.tmps.getD n undef)
  size : N ≤ a.tmps.size
  defs : DLR m d a.defers
theorem vr_undef (m : Mp) : VR m undef undef := .tuple rfl (fun i v v' hv => by simp at hv)
section
variable {P : Program} {G base top : Nat} {w0 : World} {m : Mp} {A : Heap} {w : World} {N : Nat} {t : Tmps} {d : List Deferred} {a : Act}
theorem tmps_put (h : ∀ n, VR m (getT t n) (a.tmps.getD n undef)) (hN : N ≤ a.tmps.size) {dst : Option Tmp} (hd : dstOk N dst = true) {v v' : Value} (hv : VR m v v') :
    ∀ n, VR m (getT (putT t dst v) n) ((a.put dst v').tmps.getD n undef) := by
  intro n
  cases dst with
  | none => exact h n
  | some x =>
    have hx : x < N := blt_true hd
    simp only [putT, getT, Tr.get_set, Act.put]
    by_cases hn : n = x
    · subst hn
      rw [if_pos rfl]
      have : n < a.tmps.size := Nat.lt_of_lt_of_le hx hN
      simp [this, hv]
    · rw [if_neg hn]
      have := h n
      simp only [getT] at this
      have e : (a.tmps.setIfInBounds x v').getD n undef = a.tmps.getD n undef := by
        simp only [Array.getD_eq_getD_getElem?]
        rw [Array.getElem?_setIfInBounds_ne (fun e => hn e.symm)]
      rw [e]
      exact this
theorem St.put {dst : Option Tmp} (hd : dstOk N dst = true) {m' : Mp} (hs : Sub m m') {A' : Heap} {w' : World} (h : St P G base w0 top m N t d A a w) (hr : HR P G base w0 top m' A' w') {v v' : Value} (hv : VR m' v v') :
    St P G base w0 top m' N (putT t dst v) d A' (a.put dst v') w' := by
  refine ⟨hr, tmps_put (fun n => (h.tmps n).mono hs) h.size hd hv, ?_, ?_⟩
  · cases dst <;> simp [Act.put, h.size]
  · have := h.defs.mono hs
    cases dst <;> exact this
theorem St.opn (h : St P G base w0 top m N t d A a w) {l : List Operand} (hl : allOpn G l = true) : ∀ x ∈ l, VR m (evalA t x) (a.eval x) := by
  induction l with
  | nil => intro x hx; simp at hx
  | cons y l ih =>
    simp only [allOpn] at hl
    split at hl
    · rename_i hy
      intro x hx
      cases hx with
      | head =>
        cases y with
        | tmp n => exact h.tmps n
        | const v => exact plain_self 60 hy
        | global g => exact .ptr ⟨⟨0, h.hr.glob g (blt_true hy)⟩, rfl, rfl⟩
        | func f => exact .func rfl rfl (fun i v v' hv => by simp at hv) rfl (fun i v v' hv => by simp at hv)
      | tail _ hx => exact ih hl x hx
    · cases hl
theorem wanted_eq (h : ∀ n, VR m (getT t n) (a.tmps.getD n undef)) (ops : Array Oper) (g : Nat × Bool) : wantedA g ops t = (yielded ops a.tmps g.1 == some g.2) := by
  unfold wantedA yieldedA yielded
  cases hj : ops[g.1]? with
  | none => simp
  | some o =>
    simp only [Option.bind_some]
    cases hd : o.dst with
    | none => simp
    | some x =>
      simp only [Option.bind_some]
      have hx := h x
      cases hg : getT t x with
      | bool b =>
        rw [hg] at hx
        generalize hq : a.tmps.getD x undef = v' at hx
        cases hx
        have : a.tmps[x]? = some (.bool b) := by
          rw [Array.getD_eq_getD_getElem?] at hq
          cases hr : a.tmps[x]? with
          | none => rw [hr] at hq; simp [undef] at hq
          | some u => rw [hr] at hq; simp at hq; rw [hq]
        simp [this]
      | _ =>
        rw [hg] at hx
        have hnb : ∀ b, a.tmps[x]? ≠ some (.bool b) := by
          intro b hb
          rw [Array.getD_eq_getD_getElem?, hb] at hx
          simp at hx
          cases hx
        simp only
        cases hr : a.tmps[x]? with
        | none => rfl
        | some u => cases u <;> first | rfl | exact absurd hr (hnb _)
def LetsOut (_ : Exit → Act → World → Prop) : Prop := True
def CR (P : Program) (G base : Nat) (w0 : World) (top : Nat) (m : Mp) (A : Heap) (w : World) (v : Value) (A' : Heap) : Ending → World → Prop
  | .returned v', w' => ∃ m', Sub m m' ∧ VR m' v v' ∧ HR P G base w0 top m' A' w' ∧ Keep G m A w m' A' w'
  | .outgrown, _ => False
  | .panicked _, _ => False
def CallOK (P : Program) (G base : Nat) (w0 : World) (top : Nat) (call : CallF) : Prop :=
  ∀ f args A v A', call f args A = some (v, A') → A.next ≤ A'.next ∧ (A'.next ≤ top → ∀ m args' w, AV m args args' → HR P G base w0 top m A w → Calls P f args' w (CR P G base w0 top m A w v A'))
theorem regionA_next {call : CallF} (hC : CallOK P G base w0 top call) (ops : Array Oper) : ∀ (l : List Oper) {t : Tmps} {d : List Deferred} {A : Heap} {t' : Tmps} {d' : List Deferred} {A' : Heap}, regionA P G call ops l t d A = .ok t' d' A' → A.next ≤ A'.next := by
  intro l
  induction l with
  | nil => intro t d A t' d' A' h; cases h; exact Nat.le_refl _
  | cons o l ih =>
    intro t d A t' d' A' h
    have e : regionA P G call ops (o :: l) t d A = opStep P G call ops o (regionA P G call ops l) t d A := rfl
    rw [e] at h
    unfold opStep at h
    have go : opGo call o.dst t d (regionA P G call ops l) (opA P G t o A) = .ok t' d' A' → A.next ≤ A'.next := by
      intro h
      have hn := next_opA (P := P) (G := G) (A := A) t o
      unfold opGo at h
      split at h
      · cases h
      · rename_i v B e; rw [e] at hn; exact Nat.le_trans hn (ih h)
      · rename_i f args B e
        rw [e] at hn
        split at h
        · rename_i v C hc
          exact Nat.le_trans hn (Nat.le_trans (hC _ _ _ _ _ hc).1 (ih h))
        · cases h
      · rename_i x B e; rw [e] at hn; exact Nat.le_trans hn (ih h)
    split at h
    · exact go h
    · split at h
      · exact go h
      · exact ih h
theorem regionA_ok (hE : Enters P) (hT : AtomOK P) {call : CallF} (hC : CallOK P G base w0 top call) (ops : Array Oper) : ∀ (l : List Oper) (k : Nat) {m : Mp} {t : Tmps} {d : List Deferred} {A : Heap} {a : Act} {w : World} {t' : Tmps} {d' : List Deferred} {A' : Heap},
    (∀ j, l[j]? = ops[k + j]?) → regOk G N l = true → St P G base w0 top m N t d A a w → regionA P G call ops l t d A = .ok t' d' A' → A'.next ≤ top →
    ∀ Q : Exit → Act → World → Prop, LetsOut Q → (∀ m' a' w', Sub m m' → St P G base w0 top m' N t' d' A' a' w' → Keep G m A w m' A' w' → Q .normal a' w') → wpOps P ops Q (List.range' k l.length) a w := by
  intro l
  induction l with
  | nil =>
    intro k m t d A a w t' d' A' _ _ hst h ht Q _ hq
    cases h
    exact hq m a w (Sub.refl _) hst (Keep.refl _ _ _ _)
  | cons o l ih =>
    intro k m t d A a w t' d' A' hl hok hst h ht Q hout hq
    have hko : ops[k]? = some o := by have := hl 0; simpa using this.symm
    have hl' : ∀ j, l[j]? = ops[k + 1 + j]? := fun j => by
      have := hl (j + 1)
      rw [show k + (j + 1) = k + 1 + j by omega] at this
      simpa using this
    simp only [regOk] at hok
    split at hok
    rotate_left
    · cases hok
    rename_i hopn hdst
    have e : regionA P G call ops (o :: l) t d A = opStep P G call ops o (regionA P G call ops l) t d A := rfl
    rw [e] at h
    have hr : List.range' k (o :: l).length = k :: List.range' (k + 1) l.length := rfl
    rw [hr]
    simp only [wpOps, hko]
    have rest : ∀ {m1 t1 d1 B a1 w1}, Sub m m1 → St P G base w0 top m1 N t1 d1 B a1 w1 → Keep G m A w m1 B w1 → regionA P G call ops l t1 d1 B = .ok t' d' A' → wpOps P ops Q (List.range' (k + 1) l.length) a1 w1 := by
      intro m1 t1 d1 B a1 w1 hs1 hst1 hk1 h1
      exact ih (k + 1) hl' hok hst1 h1 ht Q hout fun m' a' w' hs hst' hk => hq m' a' w' (hs1.trans hs) hst' (hk1.trans hk)
    have go : opGo call o.dst t d (regionA P G call ops l) (opA P G t o A) = .ok t' d' A' → o.wp P a w (wpOps P ops Q (List.range' (k + 1) l.length)) Q := by
      intro hh
      have hop := opA_ok hE hT hst.hr (t := t) (o := o) (a := a) (fun x hx => hst.opn hopn x (by simpa using hx))
      unfold Oper.wp
      unfold opGo at hh
      split at hh
      · cases hh
      · rename_i v B e1
        rw [e1] at hop
        have hB : B.next ≤ top := Nat.le_trans (regionA_next hC ops l hh) ht
        obtain ⟨m', v', w', h1, h2, h3, h4, h5⟩ := hop hB
        rcases h2 with h2 | ⟨rfl, h2⟩
        · rw [h2]; exact rest h1 (hst.put hdst h1 h4 h3) h5 hh
        · rw [h2]; exact rest h1 (hst.put hdst h1 h4 h3) h5 hh
      · rename_i f args B e1
        rw [e1] at hop
        obtain ⟨rfl, args', h2, h3⟩ := hop
        split at hh
        · rename_i v C hc
          obtain ⟨hn, hcall⟩ := hC _ _ _ _ _ hc
          have hCt : C.next ≤ top := Nat.le_trans (regionA_next hC ops l hh) ht
          rw [h2]
          refine (hcall hCt m args' w h3 hst.hr).mono fun e w' he => ?_
          cases e with
          | returned v' =>
            obtain ⟨m', k1, k2, k3, k4⟩ := he
            exact rest k1 (hst.put hdst k1 k3 k2) k4 hh
          | panicked ch => exact he.elim
          | outgrown => exact he.elim
        · cases hh
      · rename_i x B e1
        rw [e1] at hop
        obtain ⟨rfl, x', h2, h3⟩ := hop
        rw [h2]
        have hst2 : St P G base w0 top m N t (x :: d) B { a with defers := x' :: a.defers } w := ⟨hst.hr, hst.tmps, hst.size, .cons h3 hst.defs⟩
        exact rest (Sub.refl _) (hst2.put hdst (Sub.refl _) hst.hr (vr_undef m)) (Keep.refl _ _ _ _) hh
    unfold opStep at h
    split at h
    · rename_i hg
      rw [show Region.wanted o (yielded ops a.tmps) = true by simp [Region.wanted, hg]]
      exact .inl (go h)
    · rename_i g hg
      have hw := wanted_eq hst.tmps ops g
      split at h
      · rename_i hwt
        rw [show Region.wanted o (yielded ops a.tmps) = true by simp only [Region.wanted, hg]; rw [← hw]; exact hwt]
        exact .inl (go h)
      · rename_i hwt
        rw [show Region.wanted o (yielded ops a.tmps) = false by simp only [Region.wanted, hg]; rw [← hw]; exact hwt]
        exact rest (Sub.refl _) (hst.put hdst (Sub.refl _) hst.hr (vr_undef m)) (Keep.refl _ _ _ _) h
end
end Go.Am
end
section
namespace Go.Am
open Go.RowKit
section rules
variable {P : Program} {Q : Exit → Act → World → Prop} {a : Act} {w : World}
def loopWp (P : Program) (c : Code) (Q : Exit → Act → World → Prop) (a : Act) (w : World) : Prop :=
  ∀ (b : Frame) (k : List Item) (cs : List Frame), ∃ e a' w', Q e a' w' ∧ Arrives P (lone (b.at a (.code c :: .inLoop c :: k)) cs w) b k cs e a' w'
theorem loopWp_round {c : Code} (h : c.wp P (Exit.then (loopWp P c Q) Q) a w) : loopWp P c Q a w := by
  intro b k cs
  obtain ⟨e, a₁, w₁, hq, harr⟩ := h b (.inLoop c :: k) cs
  cases e with
  | normal =>
    obtain ⟨e₂, a₂, w₂, hq₂, harr₂⟩ := hq b k cs
    exact ⟨e₂, a₂, w₂, hq₂, .of_steps (Steps.trans harr (.one step_inLoop)) harr₂⟩
  | exit id => exact ⟨_, a₁, w₁, hq, .pass (x := .inLoop c) rfl (fun _ _ => .inl (by simp)) harr⟩
  | goto l => exact ⟨_, a₁, w₁, hq, .pass (x := .inLoop c) rfl (fun _ _ => .inl (by simp)) harr⟩
  | ret => exact ⟨_, a₁, w₁, hq, .pass (x := .inLoop c) rfl (fun _ _ => .inl (by simp)) harr⟩
  | panic ch => exact ⟨_, a₁, w₁, hq, .pass (x := .inLoop c) rfl (fun _ _ => .inl (by simp)) harr⟩
  | outgrown => exact ⟨_, a₁, w₁, hq, .pass (x := .inLoop c) rfl (fun _ _ => .inl (by simp)) harr⟩
def cwp (P : Program) (c : Code) (Q : Exit → Act → World → Prop) (a : Act) (w : World) : Prop :=
  match c with
  | .loop c => loopWp P c Q a w
  | c => c.wp P Q a w
theorem cwp_wp {c : Code} (h : cwp P c Q a w) : c.wp P Q a w := by
  cases c <;> first
    | exact h
    | (intro b k cs
       obtain ⟨e, a₁, w₁, hq, harr⟩ := h b k cs
       exact ⟨e, a₁, w₁, hq, .of_steps (.one step_loop) harr⟩)
def scopeWp (P : Program) (c : Code) (l : Nat) (Q : Exit → Act → World → Prop) (a : Act) (w : World) : Prop :=
  match findLabel c l with
  | none => Q (.goto l) a w
  | some rest => ∀ (b : Frame) (k : List Item) (cs : List Frame), ∃ e a' w', Q e a' w' ∧ Arrives P (lone (b.at a (.code rest :: .inScope c :: k)) cs w) b k cs e a' w'
def Exit.inScope (P : Program) (c : Code) (Q : Exit → Act → World → Prop) : Exit → Act → World → Prop
  | .goto l, a, w => scopeWp P c l Q a w
  | e, a, w => Q e a w
theorem scope_go {c x : Code} (h : x.wp P (Exit.inScope P c Q) a w) (b : Frame) (k : List Item) (cs : List Frame) :
    ∃ e a' w', Q e a' w' ∧ Arrives P (lone (b.at a (.code x :: .inScope c :: k)) cs w) b k cs e a' w' := by
  obtain ⟨e, a₁, w₁, hq, harr⟩ := h b (.inScope c :: k) cs
  cases e with
  | normal => exact ⟨.normal, a₁, w₁, hq, Steps.trans harr (.one step_inScope)⟩
  | exit id => exact ⟨.exit id, a₁, w₁, hq, fun k' hk => harr k' (by simp [exitTo, hk])⟩
  | goto l =>
    simp only [Exit.inScope, scopeWp] at hq
    split at hq
    · rename_i hf
      exact ⟨.goto l, a₁, w₁, hq, fun k' hk => harr k' (by simp [gotoIn, hf, hk])⟩
    · rename_i rest hf
      obtain ⟨e, a₂, w₂, hq₂, harr₂⟩ := hq b k cs
      exact ⟨e, a₂, w₂, hq₂, .of_steps (harr _ (by simp [gotoIn, hf])) harr₂⟩
  | ret => exact ⟨_, a₁, w₁, hq, harr⟩
  | panic ch => exact ⟨_, a₁, w₁, hq, harr⟩
  | outgrown => exact ⟨_, a₁, w₁, hq, harr⟩
theorem wp_scope {c : Code} (h : c.wp P (Exit.inScope P c Q) a w) : (Code.scope c).wp P Q a w := by
  intro b k cs
  obtain ⟨e, a₁, w₁, hq, harr⟩ := scope_go h b k cs
  exact ⟨e, a₁, w₁, hq, .of_steps (.one step_scope) harr⟩
theorem scopeWp_some {c rest : Code} {l : Nat} (hf : findLabel c l = some rest) (h : rest.wp P (Exit.inScope P c Q) a w) : scopeWp P c l Q a w := by
  unfold scopeWp
  rw [hf]
  exact scope_go h
end rules
def AExit.to : AExit → Exit
  | .normal => .normal
  | .exit id => .exit id
  | .goto l => .goto l
  | .ret => .ret
section
variable (P : Program) (G base top : Nat) (w0 : World)
def ResOK (wpf : (Exit → Act → World → Prop) → Act → World → Prop) (N : Nat) (t : Tmps) (d : List Deferred) (A : Heap) (r : XRes) : Prop :=
  ∀ e t' d' A', r = .ok e t' d' A' → A.next ≤ A'.next ∧ (A'.next ≤ top → ∀ m a w, St P G base w0 top m N t d A a w → ∀ Q : Exit → Act → World → Prop, LetsOut Q →
    (∀ m' a' w', Sub m m' → St P G base w0 top m' N t' d' A' a' w' → Keep G m A w m' A' w' → Q e.to a' w') → wpf Q a w)
def LeavesOK (lv : Func → Tmps → List Deferred → Heap → Option (Value × Heap)) : Prop :=
  ∀ fn N t d A v A', lv fn t d A = some (v, A') → A.next ≤ A'.next ∧ (A'.next ≤ top → ∀ m a w, St P G base w0 top m N t d A a w → ∀ R : Ending → World → Prop, True → True →
    (∀ v' m' w', Sub m m' → VR m' v v' → HR P G base w0 top m' A' w' → Keep G m A w m' A' w' → R (.returned v') w') → Leaves P fn a.tmps R a.defers .returning w)
end
structure FnsOK (P : Program) (G base : Nat) (w0 : World) (F : Fns) : Prop where
  exec : ∀ top N c t d A, ResOK P G base top w0 (cwp P c) N t d A (F.exec N c t d A)
  scope : ∀ top N c l t d A, ResOK P G base top w0 (scopeWp P c l) N t d A (F.scope N c l t d A)
  call : ∀ top, CallOK P G base w0 top F.call
  leaves : ∀ top, LeavesOK P G base top w0 F.leaves
section
variable {P : Program} {G base top : Nat} {w0 : World}
theorem lets_mono {Q Q' : Exit → Act → World → Prop} (h : LetsOut Q) (hq : ∀ a w, Q .outgrown a w → Q' .outgrown a w) : LetsOut Q' := trivial
theorem seq_ok {F : Fns} (hF : FnsOK P G base w0 F) {N : Nat} {x y : Code} {t : Tmps} {d : List Deferred} {A : Heap} {wpf : (Exit → Act → World → Prop) → Act → World → Prop}
    (hw : ∀ Q a w, x.wp P (Exit.then (fun a w => cwp P y Q a w) Q) a w → wpf Q a w) : ResOK P G base top w0 wpf N t d A (seqA F N y (F.exec N x t d A)) := by
  intro e t' d' A' h
  have h1 := hF.exec top N x t d A
  unfold seqA at h
  split at h
  · cases h
  · rename_i e1 t1 d1 B hx
    obtain ⟨hn1, hok1⟩ := h1 _ _ _ _ hx
    split at h
    · obtain ⟨hn2, hok2⟩ := hF.exec top N y t1 d1 B _ _ _ _ h
      refine ⟨Nat.le_trans hn1 hn2, fun ht m a w hst Q hout hq => hw Q a w (cwp_wp ?_)⟩
      refine hok1 (Nat.le_trans hn2 ht) m a w hst _ (lets_mono hout fun _ _ h => h) ?_
      intro m1 a1 w1 hs1 hst1 hk1
      exact hok2 ht m1 a1 w1 hst1 Q hout fun m' a' w' hs hst' hk => hq m' a' w' (hs1.trans hs) hst' (hk1.trans hk)
    · rename_i hne
      cases h
      refine ⟨hn1, fun ht m a w hst Q hout hq => hw Q a w (cwp_wp ?_)⟩
      refine hok1 ht m a w hst _ (lets_mono hout fun _ _ h => h) ?_
      intro m1 a1 w1 hs1 hst1 hk1
      have := hq m1 a1 w1 hs1 hst1 hk1
      cases e <;> first | exact absurd rfl hne | exact this
theorem block_ok {F : Fns} (hF : FnsOK P G base w0 F) {N id : Nat} {x : Code} {t : Tmps} {d : List Deferred} {A : Heap} : ResOK P G base top w0 (fun Q a w => (Code.block id x).wp P Q a w) N t d A (blockA id (F.exec N x t d A)) := by
  intro e t' d' A' h
  have h1 := hF.exec top N x t d A
  unfold blockA at h
  split at h
  · cases h
  · rename_i e1 t1 d1 B hx
    obtain ⟨hn1, hok1⟩ := h1 _ _ _ _ hx
    split at h
    · rename_i id'
      split at h
      · rename_i hid
        have hid : id' = id := Nat.eq_of_beq_eq_true hid
        cases h
        refine ⟨hn1, fun ht m a w hst Q hout hq => wp_block (cwp_wp ?_)⟩
        refine hok1 ht m a w hst _ (lets_mono hout fun _ _ h => h) ?_
        intro m1 a1 w1 hs1 hst1 hk1
        simp only [AExit.to, Exit.inBlock, hid, if_true]
        exact hq m1 a1 w1 hs1 hst1 hk1
      · rename_i hid
        have hid : id' ≠ id := fun e => by subst e; simp at hid
        cases h
        refine ⟨hn1, fun ht m a w hst Q hout hq => wp_block (cwp_wp ?_)⟩
        refine hok1 ht m a w hst _ (lets_mono hout fun _ _ h => h) ?_
        intro m1 a1 w1 hs1 hst1 hk1
        simp only [AExit.to, Exit.inBlock, hid, if_false]
        exact hq m1 a1 w1 hs1 hst1 hk1
    · rename_i hne
      cases h
      refine ⟨hn1, fun ht m a w hst Q hout hq => wp_block (cwp_wp ?_)⟩
      refine hok1 ht m a w hst _ (lets_mono hout fun _ _ h => h) ?_
      intro m1 a1 w1 hs1 hst1 hk1
      have := hq m1 a1 w1 hs1 hst1 hk1
      cases e <;> first | exact absurd rfl (hne _) | exact this
theorem scope_ok {F : Fns} (hF : FnsOK P G base w0 F) {N : Nat} {x y : Code} {t : Tmps} {d : List Deferred} {A : Heap} {wpf : (Exit → Act → World → Prop) → Act → World → Prop}
    (hw : ∀ Q a w, x.wp P (Exit.inScope P y Q) a w → wpf Q a w) : ResOK P G base top w0 wpf N t d A (scopeA F N y (F.exec N x t d A)) := by
  intro e t' d' A' h
  have h1 := hF.exec top N x t d A
  unfold scopeA at h
  split at h
  · cases h
  · rename_i e1 t1 d1 B hx
    obtain ⟨hn1, hok1⟩ := h1 _ _ _ _ hx
    split at h
    · rename_i l
      obtain ⟨hn2, hok2⟩ := hF.scope top N y l t1 d1 B _ _ _ _ h
      refine ⟨Nat.le_trans hn1 hn2, fun ht m a w hst Q hout hq => hw Q a w (cwp_wp ?_)⟩
      refine hok1 (Nat.le_trans hn2 ht) m a w hst _ (lets_mono hout fun _ _ h => h) ?_
      intro m1 a1 w1 hs1 hst1 hk1
      exact hok2 ht m1 a1 w1 hst1 Q hout fun m' a' w' hs hst' hk => hq m' a' w' (hs1.trans hs) hst' (hk1.trans hk)
    · rename_i hne
      cases h
      refine ⟨hn1, fun ht m a w hst Q hout hq => hw Q a w (cwp_wp ?_)⟩
      refine hok1 ht m a w hst _ (lets_mono hout fun _ _ h => h) ?_
      intro m1 a1 w1 hs1 hst1 hk1
      have := hq m1 a1 w1 hs1 hst1 hk1
      cases e <;> first | exact absurd rfl (hne _) | exact this
def DrawOK (P : Program) (G base top : Nat) (w0 : World) : Prop :=
  ∀ (call : CallF), (∀ top, CallOK P G base w0 top call) → ∀ (N id : Nat) (ops : Array Oper) (t : Tmps) (d : List Deferred) (A : Heap) (t' : Tmps) (d' : List Deferred) (A' : Heap), regOk G N ops.toList = true → drawA P G call ops t d A = .ok t' d' A' →
    A.next ≤ A'.next ∧ (A'.next ≤ top → ∀ m a w, St P G base w0 top m N t d A a w → ∀ Q : Exit → Act → World → Prop, LetsOut Q →
      (∀ m' a' w', Sub m m' → St P G base w0 top m' N t' d' A' a' w' → Keep G m A w m' A' w' → Q .normal a' w') → (Code.region id ops true).wp P Q a w)
theorem exec_ok (hE : Enters P) (hT : AtomOK P) (hD : DrawOK P G base top w0) {F : Fns} (hF : FnsOK P G base w0 F) (N : Nat) (c : Code) (t : Tmps) (d : List Deferred) (A : Heap) :
    ResOK P G base top w0 (cwp P c) N t d A (execA P G F N c t d A) := by
  cases c with
  | skip =>
    intro e t' d' A' h
    cases h
    exact ⟨Nat.le_refl _, fun ht m a w hst Q hout hq => wp_skip (hq m a w (Sub.refl _) hst (Keep.refl _ _ _ _))⟩
  | label l =>
    intro e t' d' A' h
    cases h
    exact ⟨Nat.le_refl _, fun ht m a w hst Q hout hq => wp_label (hq m a w (Sub.refl _) hst (Keep.refl _ _ _ _))⟩
  | ret =>
    intro e t' d' A' h
    cases h
    exact ⟨Nat.le_refl _, fun ht m a w hst Q hout hq => wp_ret (hq m a w (Sub.refl _) hst (Keep.refl _ _ _ _))⟩
  | exit id =>
    intro e t' d' A' h
    cases h
    exact ⟨Nat.le_refl _, fun ht m a w hst Q hout hq => wp_exit (hq m a w (Sub.refl _) hst (Keep.refl _ _ _ _))⟩
  | goto l =>
    intro e t' d' A' h
    cases h
    exact ⟨Nat.le_refl _, fun ht m a w hst Q hout hq => wp_goto (hq m a w (Sub.refl _) hst (Keep.refl _ _ _ _))⟩
  | seq x y => exact seq_ok hF fun Q a w h => wp_seq (wp_mono h fun e a w hq => by cases e <;> first | exact cwp_wp hq | exact hq)
  | cond x y z =>
    intro e t' d' A' h
    have e1 : execA P G F N (.cond x y z) t d A = condA F N (evalA t x) y z t d A := rfl
    rw [e1] at h
    unfold condA at h
    have hval : ∀ m a w b, St P G base w0 top m N t d A a w → evalA t x = .bool b → a.eval x = .bool b := by
      intro m a w b hst hx
      cases x with
      | tmp n =>
        have := hst.tmps n
        have hx' : getT t n = .bool b := hx
        rw [hx'] at this
        show a.tmps.getD n undef = _
        generalize a.tmps.getD n undef = v' at this
        cases this; rfl
      | const v => exact hx
      | global g => cases hx
      | func f => cases hx
    split at h
    · rename_i hx
      obtain ⟨hn, hok⟩ := hF.exec top N y t d A _ _ _ _ h
      exact ⟨hn, fun ht m a w hst Q hout hq => wp_cond_true (hval m a w true hst hx) (cwp_wp (hok ht m a w hst Q hout hq))⟩
    · rename_i hx
      obtain ⟨hn, hok⟩ := hF.exec top N z t d A _ _ _ _ h
      exact ⟨hn, fun ht m a w hst Q hout hq => wp_cond_false (hval m a w false hst hx) (cwp_wp (hok ht m a w hst Q hout hq))⟩
    · cases h
  | block id x => exact block_ok hF
  | loop x => exact seq_ok hF fun Q a w h => loopWp_round h
  | scope x => exact scope_ok hF fun Q a w h => wp_scope h
  | region id ops draw =>
    intro e t' d' A' h
    have e1 : execA P G F N (.region id ops draw) t d A = areaA P G F N ops draw t d A := rfl
    rw [e1] at h
    unfold areaA at h
    split at h
    rotate_left
    · cases h
    rename_i hok
    split at h
    · unfold regA at h
      split at h
      · cases h
      · rename_i t1 d1 B hr
        cases h
        refine ⟨regionA_next (hF.call top) ops _ hr, fun ht m a w hst Q hout hq => wp_region ?_⟩
        have := regionA_ok hE hT (hF.call top) ops ops.toList 0 (fun j => by simp) hok hst hr ht Q hout hq
        rw [List.range_eq_range']
        simpa using this
    · unfold regA at h
      split at h
      · cases h
      · rename_i t1 d1 B hr
        cases h
        obtain ⟨hn, hdr⟩ := hD F.call hF.call N id ops t d A _ _ _ hok hr
        exact ⟨hn, hdr⟩
  | rangeFunc f ps x y => intro e t' d' A' h; cases h
  | refuse s => intro e t' d' A' h; cases h
theorem jump_ok {F : Fns} (hF : FnsOK P G base w0 F) (N : Nat) (c : Code) (l : Nat) (t : Tmps) (d : List Deferred) (A : Heap) : ResOK P G base top w0 (scopeWp P c l) N t d A (jumpA F N c l t d A) := by
  unfold jumpA
  split
  · rename_i hf
    intro e t' d' A' h
    cases h
    refine ⟨Nat.le_refl _, fun ht m a w hst Q hout hq => ?_⟩
    unfold scopeWp
    rw [hf]
    exact hq m a w (Sub.refl _) hst (Keep.refl _ _ _ _)
  · rename_i rest hf
    exact scope_ok hF fun Q a w h => scopeWp_some hf h
end
end Go.Am
end
section
namespace Go.Am
open Go.RowKit
section
variable {P : Program} {G base top : Nat} {w0 : World}
def RO (P : Program) {α : Type} (s : Sem α) : Prop := ∀ w v w', s.run P w = .ok v w' → w' = w
theorem RO.bind {α β : Type} {s : Sem α} {f : α → Sem β} (h : RO P s) (hf : ∀ a, RO P (f a)) : RO P (s >>= f) := by
  intro w v w' e
  rw [Sem.run_bind] at e
  cases hs : s.run P w with
  | ok a w1 =>
    rw [hs] at e
    have := h w a w1 hs
    subst this
    exact hf a _ _ _ e
  | halt x w1 => rw [hs] at e; cases e
theorem RO.pure {α : Type} (a : α) : RO P (Pure.pure a : Sem α) := fun w v w' e => by cases e; rfl
theorem RO.load (a : Addr) : RO P (load a) := by
  intro w v w' e
  simp only [Go.load, Sem.run] at e
  split at e
  · cases e; rfl
  · split at e
    · cases e; rfl
    · cases e
theorem RO.halt {α : Type} (x : Halt) : RO P (.halt x : Sem α) := fun w v w' e => by cases e
theorem RO.program : RO P program := fun w v w' e => by cases e; rfl
theorem RO.underlying (t : TypeId) : RO P (underlying t) := by
  refine RO.program.bind fun p => ?_
  cases p.underlying t <;> first | exact .pure _ | exact .halt _
theorem RO.typeInfo (t : TypeId) : RO P (typeInfo t) := by
  refine RO.program.bind fun p => ?_
  cases p.info? t <;> first | exact .pure _ | exact .halt _
theorem RO.sizeOf (t : TypeId) : RO P (sizeOf t) := (RO.typeInfo t).bind fun _ => .pure _
theorem RO.isAgg (t : TypeId) : RO P (isAgg t) := (RO.underlying t).bind fun d => by cases d <;> exact .pure _
theorem RO.loadCellsFrom (a : Addr) (n : Nat) : ∀ (i : Nat) (x : Array Value), RO P (loadCellsFrom a i n x) := by
  induction n with
  | zero => exact fun i x => .pure _
  | succ n ih => exact fun i x => (RO.load _).bind fun v => ih _ _
theorem RO.loadVar (t : TypeId) (a : Addr) : RO P (loadVar t a) := by
  refine (RO.isAgg t).bind fun b => ?_
  cases b
  · exact .load a
  · exact (RO.sizeOf t).bind fun n => (RO.loadCellsFrom a n 0 #[]).bind fun x => .pure _
theorem RO.asAddr (v : Value) : RO P (asAddr v) := by
  cases v with
  | pointer a =>
    cases a with
    | some a => exact .pure _
    | none => exact RO.program.bind fun p => .halt _
  | _ => exact .halt _
theorem RO.mapM {α β : Type} (f : α → Sem β) (hf : ∀ a, RO P (f a)) : ∀ (l : List α), RO P (l.mapM f)
  | [] => .pure _
  | a :: l => by
    rw [List.mapM_cons]
    exact (hf a).bind fun b => (RO.mapM f hf l).bind fun bs => .pure _
theorem RO.results (fn : Func) (tm : Array Value) : RO P (results fn tm) := by
  unfold Go.results
  rw [Array.mapM_eq_mapM_toList]
  refine RO.bind ?_ fun vs => .pure _
  rw [map_eq_pure_bind]
  refine RO.bind (RO.mapM _ (fun r => ?_) _) fun l => .pure _
  cases r with
  | tmp t => exact .pure _
  | cell a t => exact (RO.asAddr _).bind fun a => .loadVar t a
theorem sr_asAddr {m : Mp} {v v' : Value} (h : VR m v v') : SR P AR m (asAddr v) (asAddr v') := by
  cases h with
  | ptr e => exact .pure e
  | pnil => exact .program .halt
  | _ => exact .halt
theorem sr_mapM {m : Mp} {f f' : ResultVar → Sem Value} (hf : ∀ m' r, Sub m m' → SR P VR m' (f r) (f' r)) : ∀ (l : List ResultVar) {m' : Mp}, Sub m m' → SR P LR m' (l.mapM f) (l.mapM f')
  | [], m', hs => .pure .nil
  | r :: l, m', hs => by
    rw [List.mapM_cons, List.mapM_cons]
    refine (hf m' r hs).bind fun m2 v v' hs2 hv => ?_
    refine (sr_mapM hf l (hs.trans hs2)).bind fun m3 x x' hs3 hx => ?_
    exact .pure (.cons (hv.mono hs3) hx)
theorem LR.array {m : Mp} {l l' : List Value} (h : LR m l l') : AV m l.toArray l'.toArray := by
  refine ⟨by simp [h.len], fun i v v' a b => ?_⟩
  obtain ⟨u, h1, h2⟩ := h.get (i := i) (v := v) (by simpa using a)
  have : some u = some v' := by rw [← h1]; simpa using b
  cases this
  exact h2
theorem sr_results {m : Mp} {t : Tmps} {tm : Array Value} (h : ∀ n, VR m (getT t n) (tm.getD n undef)) (fn : Func) :
    SR P VR m (do
      let vs ← fn.results.mapM fun
        | .tmp x => pure (getT t x)
        | .cell a ty => do loadVar ty (← asAddr (getT t a))
      pure (if h : vs.size = 1 then vs[0] else .tuple vs)) (results fn tm) := by
  unfold Go.results
  rw [Array.mapM_eq_mapM_toList, Array.mapM_eq_mapM_toList]
  refine SR.bind (R := AV) ?_ fun m' x x' hs hx => ?_
  · rw [map_eq_pure_bind, map_eq_pure_bind]
    refine (sr_mapM (m := m) (fun m' r hs => ?_) _ (Sub.refl _)).bind fun m' l l' hs hl => .pure hl.array
    cases r with
    | tmp x => exact .pure ((h x).mono hs)
    | cell a ty => exact (sr_asAddr ((h a).mono hs)).bind fun m2 ad ad' hs2 ha => sr_loadVar ty ha
  · refine .pure ?_
    by_cases h1 : x.size = 1
    · have h2 : x'.size = 1 := hx.1 ▸ h1
      rw [dif_pos h1, dif_pos h2]
      exact hx.2 0 _ _ (by simp [h1]) (by simp [h2])
    · have h2 : ¬ x'.size = 1 := fun e => h1 (hx.1.trans e)
      rw [dif_neg h1, dif_neg h2]
      exact .tuple hx.1 hx.2
def OrcOK (P : Program) (G base top : Nat) (w0 : World) (orc : Orc) : Prop :=
  ∀ f g, orc f = some g → ∀ call, (∀ top, CallOK P G base w0 top call) → ∀ args A v A', g call args A = some (v, A') →
    A.next ≤ A'.next ∧ (A'.next ≤ top → ∀ m args' w, AV m args args' → HR P G base w0 top m A w → Calls P f args' w (CR P G base w0 top m A w v A'))
def OrcDOK (P : Program) (G base top : Nat) (w0 : World) (orcD : OrcD) : Prop :=
  ∀ f g, orcD f = some g → ∀ args A A', g args A = some A' → A.next ≤ A'.next ∧ (A'.next ≤ top → ∀ m args' w, AV m args args' → HR P G base w0 top m A w →
    (∃ fn c, P.funcs[f]? = some fn ∧ fn.body = some c) ∧ ∀ u, u ≠ .run → CallsD P f args' u w (fun e u' w' => match e with
      | .returned _ => u' = u ∧ ∃ m', Sub m m' ∧ HR P G base w0 top m' A' w' ∧ Keep G m A w m' A' w'
      | .outgrown => False
      | .panicked _ => False))
theorem leaves_ok (hE : Enters P) {orcD : OrcD} (hO : OrcDOK P G base top w0 orcD) {F : Fns} (hF : FnsOK P G base w0 F) : LeavesOK P G base top w0 (leavesA P G orcD F) := by
  intro fn N t d A v A' h
  unfold leavesA at h
  split at h
  · unfold resultsA at h
    refine ⟨runA_next _ h, fun ht m a w hst R hR hout hq => ?_⟩
    obtain ⟨m', v', w', h1, h2, h3, h4, h5⟩ := (sr_results hst.tmps fn).run hst.hr h ht
    have hw := RO.results fn a.tmps w v' w' h2
    subst hw
    have hd := hst.defs
    generalize a.defers = ds at hd
    cases hd
    exact ⟨v', h2, hq v' m' _ h1 h3 h4 h5⟩
  · rename_i x ds
    split at h
    · rename_i f cap htar
      split at h
      · rename_i g hg
        split at h
        · rename_i B hB
          obtain ⟨hn1, hok1⟩ := hO f g hg _ _ _ hB
          obtain ⟨hn2, hok2⟩ := hF.leaves top fn N t ds B v A' h
          refine ⟨Nat.le_trans hn1 hn2, fun ht m a w hst R hR hout hq => ?_⟩
          have hd := hst.defs
          obtain ⟨tm, dd⟩ := a
          simp only at hd ⊢
          cases hd with
          | @cons _ x' _ ds' hx hr =>
            obtain ⟨g', y, y', e1, e2, hy, hxa⟩ := hx
            rw [htar] at e1
            cases e1
            obtain ⟨⟨fn', c', hf', hb'⟩, hcall⟩ := hok1 (Nat.le_trans hn2 ht) m (x'.args ++ y') w (hxa.append hy) hst.hr
            refine ⟨by simp, .func f, y', f, x'.args ++ y', e2, ?_, ?_⟩
            · rw [e2]
              exact hE f fn' c' hf' hb' _ w
            · intro c cs hu
              obtain ⟨e, u', w', fr, hq1, rest⟩ := hcall .returning (by simp) c cs hu
              refine ⟨e, u', w', fr, ?_, rest⟩
              cases e with
              | returned v1 =>
                obtain ⟨rfl, m', k1, k2, k3⟩ := hq1
                have hst' : St P G base w0 top m' N t ds B { tmps := tm, defers := ds' } w' := ⟨k2, fun n => (hst.tmps n).mono k1, hst.size, hr.mono k1⟩
                exact hok2 ht m' _ w' hst' R hR hout fun v' m2 w2 h1 h2 h3 h4 => hq v' m2 w2 (k1.trans h1) h2 h3 (k3.trans h4)
              | panicked ch => exact hq1.elim
              | outgrown => exact hq1.elim
        · cases h
      · cases h
    · cases h
theorem enter_ok (hE : Enters P) {orc : Orc} (hO : OrcOK P G base top w0 orc) {F : Fns} (hF : FnsOK P G base w0 F) : CallOK P G base w0 top (enterA P orc F) := by
  intro f args A v A' h
  unfold enterA at h
  split at h
  · rename_i g hg
    exact hO f g hg F.call hF.call args A v A' h
  · split at h
    · rename_i fn hf
      split at h
      · rename_i c hb
        unfold bodyA at h
        split at h
        · cases h
        · rename_i e t1 d1 B hx
          obtain ⟨hn1, hok1⟩ := hF.exec top _ _ _ _ _ _ _ _ _ hx
          have key : (e = .normal ∨ e = .ret) → F.leaves fn t1 d1 B = some (v, A') → A.next ≤ A'.next ∧ (A'.next ≤ top → ∀ m args' w, AV m args args' → HR P G base w0 top m A w → Calls P f args' w (CR P G base w0 top m A w v A')) := by
            intro he h
            obtain ⟨hn2, hok2⟩ := hF.leaves top fn fn.ntmps t1 d1 B v A' h
            refine ⟨Nat.le_trans hn1 hn2, fun ht m args' w ha hr => ?_⟩
            refine calls_of_wp_defers hf hb (cwp_wp ?_)
            have hst : St P G base w0 top m fn.ntmps (fillT args.toList 0 .leaf) [] A { tmps := args' ++ Array.replicate (fn.ntmps - args'.size) undef, defers := [] } w := by
              refine ⟨hr, fun n => ?_, by simp; omega, .nil⟩
              simp only [getT, fillT_get, Array.getD_eq_getD_getElem?]
              by_cases hn : n < args.size
              · rw [if_pos (by simp; omega)]
                obtain ⟨v', h1, h2⟩ := ha.get (i := n) (v := args[n]) (by simp [hn])
                have hn' : n < args'.size := ha.1 ▸ hn
                simp only [Nat.sub_zero, Array.getElem?_toList]
                rw [Array.getElem?_append_left hn', h1]
                simp [hn, h2]
              · rw [if_neg (by simp; omega)]
                have hn' : args'.size ≤ n := by rw [← ha.1]; omega
                rw [Array.getElem?_append_right hn']
                show VR m undef _
                rw [Array.getElem?_replicate]
                split <;> exact vr_undef m
            refine hok1 (Nat.le_trans hn2 ht) m _ w hst _ trivial ?_
            intro m1 a1 w1 hs1 hst1 hk1
            have hl := hok2 ht m1 a1 w1 hst1 (CR P G base w0 top m A w v A') trivial trivial (fun v' m2 w2 h1 h2 h3 h4 => ⟨m2, hs1.trans h1, h2, h3, hk1.trans h4⟩)
            rcases he with rfl | rfl <;> exact hl
          split at h
          · exact key (.inl rfl) h
          · exact key (.inr rfl) h
          · cases h
      · cases h
    · cases h
theorem fns_ok (hE : Enters P) (hT : AtomOK P) (hD : ∀ top, DrawOK P G base top w0) {orc : Orc} (hO : ∀ top, OrcOK P G base top w0 orc) {orcD : OrcD} (hOD : ∀ top, OrcDOK P G base top w0 orcD) : ∀ n, FnsOK P G base w0 (fns P G orc orcD n)
  | 0 => ⟨fun _ _ _ _ _ _ _ _ _ _ h => (by cases h), fun _ _ _ _ _ _ _ _ _ _ _ h => (by cases h), fun _ _ _ _ _ _ h => (by cases h), fun _ _ _ _ _ _ _ _ h => (by cases h)⟩
  | n + 1 => by
    have ih := fns_ok hE hT hD hO hOD n
    exact ⟨fun top N c t d A => exec_ok hE hT (hD top) ih N c t d A, fun top N c l t d A => jump_ok ih N c l t d A, fun top => enter_ok hE (hO top) ih, fun top => leaves_ok hE (hOD top) ih⟩
end
end Go.Am
end
