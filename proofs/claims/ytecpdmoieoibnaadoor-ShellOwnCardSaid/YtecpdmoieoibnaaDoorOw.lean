/- Proved: the laws of memory for the walk of the law ShellOwn: several lists of words of the call's own, beside one another in one list of lists: each written, each appended to. Conditions: none. -/
import Derived.Test.YtecpdmoieoibnaaDoorLj
import Derived.Deep.AppendLies
import Derived.Deep.DeepAppendRoom
set_option linter.unusedVariables false
set_option linter.unusedSimpArgs false
namespace Go.Proofs.YtecpdmoieoibnaaDoor.Ow
open Go.RowKit Go.Lib Go.Proofs.YtecpdmoieoibnaaDoorW.PrintWords

theorem info22 : (Tryd.prog.info? 22).map (fun i => (i.zero, i.size, i.bytes)) = some (some (.slice none 0 0), 1, 24) := by kernel_rfl

/-! ### One element more: in place, or all that was there stays -/
def InOrNew (w w' : World) (v v' : Value) : Prop :=
  (∃ g n c, v = .slice (some ⟨g, 0, none⟩) n c ∧ v' = .slice (some ⟨g, 0, none⟩) (n + 1) c ∧ w.grownBy w' (some g)) ∨ (v'.ownBlock = some w.heap.size ∧ Below w.heap.size w w')

section
variable {P : Program} (w : World)
theorem run_sharp (base : Nat) (t ty e : TypeId) (i : TypeInfo) (z : Value) (bytes : Nat) (ht : P.underlying t = some (.slice e)) (hi : P.info? e = some i) (hz : i.zero = some z)
    (hsize : i.size = 1) (hby : i.bytes = bytes) (hzs : z.cells.size = 1) (v : Value) (n : Nat) (xs : List Value) (hown : w.ownsRow base e 1 v n xs)
    (ad : Addr) (c : Nat) (x : Value) (hx : ∀ j u, [x][j]? = some u → w.cell? (ad.add j) = some u) (h1 : ∀ u ∈ [x], u.oneCell' = true)
    (h63 : n + 1 ≤ maxLen) (hbytes : (n + 1) * bytes ≤ 140737488355328) (hbase : base ≤ w.heap.size) :
    ∃ v' w', (Builtin.append_ #[t, t] ty #[v, .slice (some ad) 1 c]).run P w = .ok v' w' ∧ w'.ownsRow base e 1 v' (n + 1) (xs ++ [x]) ∧ InOrNew w w' v v' := by
  have hsmall : n + 1 ≤ 9223372036854775807 := by simp only [maxLen] at h63; omega
  have hl : [x].length = 1 * i.size := by rw [hsize]; rfl
  have hlen : (xs ++ [x]).length = (n + 1) * 1 := by rw [List.length_append, hown.1]; simp
  have grown : ∀ (old : Nat), old < n + 1 →
      (w.drew.alloc (.cells (xs.toArray ++ [x].toArray ++ Builtin.zeroCells z.cells (grownCap w (n + 1) old e - (n + 1))) e)).ownsRow base e 1
        (.slice (some ⟨w.heap.size, 0, none⟩) (n + 1) (grownCap w (n + 1) old e)) (n + 1) (xs ++ [x]) := by
    intro old ho
    have hge := grownCap_ge w (n + 1) old e
    have hcm : grownCap w (n + 1) old e ≤ maxLen := grownCap_le_maxLen w (n + 1) old e h63
    refine ⟨hlen, .inr ⟨w.heap.size, _, _, rfl, hbase, heap_alloc_new w.drew _, hge, hcm, ?_, ?_⟩⟩
    · simp only [Array.size_append, List.size_toArray, size_zeroCells, hzs, hown.1, List.length_cons, List.length_nil]
      omega
    · simp only [Array.toList_append, List.append_assoc]
      rw [← List.append_assoc, ← hlen]
      exact List.take_left
  have hbel : ∀ o : Obj, Below w.heap.size w (w.drew.alloc o) := fun o => ((Below.refl _ w).drew).alloc (Nat.le_refl _) o
  rcases hown.2 with ⟨rfl, rfl⟩ | ⟨g, cap, cur, rfl, hbg, hg, hnc, hcm, hcs, htake⟩
  · have hxs : xs = [] := List.eq_nil_of_length_eq_zero (by simpa using hown.1)
    subst hxs
    have hr := run_append_nil (P := P) w t ty e i z ht hi hz ad 1 c [x] hl hx (by omega) (by omega) (by rw [hby]; omega)
    have hgr := grown 0 (by omega)
    simp only [Nat.zero_add, List.nil_append, Array.empty_append] at hgr ⊢
    exact ⟨_, _, hr, hgr, .inr ⟨rfl, hbel _⟩⟩
  · by_cases hroom : n + 1 ≤ cap
    · obtain ⟨w', hr, ho, hgr⟩ := run_append_own_spare (P := P) w base t ty e i 1 ht hi hsize g n cap xs hown ad 1 c [x] rfl hx h1 hroom
      exact ⟨_, w', hr, ho, .inl ⟨g, n, cap, rfl, rfl, hgr⟩⟩
    · have holds : ∀ j u, xs[j]? = some u → w.cell? ((⟨g, 0, none⟩ : Addr).add j) = some u := hown.cells (g := g) rfl
      have hr := run_append_grow (P := P) w t ty e i z ht hi hz ⟨g, 0, none⟩ n cap xs (by rw [hsize]; exact hown.1) holds ad 1 c [x] hl hx (by omega) (by omega) (growslice_fits (by omega) (by rw [hby]; exact hbytes))
      exact ⟨_, _, hr, grown cap (by omega), .inr ⟨rfl, hbel _⟩⟩
theorem wp_sharp {o : Oper} {a : Act} {K : Act → World → Prop} {Q : Exit → Act → World → Prop} (s x : Operand)
    (ho : o.op = .call { callee := .builtin .append, args := #[s, x], argTypes := #[22, 22] }) (base : Nat) (v : Value) (n : Nat) (xs : List Value) (hs : a.eval s = v) (hown : w.ownsRow base 9 1 v n xs)
    (k : Nat) (c : ByteArray) (hx : a.eval x = .slice (some ⟨k, 0, none⟩) 1 1) (hk : w.heap[k]? = some (.cells #[.string c] 9 (0, 0))) (hn : n < 1000000) (hb : base ≤ w.heap.size)
    (h : ∀ v' w', w'.ownsRow base 9 1 v' (n + 1) (xs ++ [.string c]) → InOrNew w w' v v' → K (a.put o.dst v') w') : o.wp Tryd.prog a w K Q := by
  obtain ⟨i0, hi, hz0, hz1, hz2⟩ := info_parts Rf.info9
  obtain ⟨v', w', hr, h2, h3⟩ := run_sharp (P := Tryd.prog) w base 22 o.type 9 i0 (.string ⟨#[]⟩) 16 Tryd.underlying22 hi hz0 hz1 hz2 rfl v n xs hown ⟨k, 0, none⟩ 1 (.string c) (fun j u hj => by
    match j, hj with
    | 0, hj => simp at hj; subst hj; simp [Addr.add, World.cell?, hk]) (fun u hu => by simp at hu; subst hu; rfl) (by unfold maxLen; omega) (by omega) hb
  unfold Oper.wp execOp
  simp only [ho, resolve, invoke, builtin, Sem.run_bind, Sem.run_pure, Result.andThen_ok, List.map_toArray, List.map_cons, List.map_nil, hs, hx, hr]
  exact h v' w' h2 h3
theorem list_sharp {ops : Array Oper} {rest : List Oper} {o : Oper} {a : Act} {Q : Exit → Act → World → Prop} (hgd : o.guard = none) (s x : Operand)
    (ho : o.op = .call { callee := .builtin .append, args := #[s, x], argTypes := #[22, 22] }) (base : Nat) (v : Value) (n : Nat) (xs : List Value) (hs : a.eval s = v) (hown : w.ownsRow base 9 1 v n xs)
    (k : Nat) (c : ByteArray) (hx : a.eval x = .slice (some ⟨k, 0, none⟩) 1 1) (hk : w.heap[k]? = some (.cells #[.string c] 9 (0, 0))) (hn : n < 1000000) (hb : base ≤ w.heap.size)
    (h : ∀ v' w', w'.ownsRow base 9 1 v' (n + 1) (xs ++ [.string c]) → InOrNew w w' v v' → wpList Tryd.prog ops Q rest (a.put o.dst v') w') : wpList Tryd.prog ops Q (o :: rest) a w :=
  wpList_plain hgd fun _ hK => wp_sharp w s x ho base v n xs hs hown k c hx hk hn hb fun v' w' h2 h3 => hK _ _ (h v' w' h2 h3)
theorem step_sharp {ops : Array Oper} {o : Oper} {a : Act} {K : Act → World → Prop} {Q : Exit → Act → World → Prop} {E : Prop} (hgd : o.guard = none) (s x : Operand)
    (ho : o.op = .call { callee := .builtin .append, args := #[s, x], argTypes := #[22, 22] }) (base : Nat) (v : Value) (n : Nat) (xs : List Value) (hs : a.eval s = v) (hown : w.ownsRow base 9 1 v n xs)
    (k : Nat) (c : ByteArray) (hx : a.eval x = .slice (some ⟨k, 0, none⟩) 1 1) (hk : w.heap[k]? = some (.cells #[.string c] 9 (0, 0))) (hn : n < 1000000) (hb : base ≤ w.heap.size)
    (h : ∀ v' w', w'.ownsRow base 9 1 v' (n + 1) (xs ++ [.string c]) → InOrNew w w' v v' → K (a.put o.dst v') w') :
    if Region.wanted o (yielded ops a.tmps) = true then Oper.wp Tryd.prog o a w K Q else E := by
  have hw : Region.wanted o (yielded ops a.tmps) = true := by simp [Region.wanted, hgd]
  rw [if_pos hw]
  exact wp_sharp w s x ho base v n xs hs hown k c hx hk hn hb h
/-- One list of words appended to a list of lists of the call's own. -/
theorem push22 {ops : Array Oper} {rest : List Oper} {o : Oper} {a : Act} {Q : Exit → Act → World → Prop} (hgd : o.guard = none) (s x : Operand)
    (ho : o.op = .call { callee := .builtin .append, args := #[s, x], argTypes := #[30, 30] }) (base : Nat) (v : Value) (n : Nat) (xs : List Value) (hs : a.eval s = v) (hown : w.ownsRow base 22 1 v n xs)
    (k : Nat) (A : Option Addr) (m q : Nat) (hx : a.eval x = .slice (some ⟨k, 0, none⟩) 1 1) (hk : w.heap[k]? = some (.cells #[.slice A m q] 22 (0, 0))) (hn : n < 1000000) (hb : base ≤ w.heap.size)
    (h : ∀ v' w', w'.ownsRow base 22 1 v' (n + 1) (xs ++ [.slice A m q]) → w.grownBy w' v.ownBlock → wpList Tryd.prog ops Q rest (a.put o.dst v') w') : wpList Tryd.prog ops Q (o :: rest) a w := by
  obtain ⟨i0, hi, hz0, hz1, hz2⟩ := info_parts info22
  refine wpList_append_own w hgd s x 30 ho base 22 i0 (.slice none 0 0) 1 24 Tryd.underlying30 hi hz0 hz1 hz2 rfl (by decide) v n xs hs hown ⟨k, 0, none⟩ 1 1 [.slice A m q] hx rfl ?_ ?_ (by unfold maxLen; omega) (by omega) hb (fun v' w' h1 h2 _ => h v' w' h1 h2)
  · intro j u hj
    match j, hj with
    | 0, hj => simp at hj; subst hj; simp [Addr.add, World.cell?, hk]
  · intro u hu; simp at hu; subst hu; rfl
end

/-! ### Apart -/
theorem apart_new {w w1 : World} {B B' n n' : Nat} {e e' : TypeId} {s s' : Nat} {u v : Value} {xs xs' : List Value} (h : w.ownsRow B e s u n xs) (h' : w1.ownsRow B' e' s' v n' xs') (hB : w.heap.size ≤ B') : u.ownBlock = none ∨ u.ownBlock ≠ v.ownBlock := by
  cases hu : u.ownBlock with
  | none => exact .inl rfl
  | some k =>
    refine .inr fun e => ?_
    have h1 := h.lt k hu
    have h2 := h'.lt k e.symm
    omega

/-! ### The lists that are kept: while they are gathered -/
def FamB (w : World) (B : Nat) (V : List Value) (C : Nat → List Value) : Prop := ∀ (i : Nat) (v : Value), V[i]? = some v → w.ownsRow B 9 1 v (C i).length (C i)
def Dist (V : List Value) : Prop := ∀ (i j : Nat) (v v' : Value), V[i]? = some v → V[j]? = some v' → i ≠ j → v.ownBlock = none ∨ v.ownBlock ≠ v'.ownBlock
theorem FamB.below {w w' : World} {B : Nat} {V : List Value} {C : Nat → List Value} (h : FamB w B V C) (hb : Below w.heap.size w w') : FamB w' B V C := fun i v hv => pw_own_below (h i v hv) hb

structure KA (w : World) (B : Nat) (kv : Value) (V : List Value) : Prop where
  own : w.ownsRow B 22 1 kv V.length V
  dist : Dist V
  fam : ∃ C, FamB w B V C ∧ ∀ i, (C i).length ≤ 70000
theorem KA.below {w w' : World} {B : Nat} {kv : Value} {V : List Value} (h : KA w B kv V) (hb : Below w.heap.size w w') : KA w' B kv V :=
  ⟨pw_own_below h.own hb, h.dist, by obtain ⟨C, h1, h2⟩ := h.fam; exact ⟨C, h1.below hb, h2⟩⟩
/-- A list more. -/
theorem KA.grow {w w' : World} {B n : Nat} {kv kv' v : Value} {V xs : List Value} (h : KA w B kv V) (hv : w.ownsRow B 9 1 v n xs) (hl : n ≤ 70000) (hf : ∀ (i : Nat) (u : Value), V[i]? = some u → u.ownBlock = none ∨ u.ownBlock ≠ v.ownBlock)
    (hg : w.grownBy w' kv.ownBlock) (ho : w'.ownsRow B 22 1 kv' (V.length + 1) (V ++ [v])) : KA w' B kv' (V ++ [v]) := by
  have hxn : xs.length = n := by have := hv.1; omega
  subst hxn
  obtain ⟨C, h1, h2⟩ := h.fam
  have split : ∀ (i : Nat) (u : Value), (V ++ [v])[i]? = some u → (i < V.length ∧ V[i]? = some u) ∨ (i = V.length ∧ u = v) := by
    intro i u hi
    by_cases hlt : i < V.length
    · rw [List.getElem?_append_left hlt] at hi
      exact .inl ⟨hlt, hi⟩
    · rw [List.getElem?_append_right (by omega)] at hi
      have : i - V.length = 0 := by
        rcases Nat.eq_zero_or_pos (i - V.length) with h0 | h0
        · exact h0
        · rw [List.getElem?_eq_none (by simp; omega)] at hi; cases hi
      rw [this] at hi
      simp at hi
      exact .inr ⟨by omega, hi.symm⟩
  have flip : ∀ u : Value, (u.ownBlock = none ∨ u.ownBlock ≠ v.ownBlock) → v.ownBlock = none ∨ v.ownBlock ≠ u.ownBlock := by
    intro u hu
    rcases hu with hu | hu
    · cases hvb : v.ownBlock with
      | none => exact .inl rfl
      | some k => exact .inr (by rw [hu]; simp)
    · exact .inr fun e => hu e.symm
  refine ⟨by simpa using ho, ?_, fun i => if i < V.length then C i else xs, ?_, ?_⟩
  · intro i j u u' hi hj hne
    rcases split i u hi with ⟨hi1, hi2⟩ | ⟨hi1, rfl⟩ <;> rcases split j u' hj with ⟨hj1, hj2⟩ | ⟨hj1, rfl⟩
    · exact h.dist i j u u' hi2 hj2 hne
    · exact hf i u hi2
    · exact flip _ (hf j u' hj2)
    · omega
  · intro i u hi
    rcases split i u hi with ⟨hi1, hi2⟩ | ⟨hi1, rfl⟩
    · simp only [if_pos hi1]
      exact (h1 i u hi2).kept hg (own_type_ne (h1 i u hi2) h.own (by decide))
    · have : ¬ i < V.length := by omega
      simp only [if_neg this]
      exact hv.kept hg (own_type_ne hv h.own (by decide))
  · intro i
    simp only
    split
    · exact h2 i
    · exact hl

/-! ### While they are written full of their marks -/
structure KB (w : World) (B : Nat) (kv : Value) (V : List Value) (N : Nat → Nat) (mk : Nat → Value) (k j : Nat) : Prop where
  own : w.ownsRow B 22 1 kv V.length V
  fam : ∃ C, FamB w B V C ∧ (∀ i, (C i).length = N i) ∧ (∀ i, i < k → C i = List.replicate (N i) (mk i)) ∧ (C k).take j = List.replicate j (mk k)
theorem KA.toB {w : World} {B : Nat} {kv : Value} {V : List Value} (h : KA w B kv V) : ∃ N : Nat → Nat, (∀ i, N i ≤ 70000) ∧ ∀ mk, KB w B kv V N mk 0 0 := by
  obtain ⟨C, h1, h2⟩ := h.fam
  exact ⟨fun i => (C i).length, h2, fun mk => ⟨h.own, C, h1, fun _ => rfl, fun i hi => absurd hi (by omega), rfl⟩⟩
section
variable {w w' : World} {B : Nat} {kv : Value} {V : List Value} {N : Nat → Nat} {mk mo : Nat → Value} {k j : Nat}
theorem KB.below (h : KB w B kv V N mk k j) (hb : Below w.heap.size w w') : KB w' B kv V N mk k j :=
  ⟨pw_own_below h.own hb, by obtain ⟨C, h1, h2⟩ := h.fam; exact ⟨C, h1.below hb, h2⟩⟩
theorem KB.next (h : KB w B kv V N mk k (N k)) : KB w B kv V N mk (k + 1) 0 := by
  obtain ⟨C, h1, h2, h3, h4⟩ := h.fam
  refine ⟨h.own, C, h1, h2, fun i hi => ?_, rfl⟩
  by_cases e : i = k
  · subst e
    rw [← h4, List.take_of_length_le (by rw [h2]; exact Nat.le_refl _)]
  · exact h3 i (by omega)
/-- What the list of lists holds at place k. -/
theorem kept_at (h : w.ownsRow B 22 1 kv V.length V) (hk : k < V.length) : ∃ g c, kv = .slice (some ⟨g, 0, none⟩) V.length c ∧ w.cell? ⟨g, k, none⟩ = some V[k] := by
  obtain ⟨g, c, e, hc⟩ := Lw.row_form h (by omega)
  exact ⟨g, c, e, hc k _ (by simp [hk])⟩
theorem KB.len (h : KB w B kv V N mk k j) (i : Nat) (hi : i < V.length) : ∃ A c, V[i] = .slice A (N i) c := by
  obtain ⟨C, h1, h2, _⟩ := h.fam
  obtain ⟨A, c, e⟩ := own_slice (h1 i V[i] (by simp [hi]))
  exact ⟨A, c, by rw [e, h2]⟩
theorem KB.place (h : KB w B kv V N mk k j) (hk : k < V.length) (hj : j < N k) : ∃ g c v, V[k] = .slice (some ⟨g, 0, none⟩) (N k) c ∧ w.cell? ⟨g, j, none⟩ = some v ∧ w.frozen? ⟨g, j, none⟩ = false ∧ B ≤ g := by
  obtain ⟨C, h1, h2, _⟩ := h.fam
  have ho := h1 k V[k] (by simp [hk])
  obtain ⟨g, c, e, hB, _⟩ := ho.form (by rw [h2]; omega)
  rw [e] at ho
  have hcell := ho.cellAt j (by rw [h2]; omega)
  have hjl : j < (C k).length := by rw [h2]; exact hj
  rw [List.getElem?_eq_getElem hjl] at hcell
  exact ⟨g, c, _, by rw [e, h2], hcell, ho.frozenAt j, hB⟩
theorem KB.store (hd : Dist V) (h : KB w B kv V N mk k j) (hk : k < V.length) (hj : j < N k) {g c : Nat} (hv : V[k] = .slice (some ⟨g, 0, none⟩) (N k) c) : KB (w.setCell ⟨g, j, none⟩ (mk k)) B kv V N mk k (j + 1) := by
  obtain ⟨C, h1, h2, h3, h4⟩ := h.fam
  have hvk : V[k]? = some (.slice (some ⟨g, 0, none⟩) (N k) c) := by simp [hk, hv]
  have ho := h1 k _ hvk
  rw [h2] at ho
  obtain ⟨hs, hg⟩ := ho.stored j (mk k)
  refine ⟨h.own.kept hg (own_type_ne h.own ho (by decide)), fun i => if i = k then (C k).set j (mk k) else C i, ?_, ?_, ?_, ?_⟩
  · intro i v hi
    by_cases e : i = k
    · subst e
      obtain rfl : v = .slice (some ⟨g, 0, none⟩) (N i) c := by rw [hvk] at hi; exact (Option.some.inj hi).symm
      simp only [if_pos, List.length_set, h2]
      exact hs
    · simp only [if_neg e]
      exact (h1 i v hi).kept hg (by
        rcases hd i k v _ hi hvk e with h | h
        · exact .inl h
        · exact .inr h)
  · intro i
    simp only
    split
    · rename_i e; subst e; rw [List.length_set, h2]
    · exact h2 i
  · intro i hi
    have : i ≠ k := by omega
    simp only [if_neg this]
    exact h3 i hi
  · simp only [if_pos]
    have hjl : j < (C k).length := by rw [h2]; exact hj
    rw [List.take_set, List.take_succ_eq_append_getElem hjl, h4, List.set_append_right _ _ (by simp)]
    simp [List.replicate_succ']

/-! ### While they are appended to -/
def Rdr (w : World) (v : Value) (xs : List Value) : Prop := ∀ (j : Nat) (u : Value), xs[j]? = some u → ∃ g n c cs, v = .slice (some ⟨g, 0, none⟩) n c ∧ w.heap[g]? = some (.cells cs 9 (0, 0)) ∧ cs[j]? = some u
theorem rdr_own {n : Nat} {v : Value} {xs : List Value} (h : w.ownsRow B 9 1 v n xs) : Rdr w v xs := fun j u hj => by
  have hjl := (List.getElem?_eq_some_iff.1 hj).1
  have hl := h.1
  rcases h.2 with ⟨_, h0⟩ | ⟨g, c, cur, e, _, hg, _, _, _, ht⟩
  · omega
  · refine ⟨g, n, c, cur, e, hg, ?_⟩
    rw [← ht, List.getElem?_take] at hj
    split at hj
    · simpa using hj
    · cases hj
theorem Rdr.below {v : Value} {xs : List Value} (h : Rdr w v xs) (hb : Below w.heap.size w w') : Rdr w' v xs := fun j u hj => by
  obtain ⟨g, n, c, cs, e, hg, hc⟩ := h j u hj
  exact ⟨g, n, c, cs, e, (hb.block _ (Array.getElem?_eq_some_iff.1 hg).1).trans hg, hc⟩
theorem Rdr.grown {v : Value} {xs : List Value} (h : Rdr w v xs) {row : Option Nat} (hg : w.grownBy w' row) (hne : v.ownBlock = none ∨ v.ownBlock ≠ row) : Rdr w' v xs := fun j u hj => by
  obtain ⟨g, n, c, cs, e, hh, hc⟩ := h j u hj
  subst e
  refine ⟨g, n, c, cs, rfl, (hg.block g (Array.getElem?_eq_some_iff.1 hh).1 ?_).trans hh, hc⟩
  simpa [Value.ownBlock] using hne
/-- A list of words lies in no block of lists. -/
theorem Rdr.type_ne {n : Nat} {v l : Value} {xs ls : List Value} (h : Rdr w v xs) (h0 : 0 < xs.length) (hl : w.ownsRow B 22 1 l n ls) : v.ownBlock = none ∨ v.ownBlock ≠ l.ownBlock := by
  obtain ⟨g, m, c, cs, e, hh, hc⟩ := h 0 xs[0] (by simp [h0])
  subst e
  refine .inr fun e => ?_
  rcases hl.2 with ⟨rfl, _⟩ | ⟨g', c', cur, rfl, _, hg', _⟩
  · cases e
  · have : g = g' := by simpa [Value.ownBlock] using e
    subst this
    rw [hh] at hg'
    simp at hg'
theorem Rdr.cell {v : Value} {xs : List Value} (h : Rdr w v xs) {j : Nat} {u : Value} (hj : xs[j]? = some u) : ∃ g n c, v = .slice (some ⟨g, 0, none⟩) n c ∧ w.cell? ⟨g, j, none⟩ = some u := by
  obtain ⟨g, n, c, cs, e, hh, hc⟩ := h j u hj
  exact ⟨g, n, c, e, by simp [World.cell?, hh, hc]⟩
end
end Go.Proofs.YtecpdmoieoibnaaDoor.Ow
