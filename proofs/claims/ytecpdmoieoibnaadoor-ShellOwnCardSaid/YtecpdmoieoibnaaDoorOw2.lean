/- Proved: the laws of memory for the walk of the law ShellOwn, second part: the lists that are kept and their longer copies. Conditions: none. -/
import Derived.Test.YtecpdmoieoibnaaDoorOw
set_option linter.unusedVariables false
set_option linter.unusedSimpArgs false
namespace Go.Proofs.YtecpdmoieoibnaaDoor.Ow
open Go.RowKit Go.Lib Go.Proofs.YtecpdmoieoibnaaDoorW.PrintWords

def rep (N : Nat → Nat) (mk : Nat → Value) (i : Nat) : List Value := List.replicate (N i) (mk i)
def rep2 (N : Nat → Nat) (mk mo : Nat → Value) (i t : Nat) : List Value := List.replicate (N i) (mk i) ++ List.replicate t (mo i)

/-- The lists at the head of a round of appending. -/
structure KC (w : World) (B B1 : Nat) (kv lv : Value) (V U : List Value) (N : Nat → Nat) (mk mo : Nat → Value) (k : Nat) : Prop where
  own : w.ownsRow B 22 1 kv V.length V
  low : ∀ b, kv.ownBlock = some b → b < B1
  lown : w.ownsRow B1 22 1 lv U.length U
  ul : U.length = k
  hB1 : B1 ≤ w.heap.size
  todo : ∀ (i : Nat) (v : Value), k ≤ i → V[i]? = some v → w.ownsRow B 9 1 v (N i) (rep N mk i)
  rv : ∀ (i : Nat) (v : Value), i < k → V[i]? = some v → Rdr w v (rep N mk i)
  ru : ∀ (i : Nat) (u : Value), U[i]? = some u → (∃ A c, u = .slice A (N i + 71) c) ∧ Rdr w u (rep2 N mk mo i 71)
  sep : ∀ (i : Nat) (u : Value) (j : Nat) (v : Value), U[i]? = some u → V[j]? = some v → k ≤ j → u.ownBlock = none ∨ u.ownBlock ≠ v.ownBlock
  hv : ∀ (i : Nat) (v : Value) (b : Nat), V[i]? = some v → v.ownBlock = some b → b < w.heap.size
  hu : ∀ (i : Nat) (u : Value) (b : Nat), U[i]? = some u → u.ownBlock = some b → b < w.heap.size

/-- Within a round: t elements are laid behind list k. -/
structure KI (w : World) (B B1 H : Nat) (kv lv : Value) (V U : List Value) (N : Nat → Nat) (mk mo : Nat → Value) (k t : Nat) (l : Value) : Prop where
  own : w.ownsRow B 22 1 kv V.length V
  low : ∀ b, kv.ownBlock = some b → b < B1
  lown : w.ownsRow B1 22 1 lv U.length U
  ul : U.length = k
  hB1 : B1 ≤ w.heap.size
  todo : ∀ (i : Nat) (v : Value), k < i → V[i]? = some v → w.ownsRow B 9 1 v (N i) (rep N mk i)
  rv : ∀ (i : Nat) (v : Value), i ≤ k → V[i]? = some v → Rdr w v (rep N mk i)
  ru : ∀ (i : Nat) (u : Value), U[i]? = some u → (∃ A c, u = .slice A (N i + 71) c) ∧ Rdr w u (rep2 N mk mo i 71)
  sep : ∀ (i : Nat) (u : Value) (j : Nat) (v : Value), U[i]? = some u → V[j]? = some v → k ≤ j → u.ownBlock = none ∨ u.ownBlock ≠ v.ownBlock
  hv : ∀ (i : Nat) (v : Value) (b : Nat), V[i]? = some v → v.ownBlock = some b → b < H
  hu : ∀ (i : Nat) (u : Value) (b : Nat), U[i]? = some u → u.ownBlock = some b → b < H
  hH : H ≤ w.heap.size
  lo : w.ownsRow B 9 1 l (N k + t) (rep2 N mk mo k t)
  lat : (∃ v, V[k]? = some v ∧ l.ownBlock = v.ownBlock) ∨ ∃ b, l.ownBlock = some b ∧ H ≤ b

variable {w w' : World} {B B1 H : Nat} {kv lv l l' : Value} {V U : List Value} {N : Nat → Nat} {mk mo : Nat → Value} {k t : Nat}

theorem KB.toC (h : KB w B kv V N mk V.length 0) : KC w B w.heap.size kv (.slice none 0 0) V [] N mk mo 0 := by
  obtain ⟨C, h1, h2, h3, _⟩ := h.fam
  have ho : ∀ (i : Nat) (v : Value), V[i]? = some v → w.ownsRow B 9 1 v (N i) (rep N mk i) := fun i v hi => by
    have := h1 i v hi
    rw [h2, h3 i (List.getElem?_eq_some_iff.1 hi).1] at this
    exact this
  refine ⟨h.own, fun b hb => (h.own.lt b hb).2, World.ownsRow_nil _ _ _ _, rfl, Nat.le_refl _, fun i v _ hi => ho i v hi, fun i v hi => absurd hi (by omega), fun i u hi => by simp at hi, fun i u j v hi => by simp at hi, fun i v b hi hb => ((ho i v hi).lt b hb).2, fun i u b hi => by simp at hi⟩

theorem KC.below (h : KC w B B1 kv lv V U N mk mo k) (hb : Below w.heap.size w w') : KC w' B B1 kv lv V U N mk mo k :=
  ⟨pw_own_below h.own hb, h.low, pw_own_below h.lown hb, h.ul, Nat.le_trans h.hB1 hb.size, fun i v h1 h2 => pw_own_below (h.todo i v h1 h2) hb, fun i v h1 h2 => (h.rv i v h1 h2).below hb, fun i u h1 => ⟨(h.ru i u h1).1, (h.ru i u h1).2.below hb⟩, h.sep,
    fun i v b h1 h2 => Nat.lt_of_lt_of_le (h.hv i v b h1 h2) hb.size, fun i v b h1 h2 => Nat.lt_of_lt_of_le (h.hu i v b h1 h2) hb.size⟩
theorem KI.below (h : KI w B B1 H kv lv V U N mk mo k t l) (hb : Below w.heap.size w w') : KI w' B B1 H kv lv V U N mk mo k t l :=
  ⟨pw_own_below h.own hb, h.low, pw_own_below h.lown hb, h.ul, Nat.le_trans h.hB1 hb.size, fun i v h1 h2 => pw_own_below (h.todo i v h1 h2) hb, fun i v h1 h2 => (h.rv i v h1 h2).below hb, fun i u h1 => ⟨(h.ru i u h1).1, (h.ru i u h1).2.below hb⟩, h.sep,
    h.hv, h.hu, Nat.le_trans h.hH hb.size, pw_own_below h.lo hb, h.lat⟩
theorem KC.toI (h : KC w B B1 kv lv V U N mk mo k) {v : Value} (hk : V[k]? = some v) : KI w B B1 w.heap.size kv lv V U N mk mo k 0 v := by
  have ho := h.todo k v (Nat.le_refl _) hk
  refine ⟨h.own, h.low, h.lown, h.ul, h.hB1, fun i v h1 h2 => h.todo i v (by omega) h2, fun i u h1 h2 => ?_, h.ru, h.sep, h.hv, h.hu, Nat.le_refl _, by simpa [rep2, rep] using ho, .inl ⟨v, hk, rfl⟩⟩
  by_cases e : i = k
  · subst e
    rw [hk] at h2
    obtain rfl := Option.some.inj h2
    exact rdr_own ho
  · exact h.rv i u (by omega) h2
/-- What does not lie in list k's block, nor in a new one, lies apart of the list that grows. -/
theorem KI.apart (h : KI w B B1 H kv lv V U N mk mo k t l) {u : Value} (h1 : ∀ b, u.ownBlock = some b → b < H) (h2 : ∀ v, V[k]? = some v → u.ownBlock = none ∨ u.ownBlock ≠ v.ownBlock) : u.ownBlock = none ∨ u.ownBlock ≠ l.ownBlock := by
  rcases h.lat with ⟨v, hv, e⟩ | ⟨b, e, hb⟩
  · rw [e]; exact h2 v hv
  · cases hu : u.ownBlock with
    | none => exact .inl rfl
    | some c =>
      refine .inr fun e' => ?_
      rw [e] at e'
      have := h1 c hu
      have := Option.some.inj e'
      omega
theorem own_step {s n : Nat} {e : TypeId} {u : Value} {xs : List Value} {b : Nat} (h : w.ownsRow b e s u n xs) (hi : InOrNew w w' l l') (hne : u.ownBlock = none ∨ u.ownBlock ≠ l.ownBlock) : w'.ownsRow b e s u n xs := by
  rcases hi with ⟨g, n, c, rfl, rfl, hg⟩ | ⟨_, hb⟩
  · exact h.kept hg hne
  · exact pw_own_below h hb
theorem rdr_step {u : Value} {xs : List Value} (h : Rdr w u xs) (hi : InOrNew w w' l l') (hne : u.ownBlock = none ∨ u.ownBlock ≠ l.ownBlock) : Rdr w' u xs := by
  rcases hi with ⟨g, n, c, rfl, rfl, hg⟩ | ⟨_, hb⟩
  · exact h.grown hg hne
  · exact h.below hb
theorem step_size (hi : InOrNew w w' l l') : w.heap.size ≤ w'.heap.size := by
  rcases hi with ⟨g, n, c, rfl, rfl, hg⟩ | ⟨_, hb⟩
  · exact hg.size
  · exact hb.size
theorem KI.step (hd : Dist V) (h : KI w B B1 H kv lv V U N mk mo k t l) (hi : InOrNew w w' l l') (ho : w'.ownsRow B 9 1 l' (N k + t + 1) (rep2 N mk mo k t ++ [mo k])) : KI w' B B1 H kv lv V U N mk mo k (t + 1) l' := by
  have hl' : w'.ownsRow B 9 1 l' (N k + (t + 1)) (rep2 N mk mo k (t + 1)) := by
    have e : rep2 N mk mo k (t + 1) = rep2 N mk mo k t ++ [mo k] := by simp [rep2, List.replicate_succ']
    rw [e]
    exact ho
  refine ⟨own_step h.own hi (own_type_ne h.own h.lo (by decide)), h.low, own_step h.lown hi (own_type_ne h.lown h.lo (by decide)), h.ul, Nat.le_trans h.hB1 (step_size hi), fun i v h1 h2 => ?_, fun i v h1 h2 => ?_, fun i u h1 => ⟨(h.ru i u h1).1, ?_⟩, h.sep, h.hv, h.hu, Nat.le_trans h.hH (step_size hi), hl', ?_⟩
  · exact own_step (h.todo i v h1 h2) hi (h.apart (fun b hb => h.hv i v b h2 hb) (fun v' hv' => hd i k v v' h2 hv' (by omega)))
  · by_cases e : i = k
    · subst e
      have hr := h.rv i v h1 h2
      rcases hi with ⟨g, n, c, rfl, rfl, hg⟩ | ⟨_, hb⟩
      · by_cases eb : v.ownBlock = some g
        · intro j u hj
          obtain ⟨g', n', c', cs, rfl, hh, hc⟩ := hr j u hj
          obtain rfl : g' = g := by simpa [Value.ownBlock] using eb
          have hj2 : (rep2 N mk mo i (t + 1))[j]? = some u := by
            have : j < (rep N mk i).length := (List.getElem?_eq_some_iff.1 hj).1
            rw [rep2, List.getElem?_append_left (by simpa [rep] using this)]
            exact hj
          obtain ⟨g2, n2, c2, cs2, e2, hh2, hc2⟩ := rdr_own hl' j u hj2
          obtain rfl : g' = g2 := by
            simp only [Value.slice.injEq, Option.some.injEq, Addr.mk.injEq] at e2
            exact e2.1.1
          exact ⟨g', n', c', cs2, rfl, hh2, hc2⟩
        · exact hr.grown hg (.inr eb)
      · exact hr.below hb
    · exact rdr_step (h.rv i v h1 h2) hi (h.apart (fun b hb => h.hv i v b h2 hb) (fun v' hv' => hd i k v v' h2 hv' e))
  · exact rdr_step (h.ru i u h1).2 hi (h.apart (fun b hb => h.hu i u b h1 hb) (fun v' hv' => h.sep i u k v' h1 hv' (Nat.le_refl _)))
  · rcases hi with ⟨g, n, c, rfl, rfl, hg⟩ | ⟨e, hb⟩
    · rcases h.lat with ⟨v, hv, e⟩ | ⟨b, e, hb⟩
      · exact .inl ⟨v, hv, e⟩
      · exact .inr ⟨b, e, hb⟩
    · exact .inr ⟨_, e, h.hH⟩
/-- The longer list is laid into the list of long ones. -/
theorem KI.done (hd : Dist V) (h : KI w B B1 H kv lv V U N mk mo k 71 l) {lv' : Value} (hg : w.grownBy w' lv.ownBlock) (ho : w'.ownsRow B1 22 1 lv' (U.length + 1) (U ++ [l])) (hk : k < V.length) : KC w' B B1 kv lv' V (U ++ [l]) N mk mo (k + 1) := by
  have split : ∀ (i : Nat) (u : Value), (U ++ [l])[i]? = some u → (i < U.length ∧ U[i]? = some u) ∨ (i = U.length ∧ u = l) := by
    intro i u hi
    by_cases hlt : i < U.length
    · rw [List.getElem?_append_left hlt] at hi
      exact .inl ⟨hlt, hi⟩
    · rw [List.getElem?_append_right (by omega)] at hi
      have : i - U.length = 0 := by
        rcases Nat.eq_zero_or_pos (i - U.length) with h0 | h0
        · exact h0
        · rw [List.getElem?_eq_none (by simp; omega)] at hi; cases hi
      rw [this] at hi
      simp at hi
      exact .inr ⟨by omega, hi.symm⟩
  have hkv : kv.ownBlock = none ∨ kv.ownBlock ≠ lv.ownBlock := by
    cases hkb : kv.ownBlock with
    | none => exact .inl rfl
    | some b =>
      refine .inr fun e => ?_
      have h1 := h.low b hkb
      have h2 := (h.lown.lt b e.symm).1
      omega
  have rdk : ∀ {v : Value} {xs : List Value}, Rdr w v xs → Rdr w' v xs := fun {v xs} hr => by
    by_cases h0 : 0 < xs.length
    · exact hr.grown hg (hr.type_ne h0 h.lown)
    · intro j u hj
      have := (List.getElem?_eq_some_iff.1 hj).1
      omega
  have hl2 : w'.ownsRow B 9 1 l (N k + 71) (rep2 N mk mo k 71) := h.lo.kept hg (own_type_ne h.lo h.lown (by decide))
  have ul := h.ul
  refine ⟨h.own.kept hg hkv, h.low, by simpa using ho, by simp [ul], Nat.le_trans h.hB1 hg.size, fun i v h1 h2 => ?_, fun i v h1 h2 => rdk (h.rv i v (by omega) h2), fun i u h1 => ?_, fun i u j v h1 h2 h3 => ?_, fun i v b h1 h2 => ?_, fun i u b h1 h2 => ?_⟩
  · have := h.todo i v (by omega) h2
    exact this.kept hg (own_type_ne this h.lown (by decide))
  · rcases split i u h1 with ⟨a1, a2⟩ | ⟨a1, rfl⟩
    · exact ⟨(h.ru i u a2).1, rdk (h.ru i u a2).2⟩
    · obtain rfl : i = k := by omega
      exact ⟨own_slice hl2, rdr_own hl2⟩
  · rcases split i u h1 with ⟨a1, a2⟩ | ⟨a1, rfl⟩
    · exact h.sep i u j v a2 h2 (by omega)
    · have hvb := h.apart (u := v) (fun b hb => h.hv j v b h2 hb) (fun v' hv' => hd j k v v' h2 hv' (by omega))
      cases hlb : u.ownBlock with
      | none => exact .inl rfl
      | some b =>
        refine .inr fun e => ?_
        rcases hvb with h' | h'
        · rw [h'] at e; cases e
        · exact h' (by rw [hlb, e])
  · have := h.hv i v b h1 h2
    have := h.hH
    have := hg.size
    omega
  · rcases split i u h1 with ⟨a1, a2⟩ | ⟨a1, rfl⟩
    · have := h.hu i u b a2 h2
      have := h.hH
      have := hg.size
      omega
    · exact (hl2.lt b h2).2
end Go.Proofs.YtecpdmoieoibnaaDoor.Ow
