/- Proved: part 8 of the proof of PackReads (P10, P11, P12). Conditions: each theorem states its own. -/
import Derived.Deep.RegionHeld3
import Derived.LoopIn
import Derived.LoopNIn
import Derived.OwnWalkIn
import Derived.RangeFuncBound
import Derived.RangeFuncCalls
import Derived.RangeFuncLeaves
import Derived.RangeFuncNested
import Derived.Shelf.Abstract
import Derived.Shelf.RegionOpen
import Derived.TacticsInMore
import Derived.Test.YtpnkifincadakaaGreatDoorP7
set_option linter.unusedVariables false
set_option linter.unusedSimpArgs false
section
namespace Go.Am
open Go.Proofs Go.RowKit Go.Shelf
attribute [local go_sem] Oper.semAt_some
def But2 (l O : Nat) (W W' : World) : Prop := W'.os = W.os ∧ W'.tape = W.tape ∧ W'.output = W.output ∧ W.heap.size ≤ W'.heap.size ∧ ∀ k, k < W.heap.size → k ≠ l → k ≠ O → W'.heap[k]? = W.heap[k]?
noncomputable def leaf0 : Value := .agg #[.int .i64 (-2), .int .i64 0, .int .i64 0, .int .i64 1]
theorem cellB {w w' : World} {B : Nat} {p : Addr} {u : Value} (hB : Below B w w') (hlt : p.block < B) (h : w.cell? p = some u) : w'.cell? p = some u := by
  unfold World.cell? at h ⊢
  rw [hB.block _ hlt]
  exact h
theorem loop_back {P : Program} (W : World) (r : Loop) (hr : r.state = .ready) (hp : r.pending = none) (w' : World)
    (hB : Below ((W.alloc (.deferred (some []))).alloc (.loop r)).heap.size ((W.alloc (.deferred (some []))).alloc (.loop r)) w') :
    ∃ w4, (Instr.endLoop (W.heap.size + 1)).run P w' = .ok none w4 ∧ (∀ p u, W.cell? p = some u → w4.cell? p = some u) ∧ w4.heap[W.heap.size]? = some (.deferred (some [])) ∧ (∀ B, B ≤ W.heap.size → Below B W w4) ∧ W.heap.size + 2 ≤ w4.heap.size := by
  have h1 := World.alloc_heap_new (W.alloc (.deferred (some []))) (.loop r)
  rw [World.size_alloc] at h1
  have hsz : ((W.alloc (.deferred (some []))).alloc (.loop r)).heap.size = W.heap.size + 2 := by simp
  have hs' := hB.size
  have h2 : w'.heap[W.heap.size + 1]? = some (.loop r) := by rw [hB.block _ (by rw [hsz]; omega)]; exact h1
  have hD : w'.heap[W.heap.size]? = some (.deferred (some [])) := by
    rw [hB.block _ (by rw [hsz]; omega)]
    show ((W.alloc (.deferred (some []))).heap.push _)[W.heap.size]? = _
    rw [Array.getElem?_push, if_neg (by simp)]
    exact World.alloc_heap_new _ _
  refine ⟨_, by rw [run_endLoop h2 (by rw [hr]; simp), hp], fun p u hc => ?_, ?_, fun B hB' => ?_, by simp; omega⟩
  · have := cell_lt hc
    exact cellP (by omega) (cellB hB (by rw [hsz]; omega) (cellA _ (cellA _ hc)))
  · rw [World.putObj_heap_other (by omega)]; exact hD
  · have h3 := ((Below.refl B W).alloc hB' (.deferred (some []))).alloc (by simp; omega) (.loop r)
    have h4 : Below B W w' := h3.trans (hB.mono (by rw [hsz]; omega))
    exact h4.trans ⟨rfl, rfl, rfl, by simp, fun k hk => World.putObj_heap_other (by omega)⟩
theorem iter198_a (W : World) : (Instr.build 234 #[(0, .int .i64 (-2)), (1, .int .i64 0), (3, .int .i64 1)]).run Tryz.prog W = .ok leaf0 W := by kernel_rfl
set_option maxHeartbeats 2000000 in
set_option maxRecDepth 100000 in
theorem iter198 (l O ba bs br b o : Nat) (sp : Option Addr) (w : World) (ha : w.cell? ⟨ba, 0, none⟩ = some (.int .i64 0)) (hs : w.cell? ⟨bs, 0, none⟩ = some (.pointer sp)) (hr : w.cell? ⟨br, 0, none⟩ = some (.pointer (some ⟨b, o, none⟩)))
    (h : w.cell? ⟨b, o, none⟩ = some (.pointer none)) (hl : l < w.heap.size) (hO : O < w.heap.size) (Post : World → World → Prop)
    (hY : ∀ W, Below w.heap.size w W → YieldAt Fence.wide 1 Tryz.prog l #[leaf0] W fun e W' => e = .returned (.bool true) ∧ But2 l O W W' ∧ Post W W') :
    CallsIn Fence.wide 2 Tryz.prog 198 #[.func (.yield l) #[] #[], .pointer (some ⟨ba, 0, none⟩), .pointer (some ⟨bs, 0, none⟩), .pointer (some ⟨br, 0, none⟩)] w fun e w' => e = .returned (.tuple #[]) ∧
      ∃ W W1 D2, Below w.heap.size w W ∧ But2 l O W W1 ∧ Post W W1 ∧ w.heap.size ≤ D2 ∧ D2 < W.heap.size ∧ w' = W1.putObj D2 (.deferred none) := by
  refine callsIn_of_wp_marks Tryz.func198 rfl trivial ?_ rfl
  simp only [Tryz.ntmps198, List.size_toArray, List.length_cons, List.length_nil, Nat.reduceAdd, Nat.reduceSub, Array.replicate_succ, Array.replicate_zero, List.push_toArray, List.append_toArray, List.nil_append, List.cons_append]
  have hba : ba < w.heap.size := cell_lt ha
  have q0 := fun (p : Addr) (u : Value) (hp : w.cell? p = some u) => cellA (.cells #[.int .i64 0] 3) (cellA (.cells #[.int .i64 0] 3) (cellA (.cells #[.func (.yield l) #[] #[]] 343) hp))
  have q1 := q0 _ _ ha
  have q2 := q0 _ _ hs
  have q3 := q0 _ _ hr
  have q4 := q0 _ _ h
  have qB : Below w.heap.size w (((w.alloc (.cells #[.func (.yield l) #[] #[]] 343)).alloc (.cells #[.int .i64 0] 3)).alloc (.cells #[.int .i64 0] 3)) := (((Below.refl _ w).alloc (Nat.le_refl _) _).alloc (by simp) _).alloc (by simp; omega) _
  gi_wp2_with (refine ⟨trivial, ?_⟩; gi_at_call 199; refine (callsIn_wide.2 (seq199 sp ⟨b, o, none⟩ _)).mono ?_; rintro e w' ⟨rfl, rfl⟩)
  generalize hW3 : ((w.alloc (.cells #[.func (.yield l) #[] #[]] 343)).alloc (.cells #[.int .i64 0] 3)).alloc (.cells #[.int .i64 0] 3) = W3 at q0 qB ⊢
  have z3 : W3.heap.size = w.heap.size + 3 := by rw [← hW3]; simp
  have x0 : W3.cell? ⟨w.heap.size, 0, none⟩ = some (.func (.yield l) #[] #[]) := by rw [← hW3]; exact cellA _ (cellA _ (cellN _ _ _))
  have x1 : W3.cell? ⟨w.heap.size + 1, 0, none⟩ = some (.int .i64 0) := by
    rw [← hW3]
    refine cellA _ ?_
    have := cellN (w.alloc (.cells #[.func (.yield l) #[] #[]] 343)) (.int .i64 0) 3
    rw [World.size_alloc] at this
    exact this
  clear hW3 q1 q2 q3 q4
  generalize hW6 : ((W3.alloc (.cells #[.pointer sp] 102)).alloc (.cells #[.pointer (some ⟨b, o, none⟩)] 122)).alloc (.cells #[.int .i64 0] 3) = W6
  have z6 : W6.heap.size = w.heap.size + 6 := by rw [← hW6]; simp [z3]
  have y0 : ∀ (p : Addr) (u : Value), W3.cell? p = some u → W6.cell? p = some u := fun p u hp => by rw [← hW6]; exact cellA _ (cellA _ (cellA _ hp))
  have y5 : W6.cell? ⟨W3.heap.size + 2, 0, none⟩ = some (.int .i64 0) := by
    rw [← hW6]
    have := cellN ((W3.alloc (.cells #[.pointer sp] 102)).alloc (.cells #[.pointer (some ⟨b, o, none⟩)] 122)) (.int .i64 0) 3
    rw [World.size_alloc, World.size_alloc] at this
    exact this
  have y4 : W6.cell? ⟨W3.heap.size + 1, 0, none⟩ = some (.pointer (some ⟨b, o, none⟩)) := by
    rw [← hW6]
    refine cellA _ ?_
    have := cellN (W3.alloc (.cells #[.pointer sp] 102)) (.pointer (some ⟨b, o, none⟩)) 122
    rw [World.size_alloc] at this
    exact this
  have yB : Below w.heap.size w W6 := by rw [← hW6]; exact ((qB.alloc (by omega) _).alloc (by simp; omega) _).alloc (by simp; omega) _
  have x3 := y0 _ _ (q0 _ _ hr)
  have x4 := y0 _ _ (q0 _ _ h)
  have x0 := y0 _ _ x0
  have x1 := y0 _ _ x1
  clear hW6 qB q0
  rw [z3] at y4 y5
  refine wpIn_rangeFunc fun fn _ => ⟨_, _, _, _, _, 247, _, _, run_enterLoop_outer fn _ _ _ _, rfl, fun _ _ => trivial, enters 247 _ _ Tryz.func247 rfl _ _, fun h => (by cases h), ?_⟩
  conv => arg 5; simp [rangeCall, Act.eval]
  refine callsIn_wide.2 ((none247 _ _ _ _ b o _ (cellA _ (cellA _ y5)) (cellA _ (cellA _ y4)) (cellA _ (cellA _ x4))).mono ?_)
  rintro e w' ⟨rfl, hBw⟩
  obtain ⟨W9, hend, t1, t2, t3, t4⟩ := loop_back W6 _ rfl rfl w' hBw
  refine ⟨none, W9, hend, ?_⟩
  have u0 : W9.cell? ⟨w.heap.size, 0, none⟩ = some (.func (.yield l) #[] #[]) := t1 _ _ x0
  have u1 : W9.cell? ⟨w.heap.size + 1, 0, none⟩ = some (.int .i64 0) := t1 _ _ x1
  have u3 : W9.cell? ⟨br, 0, none⟩ = some (.pointer (some ⟨b, o, none⟩)) := t1 _ _ x3
  have u4 : W9.cell? ⟨b, o, none⟩ = some (.pointer none) := t1 _ _ x4
  have uB : Below w.heap.size w W9 := yB.trans (t3 _ (by omega))
  clear hend t1 hBw y4 y5 x0 x1 x3 x4 y0
  have mixed := mixed
  gi_wp2
  have v0 : W9.drew.cell? ⟨w.heap.size, 0, none⟩ = some (.func (.yield l) #[] #[]) := u0
  have v1 : W9.drew.cell? ⟨w.heap.size + 1, 0, none⟩ = some (.int .i64 0) := u1
  have v3 : W9.drew.cell? ⟨br, 0, none⟩ = some (.pointer (some ⟨b, o, none⟩)) := u3
  have v4 : W9.drew.cell? ⟨b, o, none⟩ = some (.pointer none) := u4
  have vB : Below w.heap.size w W9.drew := uB.drew
  have vz : W6.heap.size + 2 ≤ W9.drew.heap.size := t4
  have vD : W9.drew.heap[W6.heap.size]? = some (.deferred (some [])) := t2
  refine wpIn_wide.2 ?_
  have dz : ∀ W : World, W.drew.heap.size = W.heap.size := fun W => rfl
  have keep : ∀ W W1 : World, (Below W9.drew.heap.size W9.drew W ∧ W.cell? ⟨w.heap.size + 1, 0, none⟩ = some (.int .i64 0) ∧ W.cell? ⟨br, 0, none⟩ = some (.pointer (some ⟨b, o, none⟩)) ∧ W.cell? ⟨b, o, none⟩ = some (.pointer none)) → Below W.heap.size W W1 → (Below W9.drew.heap.size W9.drew W1 ∧ W1.cell? ⟨w.heap.size + 1, 0, none⟩ = some (.int .i64 0) ∧ W1.cell? ⟨br, 0, none⟩ = some (.pointer (some ⟨b, o, none⟩)) ∧ W1.cell? ⟨b, o, none⟩ = some (.pointer none)) := fun W W1 hW h1 => ⟨hW.1.trans (h1.mono hW.1.size), cellB h1 (cell_lt hW.2.1) hW.2.1, cellB h1 (cell_lt hW.2.2.1) hW.2.2.1, cellB h1 (cell_lt hW.2.2.2) hW.2.2.2⟩
  go_region_held3 (fun W => Below W9.drew.heap.size W9.drew W ∧ W.cell? ⟨w.heap.size + 1, 0, none⟩ = some (.int .i64 0) ∧ W.cell? ⟨br, 0, none⟩ = some (.pointer (some ⟨b, o, none⟩)) ∧ W.cell? ⟨b, o, none⟩ = some (.pointer none)) (first | assumption | exact ⟨Below.refl _ _, v1, v3, v4⟩ | exact keep _ _ (by assumption) (by assumption)) (first | (go_at_call 200; refine (len200 b o _ (by simp [*])).mono ?_; rintro e W1 ⟨rfl, k1⟩))
  rename_i W1 _ hH
  obtain ⟨p1, p2, p3, p4⟩ := hH
  have r0 : W1.cell? ⟨w.heap.size, 0, none⟩ = some (.func (.yield l) #[] #[]) := cellB p1 (by have := cell_lt v0; exact this) v0
  have rB : Below w.heap.size w W1 := vB.trans (p1.mono (by omega))
  have rD : W1.heap[W6.heap.size]? = some (.deferred (some [])) := by rw [p1.block _ (by omega)]; exact vD
  have rz : W6.heap.size + 2 ≤ W1.heap.size := by have := p1.size; omega
  rw [show IntKind.wrap .i64 0 = 0 from rfl]
  obtain ⟨fn', tmps', assign', body', hy, hR⟩ := hY W1 rB
  simp only [leaf0] at hy
  have hb := iter198_a
  simp only [leaf0] at hb
  gi_wp2
  refine hR.mono ?_
  rintro e W2 ⟨rfl, hbut, hpost⟩
  gi_wp2
  have hK : W2.heap[w.heap.size + 6]? = some (.deferred (some [])) := by
    rw [hbut.2.2.2.2 _ (by omega) (by omega) (by omega), ← z6]
    exact rD
  refine ⟨by simp, .inl ⟨_, _, rfl, run_takeDeferred hK, ?_⟩⟩
  exact ⟨_, results_none rfl _ _ _, rfl, W1, W2, _, rB, hbut, hpost, by omega, by omega, rfl⟩
end Go.Am
end
section
namespace Go.Am
open Go.Proofs Go.RowKit Go.Shelf
attribute [local go_sem] Oper.semAt_some
def leafCells : List Value := [.int .i64 (-2), .int .i64 0, .int .i64 0, .int .i64 1]
theorem heapA {w : World} {k : Nat} {x : Obj} (o : Obj) (h : w.heap[k]? = some x) : (w.alloc o).heap[k]? = some x := by
  have hlt : k < w.heap.size := (Array.getElem?_eq_some_iff.1 h).1
  show (w.heap.push o)[k]? = _
  rw [Array.getElem?_push, if_neg (by omega)]
  exact h
theorem start_world (W : World) (r : Loop) (W4 : World) (h : (W.alloc (.deferred (some []))).alloc (.loop r) = W4) :
    W4.heap.size = W.heap.size + 2 ∧ W4.heap[W.heap.size + 1]? = some (.loop r) ∧ W4.heap[W.heap.size]? = some (.deferred (some [])) ∧ (∀ (k : Nat) (x : Obj), W.heap[k]? = some x → W4.heap[k]? = some x) ∧ (∀ p u, W.cell? p = some u → W4.cell? p = some u) ∧ ∀ B, B ≤ W.heap.size → Below B W W4 := by
  subst h
  have h1 := World.alloc_heap_new (W.alloc (.deferred (some []))) (.loop r)
  rw [World.size_alloc] at h1
  exact ⟨by simp, h1, heapA _ (World.alloc_heap_new _ _), fun k x hk => heapA _ (heapA _ hk), fun p u hp => cellA _ (cellA _ hp), fun B hB => ((Below.refl _ W).alloc hB _).alloc (by simp; omega) _⟩
def Post1 (l O : Nat) (W W' : World) : Prop :=
  (∃ r : Loop, W'.heap[l]? = some (.loop r) ∧ r.state = .ready ∧ r.pending = none) ∧
  ∃ N cap cur, W'.cell? ⟨O, 0, none⟩ = some (.slice (some ⟨N, 0, none⟩) 1 cap) ∧ W.heap.size ≤ N ∧ W'.heap[N]? = some (.cells cur 234 (0, 0)) ∧ 1 ≤ cap ∧ cur.size = cap * 4 ∧ cur.toList.take 4 = leafCells
theorem info234 : (Tryz.prog.info? 234).map (fun i => (i.zero, i.size, i.bytes)) = some (some (.agg #[.int .i64 0, .int .i64 0, .int .i64 0, .int .i64 0]), 4, 32) := by kernel_rfl
set_option maxHeartbeats 2000000 in
set_option maxRecDepth 100000 in
theorem app197 (ba bs br b o : Nat) (sp : Option Addr) (w : World) (ha : w.cell? ⟨ba, 0, none⟩ = some (.int .i64 0)) (hs : w.cell? ⟨bs, 0, none⟩ = some (.pointer sp)) (hr : w.cell? ⟨br, 0, none⟩ = some (.pointer (some ⟨b, o, none⟩)))
    (h : w.cell? ⟨b, o, none⟩ = some (.pointer none)) :
    CallsIn Fence.wide 3 Tryz.prog 197 #[.slice none 0 0, .func (.func 198) #[] #[.pointer (some ⟨ba, 0, none⟩), .pointer (some ⟨bs, 0, none⟩), .pointer (some ⟨br, 0, none⟩)]] w fun e w' =>
      ∃ N cap cur, e = .returned (.slice (some ⟨N, 0, none⟩) 1 cap) ∧ w.heap.size ≤ N ∧ w'.heap[N]? = some (.cells cur 234 (0, 0)) ∧ 1 ≤ cap ∧ cur.size = cap * 4 ∧ cur.toList.take 4 = leafCells ∧ Below w.heap.size w w' := by
  refine callsIn_of_wp_marks Tryz.func197 rfl trivial ?_ rfl
  simp only [Tryz.ntmps197, List.size_toArray, List.length_cons, List.length_nil, Nat.reduceAdd, Nat.reduceSub, Array.replicate_succ, Array.replicate_zero, List.push_toArray, List.append_toArray, List.nil_append, List.cons_append]
  gi_wp2
  have c0 := cellN w (.slice none 0 0) 137
  have qB : Below w.heap.size w (w.alloc (.cells #[.slice none 0 0] 137)) := (Below.refl _ w).alloc (Nat.le_refl _) _
  have q0 := fun (p : Addr) (u : Value) (hp : w.cell? p = some u) => cellA (.cells #[.slice none 0 0] 137) hp
  have z2 : (w.alloc (.cells #[.slice none 0 0] 137)).heap.size = w.heap.size + 1 := by simp
  have hO : (w.alloc (.cells #[.slice none 0 0] 137)).heap[w.heap.size]? = some (.cells #[.slice none 0 0] 137 (0, 0)) := World.alloc_heap_new _ _
  generalize w.alloc (.cells #[.slice none 0 0] 137) = W2 at c0 qB q0 z2 hO ⊢
  refine wpIn_rangeFunc fun fn _ => ⟨_, _, _, _, _, 198, _, _, run_enterLoop_outer fn _ _ _ _, rfl, fun _ _ => trivial, enters 198 _ _ Tryz.func198 rfl _ _, fun h => (by cases h), ?_⟩
  conv => arg 5; simp [rangeCall, Act.eval]
  generalize hW4 : (W2.alloc _).alloc _ = W4
  obtain ⟨z4, hL, hD, g1, g2, g3⟩ := start_world _ _ _ hW4
  clear hW4
  refine (iter198 (W2.heap.size + 1) w.heap.size ba bs br b o sp W4 (g2 _ _ (q0 _ _ ha)) (g2 _ _ (q0 _ _ hs)) (g2 _ _ (q0 _ _ hr)) (g2 _ _ (q0 _ _ h)) (by omega) (by omega) (Post1 (W2.heap.size + 1) w.heap.size) ?_).mono ?_
  · intro W hW
    have hL1 := (hW.block _ (by omega)).trans hL
    have hO1 := (hW.block w.heap.size (by omega)).trans (g1 _ _ hO)
    refine ⟨_, _, _, _, run_yield hL1 rfl, roundIn_of_wpIn trivial ?_⟩
    simp only [leaf0, List.zip_toArray, List.foldl_toArray]
    gi_wp2
    rw [z2] at hL1
    refine ⟨_, run_beginRound (heapA _ hL1) rfl, ?_⟩
    generalize hV : World.putObj _ _ _ = V
    have hT : (W.alloc (.cells #[.int .i64 (-2), .int .i64 0, .int .i64 0, .int .i64 1] 234)).heap[W.heap.size]? = some (.cells #[.int .i64 (-2), .int .i64 0, .int .i64 0, .int .i64 1] 234 (0, 0)) := World.alloc_heap_new _ _
    have hlw : w.heap.size + 3 ≤ W.heap.size := by have := hW.size; omega
    have vO : V.heap[w.heap.size]? = some (.cells #[.slice none 0 0] 137 (0, 0)) := by rw [← hV, World.putObj_heap_other (by omega)]; exact heapA _ hO1
    have vT : V.heap[W.heap.size]? = some (.cells #[.int .i64 (-2), .int .i64 0, .int .i64 0, .int .i64 1] 234 (0, 0)) := by rw [← hV, World.putObj_heap_other (by omega)]; exact hT
    have vz : V.heap.size = W.heap.size + 1 := by rw [← hV]; simp
    have vL : ∃ r : Loop, V.heap[w.heap.size + 1 + 1]? = some (.loop r) := ⟨_, by rw [← hV]; exact World.putObj_heap_same (by simp; omega)⟩
    have vK : ∀ k, k < W.heap.size → k ≠ w.heap.size + 1 + 1 → V.heap[k]? = W.heap[k]? := fun k h1 h2 => by
      rw [← hV, World.putObj_heap_other h2]
      show (W.heap.push _)[k]? = _
      rw [Array.getElem?_push, if_neg (by omega)]
    have vs : V.os = W.os ∧ V.tape = W.tape ∧ V.output = W.output := by rw [← hV]; exact ⟨rfl, rfl, rfl⟩
    clear hV
    obtain ⟨rl, vL⟩ := vL
    have o0 : V.cell? ⟨w.heap.size, 0, none⟩ = some (.slice none 0 0) := by rw [Lib.cell_of_heap vO]; rfl
    have t0 : V.cell? ⟨W.heap.size, 0, none⟩ = some (.int .i64 (-2)) := by rw [Lib.cell_of_heap vT]; rfl
    have t1 : V.cell? ⟨W.heap.size, 1, none⟩ = some (.int .i64 0) := by rw [Lib.cell_of_heap vT]; rfl
    have t2 : V.cell? ⟨W.heap.size, 2, none⟩ = some (.int .i64 0) := by rw [Lib.cell_of_heap vT]; rfl
    have t3 : V.cell? ⟨W.heap.size, 3, none⟩ = some (.int .i64 1) := by rw [Lib.cell_of_heap vT]; rfl
    obtain ⟨i0, hi, hz0, hz1, hz2⟩ := info_parts info234
    have hB := World.alloc_heap_new V (.cells #[.int .i64 (-2), .int .i64 0, .int .i64 0, .int .i64 1] 234)
    rw [vz] at hB
    have b0 := Lib.cell_of_heap hB
    gi_wp2_with (gi_at_builtin; refine wpListIn_append_own _ rfl _ _ 137 rfl (W.heap.size + 2) 234 i0 _ 4 32 Tryz.underlying137 hi hz0 hz1 hz2 rfl (by decide) _ 0 [] rfl (World.ownsRow_nil _ _ _ _) ⟨W.heap.size + 1, 0, none⟩ 1 1 leafCells rfl rfl ?c1 ?c2 ?c3 ?c4 ?c5 ?_)
    case c1 =>
      intro j u hj
      match j, hj with
      | 0, hj => simp [leafCells] at hj; subst hj; exact (b0 0).trans rfl
      | 1, hj => simp [leafCells] at hj; subst hj; exact (b0 1).trans rfl
      | 2, hj => simp [leafCells] at hj; subst hj; exact (b0 2).trans rfl
      | 3, hj => simp [leafCells] at hj; subst hj; exact (b0 3).trans rfl
      | j + 4, hj => simp [leafCells] at hj
    case c2 =>
      intro u hu
      simp [leafCells] at hu
      rcases hu with rfl | rfl | rfl <;> rfl
    case c3 => unfold maxLen; omega
    case c4 => omega
    case c5 => simp [vz]
    intro v' W5 hown hgrow hiff
    have xz : (V.alloc (.cells #[.int .i64 (-2), .int .i64 0, .int .i64 0, .int .i64 1] 234)).heap.size = W.heap.size + 2 := by simp [vz]
    have xK : ∀ k, k < W.heap.size + 2 → W5.heap[k]? = (V.alloc (.cells #[.int .i64 (-2), .int .i64 0, .int .i64 0, .int .i64 1] 234)).heap[k]? := fun k hk => hgrow.block k (by omega) (by simp [Value.ownBlock])
    have xO := (xK w.heap.size (by omega)).trans (heapA _ vO)
    have xL := (xK (w.heap.size + 1 + 1) (by omega)).trans (heapA _ vL)
    have d0 : W5.cell? ⟨w.heap.size, 0, none⟩ = some (.slice none 0 0) := by rw [Lib.cell_of_heap xO]; rfl
    have f0 : W5.frozen? ⟨w.heap.size, 0, none⟩ = false := Lib.frozen_of_heap xO 0
    obtain ⟨N, cap, cur, rfl, hN, hNw, hc1, hc2, hc3, hc4⟩ : ∃ N cap cur, v' = .slice (some ⟨N, 0, none⟩) 1 cap ∧ W.heap.size + 2 ≤ N ∧ W5.heap[N]? = some (.cells cur 234 (0, 0)) ∧ 1 ≤ cap ∧ cap ≤ maxLen ∧ cur.size = cap * 4 ∧ cur.toList.take 4 = leafCells := by
      rcases hown.2 with ⟨_, hz⟩ | ⟨g, cap, cur, hv, h1, h2, h3, h4, h5, h6⟩
      · omega
      · exact ⟨g, cap, cur, hv, h1, h2, h3, h4, h5, by simpa using h6⟩
    gi_wp2
    have s5 := setCell_other W5 ⟨w.heap.size, 0, none⟩ (.slice (some ⟨N, 0, none⟩) 1 cap)
    have e0 : (W5.setCell ⟨w.heap.size, 0, none⟩ (.slice (some ⟨N, 0, none⟩) 1 cap)).cell? ⟨w.heap.size, 0, none⟩ = some (.slice (some ⟨N, 0, none⟩) 1 cap) := World.cell?_setCell_same' _ _ _ (by rw [d0]; rfl)
    have hL6 := (s5.2 (w.heap.size + 1 + 1) (by simp; omega)).trans xL
    have hgs := hgrow.size
    refine ⟨_, _, run_endRound none hL6, rfl, ⟨?_, ?_, ?_, ?_, fun k h1 h2 h3 => ?_⟩, ⟨_, World.putObj_heap_same (by rw [s5.1]; omega), rfl, rfl⟩, N, cap, cur, cellP (by simp; omega) e0, by omega, ?_, hc1, hc3, hc4⟩
    · exact hgrow.os.trans vs.1
    · exact hgrow.tape.trans vs.2.1
    · exact hgrow.output.trans vs.2.2
    · rw [World.putObj_size, s5.1]; omega
    · rw [World.putObj_heap_other (by omega), s5.2 k (by simpa using h3), xK k (by omega)]
      show (V.heap.push _)[k]? = _
      rw [Array.getElem?_push, if_neg (by omega)]
      exact vK k h1 (by omega)
    · rw [World.putObj_heap_other (by omega), s5.2 N (by simp; omega)]
      exact hNw
  · rintro e w' ⟨rfl, W, W1, D2, hW, hbut, ⟨⟨r, hr1, hr2, hr3⟩, N, cap, cur, hN1, hN2, hN3, hN4, hN5, hN6⟩, hD1, hD2, rfl⟩
    have hwz := hW.size
    have hbz := hbut.2.2.2.1
    have hLw : (W1.putObj D2 (.deferred none)).heap[W2.heap.size + 1]? = some (.loop r) := by rw [World.putObj_heap_other (by omega)]; exact hr1
    refine ⟨none, _, by rw [run_endLoop hLw (by rw [hr2]; simp), hr3], ?_⟩
    generalize hW9 : World.putObj _ _ _ = W9
    have k0 : W9.cell? ⟨w.heap.size, 0, none⟩ = some (.slice (some ⟨N, 0, none⟩) 1 cap) := by rw [← hW9]; exact cellP (by simp; omega) (cellP (by simp; omega) hN1)
    have kD : W9.heap[W2.heap.size]? = some (.deferred (some [])) := by
      rw [← hW9, World.putObj_heap_other (by omega), World.putObj_heap_other (by omega), hbut.2.2.2.2 _ (by omega) (by omega) (by omega), hW.block _ (by omega)]
      exact hD
    have kN : W9.heap[N]? = some (.cells cur 234 (0, 0)) := by
      rw [← hW9, World.putObj_heap_other (by omega), World.putObj_heap_other (by omega)]
      exact hN3
    have kB : Below w.heap.size w W9 := by
      rw [← hW9]
      refine (qB.trans (g3 _ (by omega))).trans ((hW.mono (by omega)).trans ⟨hbut.1, hbut.2.1, hbut.2.2.1, by simp; omega, fun k hk => ?_⟩)
      rw [World.putObj_heap_other (by omega), World.putObj_heap_other (by omega), hbut.2.2.2.2 _ (by omega) (by omega) (by omega)]
    clear hW9
    gi_wp2
    rw [z2] at kD
    refine ⟨by simp, .inl ⟨_, _, rfl, run_takeDeferred kD, ?_⟩⟩
    refine ⟨_, results_tmp rfl _ _ _, N, cap, cur, rfl, by omega, ?_, hN4, hN5, hN6, kB.trans ⟨rfl, rfl, rfl, by simp, fun k hk => World.putObj_heap_other (by omega)⟩⟩
    rw [World.putObj_heap_other (by omega)]
    exact kN
set_option maxHeartbeats 1000000 in
set_option maxRecDepth 100000 in
theorem leaves65 (s : Option Addr) (b o : Nat) (w : World) (h : w.cell? ⟨b, o, none⟩ = some (.pointer none)) :
    Calls Tryz.prog 65 #[.pointer s, .pointer (some ⟨b, o, none⟩)] w fun e w' =>
      ∃ N cap cur, e = .returned (.slice (some ⟨N, 0, none⟩) 1 cap) ∧ w.heap.size ≤ N ∧ w'.heap[N]? = some (.cells cur 234 (0, 0)) ∧ 1 ≤ cap ∧ cur.size = cap * 4 ∧ cur.toList.take 4 = leafCells ∧ Below w.heap.size w w' := by
  have key : ∀ W : World, W = ((w.alloc (.cells #[.pointer s] 102)).alloc (.cells #[.pointer (some ⟨b, o, none⟩)] 122)).alloc (.cells #[.int .i64 0] 3) →
      Calls Tryz.prog 126 #[.func (.func 198) #[] #[.pointer (some ⟨w.heap.size + 2, 0, none⟩), .pointer (some ⟨w.heap.size, 0, none⟩), .pointer (some ⟨w.heap.size + 1, 0, none⟩)]] W fun e w' =>
        ∃ N cap cur, e = .returned (.slice (some ⟨N, 0, none⟩) 1 cap) ∧ w.heap.size ≤ N ∧ w'.heap[N]? = some (.cells cur 234 (0, 0)) ∧ 1 ≤ cap ∧ cur.size = cap * 4 ∧ cur.toList.take 4 = leafCells ∧ Below w.heap.size w w' := by
    intro W hW
    have z : W.heap.size = w.heap.size + 3 := by rw [hW]; simp
    have a0 : W.cell? ⟨w.heap.size + 2, 0, none⟩ = some (.int .i64 0) := by
      rw [hW]
      have := cellN ((w.alloc (.cells #[.pointer s] 102)).alloc (.cells #[.pointer (some ⟨b, o, none⟩)] 122)) (.int .i64 0) 3
      rw [World.size_alloc, World.size_alloc] at this
      exact this
    have a1 : W.cell? ⟨w.heap.size, 0, none⟩ = some (.pointer s) := by rw [hW]; exact cellA _ (cellA _ (cellN _ _ _))
    have a2 : W.cell? ⟨w.heap.size + 1, 0, none⟩ = some (.pointer (some ⟨b, o, none⟩)) := by
      rw [hW]
      refine cellA _ ?_
      have := cellN (w.alloc (.cells #[.pointer s] 102)) (.pointer (some ⟨b, o, none⟩)) 122
      rw [World.size_alloc] at this
      exact this
    have a3 : W.cell? ⟨b, o, none⟩ = some (.pointer none) := by rw [hW]; exact cellA _ (cellA _ (cellA _ h))
    have aB : Below w.heap.size w W := by rw [hW]; exact (((Below.refl _ w).alloc (Nat.le_refl _) _).alloc (by simp) _).alloc (by simp; omega) _
    clear hW
    go_enter Tryz.func126, Tryz.ntmps126
    go_wp2_with (go_at_call 197; refine (callsIn_wide.1 (app197 _ _ _ b o s W a0 a1 a2 a3)).mono ?_; rintro e w' ⟨N, cap, cur, rfl, h1, h2, h3, h4, h5, h6⟩)
    go_ret
    exact ⟨N, cap, cur, rfl, by omega, h2, h3, h4, h5, aB.trans (h6.mono (by omega))⟩
  go_enter Tryz.func65, Tryz.ntmps65
  go_wp2_with (first | (go_at_call 127; refine (seq127 s ⟨b, o, none⟩ _).mono ?_; rintro e w' ⟨rfl, rfl⟩) | (go_at_call 126; refine (key _ rfl).mono ?_; rintro e w' ⟨N, cap, cur, rfl, h1, h2, h3, h4, h5, h6⟩))
  go_ret
  exact ⟨N, cap, cur, rfl, h1, h2, h3, h4, h5, h6⟩
end Go.Am
end
section
namespace Go.Am
open Go.Proofs Go.RowKit
section
variable {P : Program} {G base top : Nat} {w0 : World} {m : Mp} {A : Heap} {w : World}
theorem HR.gain (h : HR P G base w0 top m A w) (hlt : A.next < top) {w' : World} (hB : Below w.heap.size w w') {N d : Nat} (hN : w.heap.size ≤ N) {o : AObj} {o' : Obj} (hw : w'.heap[N]? = some o') (ho : AOR P m d o o') :
    Sub m (ext m A.next N d) ∧ HR P G base w0 top (ext m A.next N d) (hpush A (some o)) w' ∧ Keep G m A w (ext m A.next N d) (hpush A (some o)) w' := by
  have hf : m A.next = none := h.fresh _ (Nat.le_refl _) hlt
  have hsub := sub_ext hf N d
  obtain ⟨h1, k1⟩ := h.grow hB
  have hNl : N < w'.heap.size := (Array.getElem?_eq_some_iff.1 hw).1
  have hbl := h.base_le
  have hext : ∀ i x, ext m A.next N d i = some x → (i = A.next ∧ x = (N, d)) ∨ (i ≠ A.next ∧ m i = some x) := by
    intro i x e
    unfold ext at e
    split at e
    · rename_i e'; cases e; exact .inl ⟨e', rfl⟩
    · rename_i e'; exact .inr ⟨e', e⟩
  have hget : ∀ i y, hget (hpush A (some o)) i = some y → (i = A.next ∧ y = o) ∨ (i ≠ A.next ∧ hget A i = some y) := by
    intro i y e
    rw [hget_push] at e
    split at e
    · rename_i e'; cases e; exact .inl ⟨e', rfl⟩
    · rename_i e'; exact .inr ⟨e', e⟩
  have hgl := h.g_len
  have hself : ext m A.next N d A.next = some (N, d) := by simp [ext]
  refine ⟨hsub, ⟨h1.below, h1.base_le, h1.g_le, by simp [hpush]; omega, fun b a1 a2 => ?_, fun b r d' e => ?_, fun b r d' hG e => ?_, fun b hb => hsub _ _ (h.glob b hb), fun i y hy => ?_, fun i j y z r d1 d2 hGi hy hz e1 e2 => ?_⟩,
    ⟨hB.size, fun r hr hs => ⟨hB.block r hr, fun i y d' hGi hy e => ?_⟩⟩, by simp [hpush], fun b => ?_⟩
  · have : b ≠ A.next := by simp [hpush] at a1; omega
    unfold ext
    rw [if_neg this]
    exact h.fresh b (by simp [hpush] at a1; omega) a2
  · rcases hext _ _ e with ⟨_, e⟩ | ⟨_, e⟩
    · cases e; exact hNl
    · exact h1.real b r d' e
  · rcases hext _ _ e with ⟨_, e⟩ | ⟨_, e⟩
    · cases e; omega
    · exact h.own b r d' hG e
  · rcases hget _ _ hy with ⟨rfl, rfl⟩ | ⟨hi, hy⟩
    · exact ⟨by simp [hpush], N, d, o', hself, hw, ho.mono hsub⟩
    · obtain ⟨g1, r, d', y', g2, g3, g4⟩ := h1.blk i y hy
      exact ⟨by simp [hpush]; omega, r, d', y', hsub _ _ g2, g3, g4.mono hsub⟩
  · rcases hget _ _ hy with ⟨hi, hy⟩ | ⟨hi, hy⟩ <;> rcases hget _ _ hz with ⟨hj, hz⟩ | ⟨hj, hz⟩
    · omega
    · subst hi
      rw [hself] at e1
      cases e1
      rcases hext _ _ e2 with ⟨e, _⟩ | ⟨_, e2⟩
      · exact absurd e hj
      · have := h.real _ _ _ e2; omega
    · subst hj
      rw [hself] at e2
      cases e2
      rcases hext _ _ e1 with ⟨e, _⟩ | ⟨_, e1⟩
      · exact absurd e hi
      · have := h.real _ _ _ e1; omega
    · rcases hext _ _ e1 with ⟨e, _⟩ | ⟨_, e1⟩
      · exact absurd e hi
      · rcases hext _ _ e2 with ⟨e, _⟩ | ⟨_, e2⟩
        · exact absurd e hj
        · exact h.inj i j y z r d1 d2 hGi hy hz e1 e2
  · rcases hget _ _ hy with ⟨hi, hy⟩ | ⟨hi, hy⟩
    · subst hi
      rw [hself] at e
      cases e
      omega
    · rcases hext _ _ e with ⟨e, _⟩ | ⟨_, e⟩
      · exact absurd e hi
      · exact hs i y d' hGi hy e
  · unfold ext
    split
    · rename_i e; exact .inr ⟨by omega, by simp [hpush]; omega⟩
    · exact .inl rfl
end
noncomputable def leavesO : CallF → Array Value → Heap → Option (Value × Heap) := fun _ args A =>
  match args.toList with
  | [.pointer _, .pointer (some r)] => match r.spot, hget A r.block with
    | none, some (.cells n t _) => match Nat.blt r.off n, t.get r.off with
      | true, some (.pointer none) => some (.slice (some ⟨A.next, 0, none⟩) 1 4, hpush A (some (.cells 4 (fillT [.int .i64 (-2), .int .i64 0, .int .i64 0, .int .i64 1] 0 .leaf) 234)))
      | _, _ => none
    | _, _ => none
  | _ => none
theorem cells234 : Tryz.prog.cellsOf 234 = 4 := by kernel_rfl
theorem av_two {m : Mp} {v u : Value} {args' : Array Value} (h : AV m #[v, u] args') : ∃ v' u', args' = #[v', u'] ∧ VR m v v' ∧ VR m u u' := by
  have hsz := h.1
  match hq : args', hsz with
  | ⟨[v', u']⟩, _ => exact ⟨v', u', rfl, h.2 0 v v' rfl rfl, h.2 1 u u' rfl rfl⟩
theorem leaves_orc {base top : Nat} {w0 : World} (G : Nat) : OrcOne Tryz.prog G base top w0 65 leavesO := by
  intro call hcall args A v A' h
  unfold leavesO at h
  split at h
  rotate_left
  · cases h
  rename_i s r hl
  have hargs := arr_two hl
  subst hargs
  split at h
  rotate_left
  · cases h
  rename_i n t e hs hA
  split at h
  rotate_left
  · cases h
  rename_i hlt hz
  have hlt := blt_true hlt
  cases h
  refine ⟨Nat.le_succ _, fun ht m args' w ha hr => ?_⟩
  obtain ⟨v', u', rfl, hv, hu⟩ := av_two ha
  obtain ⟨r', rfl, hrr⟩ := vr_ptr hu
  have hp : ∃ s', v' = .pointer s' := by
    cases hv with
    | pnil => exact ⟨_, rfl⟩
    | ptr h => exact ⟨_, rfl⟩
  obtain ⟨s', rfl⟩ := hp
  obtain ⟨x, hc, hvr⟩ := hr.cell hrr hA hs hlt hz
  cases hvr
  have hre := addr_eta (hrr.2.2.trans hs)
  rw [hre] at hc ⊢
  refine (leaves65 s' r'.block r'.off w hc).mono ?_
  rintro e w' ⟨N, cap, cur, rfl, h1, h2, h3, h4, h5, h6⟩
  have hor : AOR Tryz.prog m (cap - 1) (.cells 4 (fillT [.int .i64 (-2), .int .i64 0, .int .i64 0, .int .i64 1] 0 .leaf) 234) (.cells cur 234 (0, 0)) := by
    refine .cells (.inl rfl) (by rw [cells234]; omega) fun i v hi hv => ?_
    rw [fillT_get, if_pos (by simp; omega)] at hv
    have hcur : cur[i]? = leafCells[i]? := by
      rw [← h5, List.getElem?_take, if_pos hi]
      simp
    match i, hi, hv, hcur with
    | 0, _, hv, hcur => simp at hv; subst hv; exact ⟨_, hcur, .int _ _⟩
    | 1, _, hv, hcur => simp at hv; subst hv; exact ⟨_, hcur, .int _ _⟩
    | 2, _, hv, hcur => simp at hv; subst hv; exact ⟨_, hcur, .int _ _⟩
    | 3, _, hv, hcur => simp at hv; subst hv; exact ⟨_, hcur, .int _ _⟩
  have hlt2 : A.next < top := by simp only [hpush] at ht; omega
  obtain ⟨k1, k2, k3⟩ := hr.gain hlt2 h6 h1 h2 hor
  refine ⟨_, k1, ?_, k2, k3⟩
  have hself : ext m A.next N (cap - 1) A.next = some (N, cap - 1) := by simp [ext]
  have := VR.sliceUp (m := ext m A.next N (cap - 1)) (a := ⟨A.next, 0, none⟩) (a' := ⟨N, 0, none⟩) 1 1 ⟨⟨_, hself⟩, rfl, rfl⟩ hself
  rw [show 1 + (cap - 1) = cap by omega] at this
  exact this
noncomputable def orcZ : Orc := fun f => match Nat.beq f 139 with
  | true => some (lockO 5)
  | false => match Nat.beq f 232 with
    | true => some (copyO 5)
    | false => match Nat.beq f 178 with
      | true => some (stringO 5)
      | false => match Nat.beq f 65 with
        | true => some leavesO
        | false => match Nat.beq f 40 with
          | true => some (triedO Tryz.prog)
          | false => none
noncomputable def orcDZ : OrcD := fun f => match Nat.beq f 252 with
  | true => some (backO 5)
  | false => match Nat.beq f 140 with
    | true => some (turnA 5 1 0)
    | false => none
theorem orcs_ok {base : Nat} {w0 : World} (top : Nat) : OrcOK Tryz.prog 5 base top w0 orcZ := by
  intro f g hg
  unfold orcZ at hg
  split at hg
  · rename_i h; have := Nat.eq_of_beq_eq_true h; subst this; cases hg; exact lock_ok 5
  · split at hg
    · rename_i h; have := Nat.eq_of_beq_eq_true h; subst this; cases hg; exact copy_ok 5
    · split at hg
      · rename_i h; have := Nat.eq_of_beq_eq_true h; subst this; cases hg; exact string_ok 5
      · split at hg
        · rename_i h; have := Nat.eq_of_beq_eq_true h; subst this; cases hg; exact leaves_orc 5
        · split at hg
          · rename_i h; have := Nat.eq_of_beq_eq_true h; subst this; cases hg; exact tried_ok 5
          · cases hg
theorem orcsD_ok {base : Nat} {w0 : World} (top : Nat) : OrcDOK Tryz.prog 5 base top w0 orcDZ := by
  intro f g hg
  unfold orcDZ at hg
  split at hg
  · rename_i h; have := Nat.eq_of_beq_eq_true h; subst this; cases hg; exact back_ok 5
  · split at hg
    · rename_i h; have := Nat.eq_of_beq_eq_true h; subst this; cases hg; exact unlock_ok 5
    · cases hg
end Go.Am
end
