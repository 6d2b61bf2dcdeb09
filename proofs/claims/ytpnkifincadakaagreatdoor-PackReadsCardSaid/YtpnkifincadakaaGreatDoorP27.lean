/- Proved: part 27 of the proof of PackReads (Re11, Re12, Re13, Re14). Conditions: each theorem states its own. -/
import Derived.Test.YtpnkifincadakaaGreatDoorP13
import Derived.Test.YtpnkifincadakaaGreatDoorP23
import Derived.Test.YtpnkifincadakaaGreatDoorP25
set_option linter.unusedVariables false
set_option linter.unusedSimpArgs false
section
namespace Go.Proofs.YtpnkifincadakaaGreatDoor.Wr
open Go.RowKit Go.Pk Go.Proofs.YtpnkifincadakaaGreatDoorW.PrintWords Go.Proofs.YtpnkifincadakaaGreatDoor.PPackSpecs
set_option maxHeartbeats 16000000 in
set_option maxRecDepth 100000 in
theorem read_stop : ReadD 0 := by
  intro g q cb bs a r n P cnt d w hd h hp hcb h0
  obtain ⟨deep, hdeep⟩ : ∃ deep : Int, deep = 65 - ((0 : Nat) : Int) := ⟨_, rfl⟩
  obtain ⟨ci, hci⟩ : ∃ ci : Int, ci = cnt := ⟨_, rfl⟩
  rw [← hci] at hp
  have hc1 : 0 ≤ ci ∧ ci ≤ 4096 := by omega
  have hgl := h.glt
  have hPl : P < w.heap.size := blk_lt hp
  have hql := h.qlt
  have hPg := hp.ne_g h
  have hPq := hp.ne_q h
  have hA1 := below_alloc (Below.refl _ w) (.cells #[.pointer (some ⟨P, 0, none⟩)] 266)
  have hA2 := below_alloc hA1 (.cells #[.int .i64 deep] 3)
  have hA3 := below_alloc hA2 (.cells #[.int .i64 0, .int .i64 0, .int .i64 0, .int .i64 0, .int .i64 0, .slice none 0 0] 40)
  have hR0 := h.below hA3
  have hb1 := blk_alloc (blk_alloc (blk_new w (.cells #[.pointer (some ⟨P, 0, none⟩)] 266)) (.cells #[.int .i64 deep] 3)) (.cells #[.int .i64 0, .int .i64 0, .int .i64 0, .int .i64 0, .int .i64 0, .slice none 0 0] 40)
  have hb2 := blk_alloc (blk_new (w.alloc (.cells #[.pointer (some ⟨P, 0, none⟩)] 266)) (.cells #[.int .i64 deep] 3)) (.cells #[.int .i64 0, .int .i64 0, .int .i64 0, .int .i64 0, .int .i64 0, .slice none 0 0] 40)
  have hb3 := blk_new ((w.alloc (.cells #[.pointer (some ⟨P, 0, none⟩)] 266)).alloc (.cells #[.int .i64 deep] 3)) (.cells #[.int .i64 0, .int .i64 0, .int .i64 0, .int .i64 0, .int .i64 0, .slice none 0 0] 40)
  rw [World.size_alloc] at hb2
  rw [World.size_alloc, World.size_alloc] at hb3
  have hP0 := (hA3.block _ hPl).trans hp
  have p0 : (((w.alloc (.cells #[.pointer (some ⟨P, 0, none⟩)] 266)).alloc (.cells #[.int .i64 deep] 3)).alloc (.cells #[.int .i64 0, .int .i64 0, .int .i64 0, .int .i64 0, .int .i64 0, .slice none 0 0] 40)).cell? ⟨P, 0, none⟩ = some (.pointer (some ⟨g, 0, none⟩)) := (blk_cell hP0 0).trans rfl
  have B1 := Aside0.mk hb1
  have B2 := Aside0.mk hb2
  have B3 := Aside0.mk hb3
  have BP := Aside0.mk hP0
  have M0 := Aside0.mk (Mv.of_below hA3 (Nat.le_of_lt hgl))
  have H := Aside0.mk h
  have HDEEP := Aside0.mk hdeep
  have HCI := Aside0.mk hci
  obtain ⟨dt, hN⟩ : ∃ dt, numD bs a 1 0 255 = dt := ⟨_, rfl⟩
  have HNUM := Aside0.mk (number151D g q cb bs a r n 1 255 _ hN (.inl ⟨rfl, rfl⟩) _ hR0)
  rw [valueD, hN] at hd
  rw [← hdeep]
  rcases dt with ⟨k, a1⟩ | ⟨er, p⟩
  rotate_left
  · obtain rfl : d = .bad er p := hd.symm
    clear hN hb1 hb2 hb3 hP0 hA1 hA2 hA3 hR0 h hp hdeep hci h0
    go_enter Tryz.func152, Tryz.ntmps152
    go_wp2_with (go_at_call 151; refine HNUM.out.mono ?_)
    rintro e' w1 ⟨rfl, k1⟩
    have M1 := Aside0.mk ((M0.out.trans k1).two P)
    clear k1
    go_wp2
    exact ⟨rfl, rfl, M1.out⟩
  rw [Rdd.bind_ok] at hd
  obtain ⟨rfl, hal, _, hk0, hk1⟩ := numD_ok hN
  clear hN hb1 hb2 hb3 hP0 hA1 hA2 hA3 hR0 h hp hdeep hci
  obtain rfl : d = .bad 180 a := hd.symm
  · have hk : k < 1 ∨ 4 < k ∨ 64 < deep := .inr (.inr (by have := HDEEP.out; omega))
    have T : decide (k < 1) = true ∨ (decide (k < 1) = false ∧ decide (4 < k) = true) ∨ (decide (k < 1) = false ∧ decide (4 < k) = false ∧ decide (64 < deep) = true ∧ True) := by
      rcases hk with hk | hk | hk
      · exact .inl (decide_eq_true hk)
      · exact .inr (.inl ⟨decide_eq_false (by omega), decide_eq_true hk⟩)
      · by_cases g1 : k < 1
        · exact .inl (decide_eq_true g1)
        · by_cases g2 : 4 < k
          · exact .inr (.inl ⟨decide_eq_false g1, decide_eq_true g2⟩)
          · exact .inr (.inr ⟨decide_eq_false g1, decide_eq_false g2, decide_eq_true hk, trivial⟩)
    clear hk
    rcases T with q1 | ⟨q1, q2⟩ | ⟨q1, q2, q3, q4⟩
    all_goals
      go_enter Tryz.func152, Tryz.ntmps152
      go_wp2_with (go_at_call 151; refine HNUM.out.mono ?_)
      first | rintro e' w1 rfl k1 k2 | rintro e' w1 ⟨rfl, k1, k2⟩
      have C1 := k2.blk B1.out (by omega)
      have C2 := k2.blk B2.out (by omega)
      have CP := k2.blk BP.out hPg
      have r0 : w1.cell? ⟨w.heap.size, 0, none⟩ = some (.pointer (some ⟨P, 0, none⟩)) := (blk_cell C1 0).trans rfl
      have r1 : w1.cell? ⟨w.heap.size + 1, 0, none⟩ = some (.int .i64 deep) := (blk_cell C2 0).trans rfl
      have r2 : w1.cell? ⟨P, 1, none⟩ = some (.int .i64 ci) := (blk_cell CP 1).trans rfl
      have r3 : w1.frozen? ⟨P, 1, none⟩ = false := blk_frozen CP 1
      have M1 := Aside0.mk (((M0.out.trans k2).two P).setP 1 (.int .i64 (ci + 1)))
      clear C1 C2 CP k1 k2
      go_wp2_with (go_at_call 150; refine (refuse150 _ _ _).mono ?_)
      first | rintro e' w7 rfl rfl | rintro e' w7 ⟨rfl, rfl⟩
      go_wp2
      exact ⟨rfl, rfl, M1.out⟩
set_option maxHeartbeats 32000000 in
set_option maxRecDepth 100000 in
theorem read_next (f : Nat) (hf : f < 64) (IH : ReadD f) : ReadD (f + 1) := by
  intro g q cb bs a r n P cnt d w hd h hp hcb h0
  obtain ⟨deep, hdeep⟩ : ∃ deep : Int, deep = 65 - ((f + 1 : Nat) : Int) := ⟨_, rfl⟩
  obtain ⟨ci, hci⟩ : ∃ ci : Int, ci = cnt := ⟨_, rfl⟩
  rw [← hci] at hp
  have hc1 : 0 ≤ ci ∧ ci ≤ 4096 := by omega
  have hgl := h.glt
  have hPl : P < w.heap.size := blk_lt hp
  have hql := h.qlt
  have hPg := hp.ne_g h
  have hPq := hp.ne_q h
  have hA1 := below_alloc (Below.refl _ w) (.cells #[.pointer (some ⟨P, 0, none⟩)] 266)
  have hA2 := below_alloc hA1 (.cells #[.int .i64 deep] 3)
  have hA3 := below_alloc hA2 (.cells #[.int .i64 0, .int .i64 0, .int .i64 0, .int .i64 0, .int .i64 0, .slice none 0 0] 40)
  have hR0 := h.below hA3
  have hb1 := blk_alloc (blk_alloc (blk_new w (.cells #[.pointer (some ⟨P, 0, none⟩)] 266)) (.cells #[.int .i64 deep] 3)) (.cells #[.int .i64 0, .int .i64 0, .int .i64 0, .int .i64 0, .int .i64 0, .slice none 0 0] 40)
  have hb2 := blk_alloc (blk_new (w.alloc (.cells #[.pointer (some ⟨P, 0, none⟩)] 266)) (.cells #[.int .i64 deep] 3)) (.cells #[.int .i64 0, .int .i64 0, .int .i64 0, .int .i64 0, .int .i64 0, .slice none 0 0] 40)
  have hb3 := blk_new ((w.alloc (.cells #[.pointer (some ⟨P, 0, none⟩)] 266)).alloc (.cells #[.int .i64 deep] 3)) (.cells #[.int .i64 0, .int .i64 0, .int .i64 0, .int .i64 0, .int .i64 0, .slice none 0 0] 40)
  rw [World.size_alloc] at hb2
  rw [World.size_alloc, World.size_alloc] at hb3
  have hP0 := (hA3.block _ hPl).trans hp
  have p0 : (((w.alloc (.cells #[.pointer (some ⟨P, 0, none⟩)] 266)).alloc (.cells #[.int .i64 deep] 3)).alloc (.cells #[.int .i64 0, .int .i64 0, .int .i64 0, .int .i64 0, .int .i64 0, .slice none 0 0] 40)).cell? ⟨P, 0, none⟩ = some (.pointer (some ⟨g, 0, none⟩)) := (blk_cell hP0 0).trans rfl
  have B1 := Aside0.mk hb1
  have B2 := Aside0.mk hb2
  have B3 := Aside0.mk hb3
  have BP := Aside0.mk hP0
  have M0 := Aside0.mk (Mv.of_below hA3 (Nat.le_of_lt hgl))
  have H := Aside0.mk h
  have HDEEP := Aside0.mk hdeep
  have HCI := Aside0.mk hci
  obtain ⟨dt, hN⟩ : ∃ dt, numD bs a 1 0 255 = dt := ⟨_, rfl⟩
  have HNUM := Aside0.mk (number151D g q cb bs a r n 1 255 _ hN (.inl ⟨rfl, rfl⟩) _ hR0)
  rw [valueD, hN] at hd
  rw [← hdeep]
  rcases dt with ⟨k, a1⟩ | ⟨er, p⟩
  rotate_left
  · obtain rfl : d = .bad er p := hd.symm
    clear hN hb1 hb2 hb3 hP0 hA1 hA2 hA3 hR0 h hp hdeep hci h0
    go_enter Tryz.func152, Tryz.ntmps152
    go_wp2_with (go_at_call 151; refine HNUM.out.mono ?_)
    rintro e' w1 ⟨rfl, k1⟩
    have M1 := Aside0.mk ((M0.out.trans k1).two P)
    clear k1
    go_wp2
    exact ⟨rfl, rfl, M1.out⟩
  rw [Rdd.bind_ok] at hd
  obtain ⟨rfl, hal, _, hk0, hk1⟩ := numD_ok hN
  clear hN hb1 hb2 hb3 hP0 hA1 hA2 hA3 hR0 h hp hdeep hci
  have q3 : decide (64 < deep) = false := decide_eq_false (by have := HDEEP.out; omega)
  by_cases hk : k < 1 ∨ 4 < k ∨ 4096 < cnt + 1
  · rw [if_pos hk] at hd
    obtain rfl : d = .bad 180 a := hd.symm
    replace hk : k < 1 ∨ 4 < k ∨ 4096 < ci + 1 := by have := HCI.out; omega
    have T : decide (k < 1) = true ∨ (decide (k < 1) = false ∧ decide (4 < k) = true) ∨ (decide (k < 1) = false ∧ decide (4 < k) = false ∧ decide (4096 < ci + 1) = true ∧ True) := by
      rcases hk with hk | hk | hk
      · exact .inl (decide_eq_true hk)
      · exact .inr (.inl ⟨decide_eq_false (by omega), decide_eq_true hk⟩)
      · by_cases g1 : k < 1
        · exact .inl (decide_eq_true g1)
        · by_cases g2 : 4 < k
          · exact .inr (.inl ⟨decide_eq_false g1, decide_eq_true g2⟩)
          · exact .inr (.inr ⟨decide_eq_false g1, decide_eq_false g2, decide_eq_true hk, trivial⟩)
    clear hk
    rcases T with q1 | ⟨q1, q2⟩ | ⟨q1, q2, q3, q4⟩
    all_goals
      go_enter Tryz.func152, Tryz.ntmps152
      go_wp2_with (go_at_call 151; refine HNUM.out.mono ?_)
      first | rintro e' w1 rfl k1 k2 | rintro e' w1 ⟨rfl, k1, k2⟩
      have C1 := k2.blk B1.out (by omega)
      have C2 := k2.blk B2.out (by omega)
      have CP := k2.blk BP.out hPg
      have r0 : w1.cell? ⟨w.heap.size, 0, none⟩ = some (.pointer (some ⟨P, 0, none⟩)) := (blk_cell C1 0).trans rfl
      have r1 : w1.cell? ⟨w.heap.size + 1, 0, none⟩ = some (.int .i64 deep) := (blk_cell C2 0).trans rfl
      have r2 : w1.cell? ⟨P, 1, none⟩ = some (.int .i64 ci) := (blk_cell CP 1).trans rfl
      have r3 : w1.frozen? ⟨P, 1, none⟩ = false := blk_frozen CP 1
      have M1 := Aside0.mk (((M0.out.trans k2).two P).setP 1 (.int .i64 (ci + 1)))
      clear C1 C2 CP k1 k2
      go_wp2_with (go_at_call 150; refine (refuse150 _ _ _).mono ?_)
      first | rintro e' w7 rfl rfl | rintro e' w7 ⟨rfl, rfl⟩
      go_wp2
      exact ⟨rfl, rfl, M1.out⟩
  rw [if_neg hk] at hd
  have q1 : decide (k < 1) = false := decide_eq_false (by omega)
  have q2 : decide (4 < k) = false := decide_eq_false (by omega)
  have q4 : decide (4096 < ci + 1) = false := decide_eq_false (by have := HCI.out; omega)
  have HKK : Aside0 ((k = 1 ∨ k = 4 ∨ k = 2 ∨ k = 3) ∧ cnt + 1 ≤ 4096) := ⟨by omega, by omega⟩
  have HD := Aside0.mk hd
  clear hd hk hk0 hk1 h0
  go_enter Tryz.func152, Tryz.ntmps152
  go_wp2_with (go_at_call 151; refine HNUM.out.mono ?_)
  first | rintro e' w1 rfl k1 k2 | rintro e' w1 ⟨rfl, k1, k2⟩
  have C1 := k2.blk B1.out (by omega)
  have C2 := k2.blk B2.out (by omega)
  have C3 := k2.blk B3.out (by omega)
  have CP := k2.blk BP.out hPg
  have r0 : w1.cell? ⟨w.heap.size, 0, none⟩ = some (.pointer (some ⟨P, 0, none⟩)) := (blk_cell C1 0).trans rfl
  have r1 : w1.cell? ⟨w.heap.size + 1, 0, none⟩ = some (.int .i64 deep) := (blk_cell C2 0).trans rfl
  have r2 : w1.cell? ⟨P, 1, none⟩ = some (.int .i64 ci) := (blk_cell CP 1).trans rfl
  have r3 : w1.frozen? ⟨P, 1, none⟩ = false := blk_frozen CP 1
  have far : ∀ {k : Nat} {o : Obj}, w1.heap[k]? = some o → k ≠ P → (w1.setCell ⟨P, 1, none⟩ (.int .i64 (ci + 1))).heap[k]? = some o := fun hb hne => by rw [Below.heap_setCell _ _ _ _ (by simpa using hne)]; exact hb
  have hbe := blk_new (w1.setCell ⟨P, 1, none⟩ (.int .i64 (ci + 1))) (.cells #[.int .i64 k, .int .i64 0, .int .i64 0, .int .i64 0, .int .i64 0, .slice none 0 0] 40)
  rw [show (w1.setCell ⟨P, 1, none⟩ (.int .i64 (ci + 1))).heap.size = w1.heap.size by simp] at hbe
  have hle : w.heap.size + 3 ≤ w1.heap.size := by have := k2.size; simp at this; omega
  have K0 : Rk g q cb bs (a + 1) r n P (ci + 1) deep w w1.heap.size #[.int .i64 k, .int .i64 0, .int .i64 0, .int .i64 0, .int .i64 0, .slice none 0 0] ((w1.setCell ⟨P, 1, none⟩ (.int .i64 (ci + 1))).alloc (.cells #[.int .i64 k, .int .i64 0, .int .i64 0, .int .i64 0, .int .i64 0, .slice none 0 0] 40)) :=
    ⟨(k1.put (p := ⟨P, 1, none⟩) hPg (fun e => hPq e.symm) _).alloc _, blk_alloc (blk_put (cs := #[.pointer (some ⟨g, 0, none⟩), .int .i64 ci]) CP 1 _ rfl) _, blk_alloc (far C1 (by omega)) _, blk_alloc (far C2 (by omega)) _, blk_alloc (far C3 (by omega)) _, hbe, ((((M0.out.trans k2).two P).setP 1 _).alloc hgl _), hle, hgl, hPl, hql⟩
  have HK0 := Aside0.mk K0
  clear K0 hbe far k1 k2 C1 C2 C3 CP
  go_upto_block 0 with (fail)
  obtain ⟨w2, hw2⟩ : ∃ w2, w2 = (w1.setCell ⟨P, 1, none⟩ (.int .i64 (ci + 1))).alloc (.cells #[.int .i64 k, .int .i64 0, .int .i64 0, .int .i64 0, .int .i64 0, .slice none 0 0] 40) := ⟨_, rfl⟩
  rw [← hw2] at HK0 ⊢
  clear hw2 r0 r1 r2 r3
  go_cut [8, 9] (fun p o wx => ∃ (N : Nat) (b : Bool) (x1 x2 x3 x4 : Int) (a2 : Nat), p = .int .i64 N ∧ o = .bool b ∧ N ≤ 65535 ∧ Aside0 (Rk g q cb bs a2 r n P (ci + 1) deep w w1.heap.size #[.int .i64 k, .int .i64 x1, .int .i64 x2, .int .i64 x3, .int .i64 x4, .slice none 0 0] wx) ∧ Aside0 (d = bif b then (manyD (valueD bs f) N (cnt + 1) a2).bind fun l a4 => .ok (⟨k, x1, x2, x3, x4, l.1⟩, l.2) a4 else .bad 180 a))
  case first =>
    have hd := HD.out
    obtain ⟨t0, t1, _⟩ := HK0.out.at
    clear HD IH q1 q2 q3 q4
    rcases HKK.out.1 with rfl | rfl | hk23
    · rw [if_pos rfl] at hd
      obtain ⟨dt, hN⟩ : ∃ dt, numD bs (a + 1) 1 0 255 = dt := ⟨_, rfl⟩
      have HN1 := Aside0.mk (number151D g q cb bs (a + 1) r n 1 255 _ hN (.inl ⟨rfl, rfl⟩) w2 HK0.out.rs)
      rw [hN] at hd
      rcases dt with ⟨x1, a2⟩ | ⟨er, p⟩
      rotate_left
      · obtain rfl : d = .bad er p := hd.symm
        clear hN
        go_wp2_with (go_at_call 151; refine HN1.out.mono ?_)
        rintro e' w3 ⟨rfl, k1⟩
        have M1 := Aside0.mk (HK0.out.mv.trans (k1.two P))
        clear k1
        go_wp2
        exact ⟨rfl, rfl, M1.out⟩
      rw [Rdd.bind_ok] at hd
      clear hN
      obtain ⟨dt, hN⟩ : ∃ dt, numD bs a2 1 0 255 = dt := ⟨_, rfl⟩
      have HN2 := Aside0.mk fun w' (h : RS g q cb bs a2 r n w') => number151D g q cb bs a2 r n 1 255 _ hN (.inl ⟨rfl, rfl⟩) w' h
      rw [hN] at hd
      rcases dt with ⟨x2, a3⟩ | ⟨er, p⟩
      rotate_left
      · obtain rfl : d = .bad er p := hd.symm
        clear hN
        go_wp2_with (go_at_call 151; refine HN1.out.mono ?_)
        first | rintro e' w3 rfl k1 k2 | rintro e' w3 ⟨rfl, k1, k2⟩
        have K3 := HK0.out.num k1 k2
        obtain ⟨_, _, t2⟩ := K3.at
        have t3 := K3.cellE 1 _ rfl
        have K4 := K3.put 1 (.int .i64 x1) _ rfl
        obtain ⟨t4, t5, _⟩ := K4.at
        have K4 := Aside0.mk K4
        clear K3 k1 k2
        go_wp2_with (go_at_call 151; refine (HN2.out _ K4.out.rs).mono ?_)
        rintro e' w5 ⟨rfl, k1⟩
        have M5 := Aside0.mk (K4.out.mv.trans (k1.two P))
        clear k1
        go_wp2
        exact ⟨rfl, rfl, M5.out⟩
      rw [Rdd.bind_ok] at hd
      clear hN
      obtain ⟨b, hb⟩ : ∃ b, decide (x1 ≤ x2) = b := ⟨_, rfl⟩
      have HDD : Aside0 (d = bif b then (manyD (valueD bs f) 0 (cnt + 1) a3).bind fun l a4 => .ok (⟨1, x1, x2, 0, 0, l.1⟩, l.2) a4 else .bad 180 a) := ⟨by
        rw [← hd]
        subst hb
        by_cases hx : x1 ≤ x2
        · rw [if_pos hx, decide_eq_true hx]; rfl
        · rw [if_neg hx, decide_eq_false hx]; rfl⟩
      clear hd
      go_wp2_with (go_at_call 151; refine HN1.out.mono ?_)
      first | rintro e' w3 rfl k1 k2 | rintro e' w3 ⟨rfl, k1, k2⟩
      have K3 := HK0.out.num k1 k2
      obtain ⟨_, _, t2⟩ := K3.at
      have t3 := K3.cellE 1 _ rfl
      have K4 := K3.put 1 (.int .i64 x1) _ rfl
      obtain ⟨t4, t5, _⟩ := K4.at
      have K4 := Aside0.mk K4
      clear K3 k1 k2
      go_wp2_with (go_at_call 151; refine (HN2.out _ K4.out.rs).mono ?_)
      first | rintro e' w5 rfl k1 k2 | rintro e' w5 ⟨rfl, k1, k2⟩
      have K5 := K4.out.num k1 k2
      obtain ⟨_, _, t6⟩ := K5.at
      have t7 := K5.cellE 2 _ rfl
      have K6 := K5.put 2 (.int .i64 x2) _ rfl
      have t8 := K6.cellE 1 _ rfl
      have t9 := K6.cellE 2 _ rfl
      have K6 := Aside0.mk K6
      clear K5 k1 k2
      go_wp2_with fail
      go_meet
      exact ⟨0, b, x1, x2, 0, 0, a3, rfl, by first | rfl | exact congrArg Value.bool hb, by omega, K6, HDD⟩
    · rw [if_neg (by omega), if_pos rfl] at hd
      obtain ⟨dt, hN⟩ : ∃ dt, numD bs (a + 1) 2 0 65535 = dt := ⟨_, rfl⟩
      have HN1 := Aside0.mk (number151D g q cb bs (a + 1) r n 2 65535 _ hN (.inr ⟨rfl, rfl⟩) w2 HK0.out.rs)
      rw [hN] at hd
      rcases dt with ⟨x3, a2⟩ | ⟨er, p⟩
      rotate_left
      · obtain rfl : d = .bad er p := hd.symm
        clear hN
        go_wp2_with (go_at_call 151; refine HN1.out.mono ?_)
        rintro e' w3 ⟨rfl, k1⟩
        have M1 := Aside0.mk (HK0.out.mv.trans (k1.two P))
        clear k1
        go_wp2
        exact ⟨rfl, rfl, M1.out⟩
      rw [Rdd.bind_ok] at hd
      obtain ⟨hx30, hx31⟩ := (numD_ok hN).2.2.2
      clear hN
      obtain ⟨dt, hN⟩ : ∃ dt, numD bs a2 2 0 65535 = dt := ⟨_, rfl⟩
      have HN2 := Aside0.mk fun w' (h : RS g q cb bs a2 r n w') => number151D g q cb bs a2 r n 2 65535 _ hN (.inr ⟨rfl, rfl⟩) w' h
      rw [hN] at hd
      rcases dt with ⟨y, a3⟩ | ⟨er, p⟩
      rotate_left
      · obtain rfl : d = .bad er p := hd.symm
        clear hN
        go_wp2_with (go_at_call 151; refine HN1.out.mono ?_)
        first | rintro e' w3 rfl k1 k2 | rintro e' w3 ⟨rfl, k1, k2⟩
        have K3 := HK0.out.num k1 k2
        obtain ⟨_, _, t2⟩ := K3.at
        have t3 := K3.cellE 3 _ rfl
        have K4 := K3.put 3 (.int .i64 x3) _ rfl
        obtain ⟨t4, t5, _⟩ := K4.at
        have K4 := Aside0.mk K4
        clear K3 k1 k2
        go_wp2_with (go_at_call 151; refine (HN2.out _ K4.out.rs).mono ?_)
        rintro e' w5 ⟨rfl, k1⟩
        have M5 := Aside0.mk (K4.out.mv.trans (k1.two P))
        clear k1
        go_wp2
        exact ⟨rfl, rfl, M5.out⟩
      rw [Rdd.bind_ok] at hd
      obtain ⟨hy0, hy1⟩ := (numD_ok hN).2.2.2
      clear hN
      by_cases hyy : y = 65535
      · subst hyy
        obtain ⟨b, hb⟩ : ∃ b, decide (x3 ≤ 1000) = b := ⟨_, rfl⟩
        have HDD : Aside0 (d = bif b then (manyD (valueD bs f) 1 (cnt + 1) a3).bind fun l a4 => .ok (⟨4, 0, 0, x3, -1, l.1⟩, l.2) a4 else .bad 180 a) := ⟨by
          rw [← hd]
          subst hb
          by_cases hx : x3 ≤ 1000
          · rw [if_pos ⟨hx, .inl rfl⟩, decide_eq_true hx]; rfl
          · rw [if_neg (fun h => hx h.1), decide_eq_false hx]; rfl⟩
        clear hd
        cases b
        all_goals
          go_wp2_with (go_at_call 151; refine HN1.out.mono ?_)
          first | rintro e' w3 rfl k1 k2 | rintro e' w3 ⟨rfl, k1, k2⟩
          have K3 := HK0.out.num k1 k2
          obtain ⟨_, _, t2⟩ := K3.at
          have t3 := K3.cellE 3 _ rfl
          have K4 := K3.put 3 (.int .i64 x3) _ rfl
          obtain ⟨t4, t5, _⟩ := K4.at
          have K4 := Aside0.mk K4
          clear K3 k1 k2
          go_wp2_with (go_at_call 151; refine (HN2.out _ K4.out.rs).mono ?_)
          first | rintro e' w5 rfl k1 k2 | rintro e' w5 ⟨rfl, k1, k2⟩
          have K5 := K4.out.num k1 k2
          obtain ⟨_, _, t6⟩ := K5.at
          have t7 := K5.cellE 4 _ rfl
          have K6 := K5.put 4 (.int .i64 65535) _ rfl
          obtain ⟨_, _, u6⟩ := K6.at
          have t8 := K6.cellE 3 _ rfl
          have t9 := K6.cellE 4 _ rfl
          have K7 := K6.put 4 (.int .i64 (-1)) _ rfl
          have v8 := K7.cellE 3 _ rfl
          have v9 := K7.cellE 4 _ rfl
          have K7 := Aside0.mk K7
          clear K5 K6 k1 k2
          go_wp2_with fail
          go_meet
          exact ⟨1, _, 0, 0, x3, -1, a3, rfl, rfl, by omega, K7, HDD⟩
      · obtain ⟨b, hT⟩ : ∃ b : Bool, (decide (x3 ≤ 1000) = false ∧ b = false) ∨ (decide (x3 ≤ 1000) = true ∧ decide (x3 ≤ y) = false ∧ b = false) ∨ (decide (x3 ≤ 1000) = true ∧ decide (x3 ≤ y) = true ∧ decide (y ≤ 1000) = b) := by
          by_cases g1 : x3 ≤ 1000
          · by_cases g2 : x3 ≤ y
            · exact ⟨_, .inr (.inr ⟨decide_eq_true g1, decide_eq_true g2, rfl⟩)⟩
            · exact ⟨_, .inr (.inl ⟨decide_eq_true g1, decide_eq_false g2, rfl⟩)⟩
          · exact ⟨_, .inl ⟨decide_eq_false g1, rfl⟩⟩
        have HDD : Aside0 (d = bif b then (manyD (valueD bs f) 1 (cnt + 1) a3).bind fun l a4 => .ok (⟨4, 0, 0, x3, y, l.1⟩, l.2) a4 else .bad 180 a) := ⟨by
          rw [← hd]
          rcases hT with ⟨g1, rfl⟩ | ⟨g1, g2, rfl⟩ | ⟨g1, g2, rfl⟩
          · rw [if_neg (fun h => absurd h.1 (of_decide_eq_false g1))]; rfl
          · rw [if_neg (fun h => h.2.elim hyy fun h => absurd h.1 (of_decide_eq_false g2))]; rfl
          · by_cases g3 : y ≤ 1000
            · rw [if_pos ⟨of_decide_eq_true g1, .inr ⟨of_decide_eq_true g2, g3⟩⟩, decide_eq_true g3, if_neg hyy]; rfl
            · rw [if_neg (fun h => h.2.elim hyy fun h => absurd h.2 g3), decide_eq_false g3]; rfl⟩
        obtain ⟨z1, z2⟩ := bf (show y ≠ 65535 by omega)
        have z3 : decide (y < 0) = false := decide_eq_false (by omega)
        clear hd
        rcases hT with ⟨g1, rfl⟩ | ⟨g1, g2, rfl⟩ | ⟨g1, g2, g3⟩
        all_goals
          go_wp2_with (go_at_call 151; refine HN1.out.mono ?_)
          first | rintro e' w3 rfl k1 k2 | rintro e' w3 ⟨rfl, k1, k2⟩
          have K3 := HK0.out.num k1 k2
          obtain ⟨_, _, t2⟩ := K3.at
          have t3 := K3.cellE 3 _ rfl
          have K4 := K3.put 3 (.int .i64 x3) _ rfl
          obtain ⟨t4, t5, _⟩ := K4.at
          have K4 := Aside0.mk K4
          clear K3 k1 k2
          go_wp2_with (go_at_call 151; refine (HN2.out _ K4.out.rs).mono ?_)
          first | rintro e' w5 rfl k1 k2 | rintro e' w5 ⟨rfl, k1, k2⟩
          have K5 := K4.out.num k1 k2
          obtain ⟨_, _, t6⟩ := K5.at
          have t7 := K5.cellE 4 _ rfl
          have K6 := K5.put 4 (.int .i64 y) _ rfl
          have t8 := K6.cellE 3 _ rfl
          have t9 := K6.cellE 4 _ rfl
          have K6 := Aside0.mk K6
          clear K5 k1 k2
          go_wp2_with fail
          go_meet
          exact ⟨1, _, 0, 0, x3, y, a3, rfl, by first | rfl | exact congrArg Value.bool g3, by omega, K6, HDD⟩
    · rw [if_neg (by omega), if_neg (by omega)] at hd
      obtain ⟨dt, hN⟩ : ∃ dt, numD bs (a + 1) 2 0 65535 = dt := ⟨_, rfl⟩
      have HN1 := Aside0.mk (number151D g q cb bs (a + 1) r n 2 65535 _ hN (.inr ⟨rfl, rfl⟩) w2 HK0.out.rs)
      rw [hN] at hd
      rcases dt with ⟨x, a2⟩ | ⟨er, p⟩
      rotate_left
      · obtain rfl : d = .bad er p := hd.symm
        clear hN
        rcases hk23 with rfl | rfl
        all_goals
          go_wp2_with (go_at_call 151; refine HN1.out.mono ?_)
          rintro e' w3 ⟨rfl, k1⟩
          have M1 := Aside0.mk (HK0.out.mv.trans (k1.two P))
          clear k1
          go_wp2
          exact ⟨rfl, rfl, M1.out⟩
      rw [Rdd.bind_ok] at hd
      obtain ⟨hx0, hx1⟩ := (numD_ok hN).2.2.2
      clear hN
      obtain ⟨L, rfl⟩ : ∃ L : Nat, x = L := ⟨x.toNat, by omega⟩
      rw [Int.toNat_natCast] at hd
      obtain ⟨b, hT⟩ : ∃ b : Bool, (k = 2 ∧ 1 < (L : Int) ∧ b = true) ∨ (k = 3 ∧ 1 < (L : Int) ∧ b = true) ∨ (k = 2 ∧ L = 1 ∧ b = false) ∨ (k = 3 ∧ L = 1 ∧ b = false) ∨ (k = 2 ∧ L = 0 ∧ b = true) ∨ (k = 3 ∧ L = 0 ∧ b = false) := by
        by_cases g1 : 1 < (L : Int)
        · exact ⟨true, by rcases hk23 with rfl | rfl <;> simp [g1]⟩
        · rcases (show L = 0 ∨ L = 1 by omega) with rfl | rfl
          · rcases hk23 with rfl | rfl
            · exact ⟨true, by simp⟩
            · exact ⟨false, by simp⟩
          · exact ⟨false, by rcases hk23 with rfl | rfl <;> simp⟩
      have HDD : Aside0 (d = bif b then (manyD (valueD bs f) L (cnt + 1) a2).bind fun l a4 => .ok (⟨k, 0, 0, 0, 0, l.1⟩, l.2) a4 else .bad 180 a) := ⟨by
        rw [← hd]
        rcases hT with ⟨rfl, g, rfl⟩ | ⟨rfl, g, rfl⟩ | ⟨rfl, rfl, rfl⟩ | ⟨rfl, rfl, rfl⟩ | ⟨rfl, rfl, rfl⟩ | ⟨rfl, rfl, rfl⟩
        · rw [if_pos (.inl g)]; rfl
        · rw [if_pos (.inl g)]; rfl
        · rw [if_neg (by omega)]; rfl
        · rw [if_neg (by omega)]; rfl
        · rw [if_pos (by omega)]; rfl
        · rw [if_neg (by omega)]; rfl⟩
      clear hd hk23
      have hL : L ≤ 65535 := by omega
      rcases hT with ⟨rfl, g, rfl⟩ | ⟨rfl, g, rfl⟩ | ⟨rfl, rfl, rfl⟩ | ⟨rfl, rfl, rfl⟩ | ⟨rfl, rfl, rfl⟩ | ⟨rfl, rfl, rfl⟩
      all_goals
        go_wp2_with (go_at_call 151; refine HN1.out.mono ?_)
        first | rintro e' w3 rfl k1 k2 | rintro e' w3 ⟨rfl, k1, k2⟩
        have K3 := Aside0.mk (HK0.out.num k1 k2)
        clear k1 k2
        go_wp2_with fail
        go_meet
        exact ⟨_, _, 0, 0, 0, 0, a2, rfl, rfl, by omega, K3, HDD⟩
  case rest =>
    obtain ⟨N, b, x1, x2, x3, x4, a2, rfl, rfl, hN, hK, hDD⟩ := hcut
    clear HD
    cases b
    · obtain rfl : d = .bad 180 a := hDD.out
      go_wp2_with (go_at_call 150; refine (refuse150 _ _ _).mono ?_)
      first | rintro e' w7 rfl rfl | rintro e' w7 ⟨rfl, rfl⟩
      have M7 := Aside0.mk hK.out.mv
      go_wp2
      exact ⟨rfl, rfl, M7.out⟩
    obtain ⟨dt, hM⟩ : ∃ dt, manyD (valueD bs f) N (cnt + 1) a2 = dt := ⟨_, rfl⟩
    have HL := Aside0.mk (list220D f (by omega) IH N hN g q cb bs a2 r n P (cnt + 1) dt hM w.heap.size (w.heap.size + 1) wc hK.out.rs (by have := hK.out.ps; rwa [show ci + 1 = ((cnt + 1 : Nat) : Int) by have := HCI.out; omega] at this) hcb HKK.out.2 hK.out.bp (by have := hK.out.bd; rwa [show deep = 64 - (f : Int) by have := HDEEP.out; omega] at this) ⟨by omega, by omega, by omega, by omega⟩)
    have hdd : d = dt.bind fun l a4 => .ok (⟨k, x1, x2, x3, x4, l.1⟩, l.2) a4 := by rw [← hM]; exact hDD.out
    have hlE := hK.out.le
    have hEl : w1.heap.size < wc.heap.size := blk_lt hK.out.be
    clear hM hDD
    rcases dt with ⟨⟨l, c2⟩, a4⟩ | ⟨er, p⟩
    rotate_left
    · obtain rfl : d = .bad er p := hdd
      go_wp2_with (go_at_call 220; refine HL.out.mono ?_)
      rintro e' w4 ⟨rfl, k4⟩
      have M4 := Aside0.mk (hK.out.mv.trans k4)
      clear k4
      go_wp2
      exact ⟨rfl, rfl, M4.out⟩
    obtain rfl : d = .ok (⟨k, x1, x2, x3, x4, l⟩, c2) a4 := hdd
    go_wp2_with (go_at_call 220; refine HL.out.mono ?_)
    rintro e' w4 ⟨A, c, rfl, lc, hF, j1, j2, j3, j4, j5⟩
    dsimp only at lc hF j2 j4 j5 ⊢
    have E4 := j3.blk hK.out.be (by omega) (by omega)
    have R4 := j3.blk hK.out.br (by omega) (by omega)
    have c0 : w4.cell? ⟨w1.heap.size, 0, none⟩ = some (.int .i64 k) := (blk_cell E4 0).trans rfl
    have c1 : w4.cell? ⟨w1.heap.size, 1, none⟩ = some (.int .i64 x1) := (blk_cell E4 1).trans rfl
    have c2' : w4.cell? ⟨w1.heap.size, 2, none⟩ = some (.int .i64 x2) := (blk_cell E4 2).trans rfl
    have c3 : w4.cell? ⟨w1.heap.size, 3, none⟩ = some (.int .i64 x3) := (blk_cell E4 3).trans rfl
    have c4 : w4.cell? ⟨w1.heap.size, 4, none⟩ = some (.int .i64 x4) := (blk_cell E4 4).trans rfl
    have c5 : w4.cell? ⟨w1.heap.size, 5, none⟩ = some (.slice none 0 0) := (blk_cell E4 5).trans rfl
    have d5 : w4.frozen? ⟨w1.heap.size, 5, none⟩ = false := blk_frozen E4 5
    have R5 : (w4.setCell ⟨w1.heap.size, 5, none⟩ (.slice A l.length c)).heap[w.heap.size + 1 + 1]? = some (.cells #[.int .i64 0, .int .i64 0, .int .i64 0, .int .i64 0, .int .i64 0, .slice none 0 0] 40 (0, 0)) := by
      rw [Below.heap_setCell _ _ _ _ (by show w.heap.size + 1 + 1 ≠ w1.heap.size; omega)]; exact R4
    have f0 : (w4.setCell ⟨w1.heap.size, 5, none⟩ (.slice A l.length c)).frozen? ⟨w.heap.size + 1 + 1, 0, none⟩ = false := blk_frozen R5 0
    have f1 : (w4.setCell ⟨w1.heap.size, 5, none⟩ (.slice A l.length c)).frozen? ⟨w.heap.size + 1 + 1, 1, none⟩ = false := blk_frozen R5 1
    have f2 : (w4.setCell ⟨w1.heap.size, 5, none⟩ (.slice A l.length c)).frozen? ⟨w.heap.size + 1 + 1, 2, none⟩ = false := blk_frozen R5 2
    have f3 : (w4.setCell ⟨w1.heap.size, 5, none⟩ (.slice A l.length c)).frozen? ⟨w.heap.size + 1 + 1, 3, none⟩ = false := blk_frozen R5 3
    have f4 : (w4.setCell ⟨w1.heap.size, 5, none⟩ (.slice A l.length c)).frozen? ⟨w.heap.size + 1 + 1, 4, none⟩ = false := blk_frozen R5 4
    have f5 : (w4.setCell ⟨w1.heap.size, 5, none⟩ (.slice A l.length c)).frozen? ⟨w.heap.size + 1 + 1, 5, none⟩ = false := blk_frozen R5 5
    have z0 : (w4.setCell ⟨w1.heap.size, 5, none⟩ (.slice A l.length c)).cell? ⟨w.heap.size + 1 + 1, 0, none⟩ = some (.int .i64 0) := (blk_cell R5 0).trans rfl
    have z1 : (w4.setCell ⟨w1.heap.size, 5, none⟩ (.slice A l.length c)).cell? ⟨w.heap.size + 1 + 1, 1, none⟩ = some (.int .i64 0) := (blk_cell R5 1).trans rfl
    have z2 : (w4.setCell ⟨w1.heap.size, 5, none⟩ (.slice A l.length c)).cell? ⟨w.heap.size + 1 + 1, 2, none⟩ = some (.int .i64 0) := (blk_cell R5 2).trans rfl
    have z3 : (w4.setCell ⟨w1.heap.size, 5, none⟩ (.slice A l.length c)).cell? ⟨w.heap.size + 1 + 1, 3, none⟩ = some (.int .i64 0) := (blk_cell R5 3).trans rfl
    have z4 : (w4.setCell ⟨w1.heap.size, 5, none⟩ (.slice A l.length c)).cell? ⟨w.heap.size + 1 + 1, 4, none⟩ = some (.int .i64 0) := (blk_cell R5 4).trans rfl
    have z5 : (w4.setCell ⟨w1.heap.size, 5, none⟩ (.slice A l.length c)).cell? ⟨w.heap.size + 1 + 1, 5, none⟩ = some (.slice none 0 0) := (blk_cell R5 5).trans rfl
    have F4 := Aside0.mk hF
    have J1 := Aside0.mk j1
    have J2 := Aside0.mk j2
    have J3 := Aside0.mk (hK.out.mv.trans j3)
    have R5 := Aside0.mk R5
    have J5 := Aside0.mk j5
    clear j1 j2 j3 j5 hF E4 R4
    go_wp2
    refine bodyPost_ret (results_cell_row rfl _ _ (w.heap.size + 1 + 1) 40 #[.int .i64 k, .int .i64 x1, .int .i64 x2, .int .i64 x3, .int .i64 x4, .slice A l.length c] (0, 0) _ rfl (put6_blk R5.out _ _ _ _ _ _) Tryz.underlying40 rfl (by kernel_rfl)) rfl ?_
    refine ⟨A, c, rfl, lc, ?_, ?_, ?_, ?_, j4⟩
    · exact Kd.F_mono (put6_F (Kd.F_far (p := ⟨w1.heap.size, 5, none⟩) F4.out (fun k hk e => by have e : k = w1.heap.size := e; omega) _) (fun k hk e => by omega) _ _ _ _ _ _) fun k hk => by omega
    · exact put6_rs (J1.out.put (p := ⟨w1.heap.size, 5, none⟩) (by show w1.heap.size ≠ g; omega) (by show w1.heap.size ≠ q; omega) _) (by omega) (by omega) _ _ _ _ _ _
    · refine (put6_other (by omega) _ _ _ _ _ _).trans ?_
      rw [Below.heap_setCell _ _ _ _ (by show P ≠ w1.heap.size; omega)]
      exact J2.out
    · exact put6_mv (J3.out.far hgl (p := ⟨w1.heap.size, 5, none⟩) (by show w.heap.size ≤ w1.heap.size; omega) _) hgl (by omega) _ _ _ _ _ _
theorem read_every : ∀ f, f ≤ 64 → ReadD f
  | 0, _ => read_stop
  | f + 1, h => read_next f (by omega) (read_every f (by omega))
end Go.Proofs.YtpnkifincadakaaGreatDoor.Wr
end
section
namespace Go.Proofs.YtpnkifincadakaaGreatDoor.Wr
open Go.RowKit Go.Pk Go.Proofs.YtpnkifincadakaaGreatDoorW.PrintWords Go.Proofs.YtpnkifincadakaaGreatDoor.PPackSpecs
set_option maxHeartbeats 16000000 in
set_option maxRecDepth 100000 in
theorem rule87D (g q cb : Nat) (bs : List Int) (a r n : Nat) (d : Rdd S42) (hd : ruleD bs a = d) (w : World) (h : RS g q cb bs a r n w) (hcb : bs.length < cb) :
    Calls Tryz.prog 87 #[.pointer (some ⟨g, 0, none⟩)] w (Out d g w fun x a' e w' => ∃ A c, e = .returned (.agg #[.string x.f0, .bool x.f1, .int .i64 x.f2.f0, .int .i64 x.f2.f1, .int .i64 x.f2.f2, .int .i64 x.f2.f3, .int .i64 x.f2.f4, .slice A x.f2.f5.length c]) ∧ x.f2.f5.length ≤ c ∧ Kd.F k40 w' (fun k => w.heap.size ≤ k) A x.f2.f5.length x.f2.f5 ∧ RS g q cb bs a' r n w' ∧ Mv g w w') := by
  have hgl := h.glt
  have hql := h.qlt
  have hA := below_alloc (Below.refl _ w) (.cells #[.string ⟨#[]⟩, .bool false, .int .i64 0, .int .i64 0, .int .i64 0, .int .i64 0, .int .i64 0, .slice none 0 0] 42)
  have B0 := Aside0.mk (blk_new w (.cells #[.string ⟨#[]⟩, .bool false, .int .i64 0, .int .i64 0, .int .i64 0, .int .i64 0, .int .i64 0, .slice none 0 0] 42))
  have M0 := Aside0.mk (Mv.of_below hA (Nat.le_of_lt hgl))
  have H0 := Aside0.mk (h.below hA)
  clear h hA
  obtain ⟨dt, hN⟩ : ∃ dt, numD bs a 1 0 1 = dt := ⟨_, rfl⟩
  have HU := Aside0.mk (upto85D g q cb bs a r n 1 1 _ hN _ H0.out (by omega))
  rw [ruleD, hN] at hd
  rcases dt with ⟨t, a1⟩ | ⟨er, p⟩
  rotate_left
  · obtain rfl : d = .bad er p := hd.symm
    clear hN
    go_enter Tryz.func87, Tryz.ntmps87
    go_wp2_with (go_at_call 85; refine HU.out.mono ?_)
    rintro e' w9 ⟨rfl, k1⟩
    have M9 := Aside0.mk (M0.out.trans k1)
    clear k1
    go_wp2
    exact ⟨rfl, rfl, M9.out⟩
  rw [Rdd.bind_ok] at hd
  obtain ⟨ht0, ht1⟩ := (numD_ok hN).2.2.2
  clear hN
  obtain ⟨dt, hN⟩ : ∃ dt, nameD bs a1 = dt := ⟨_, rfl⟩
  have HNM := Aside0.mk fun w' (h' : RS g q cb bs a1 r n w') => name89D g q cb bs a1 r n _ hN w' h' hcb
  rw [hN] at hd
  clear hN
  rcases dt with ⟨s, a2⟩ | ⟨er, p⟩
  rotate_left
  · obtain rfl : d = .bad er p := hd.symm
    go_enter Tryz.func87, Tryz.ntmps87
    go_wp2_with (go_at_call 85; refine HU.out.mono ?_)
    first | rintro e' w1 rfl k1 k2 | rintro e' w1 ⟨rfl, k1, k2⟩
    have R1 := Aside0.mk k1
    have M1 := Aside0.mk (M0.out.trans k2)
    have B1 := Aside0.mk (k2.blk B0.out (by omega))
    clear k1 k2
    go_wp2_with (go_at_call 89; refine (HNM.out _ R1.out).mono ?_)
    rintro e' w9 ⟨rfl, k1⟩
    have M9 := Aside0.mk (M1.out.trans k1)
    clear k1
    go_wp2
    exact ⟨rfl, rfl, M9.out⟩
  rw [Rdd.bind_ok, patternD] at hd
  obtain ⟨dt, hN⟩ : ∃ dt, valueD bs 64 0 a2 = dt := ⟨_, rfl⟩
  have HRD : Aside0 (∀ P w', RS g q cb bs a2 r n w' → PS g P 0 w' → Calls Tryz.prog 152 #[.pointer (some ⟨P, 0, none⟩), .int .i64 1] w' (Out2 dt g P w' (GotD g q cb bs r n P w'))) := ⟨fun P w' h' hp' => read_every 64 (Nat.le_refl _) g q cb bs a2 r n P 0 dt w' hN h' hp' hcb (by omega)⟩
  rw [hN] at hd
  clear hN
  rcases dt with ⟨⟨e, cnt⟩, a3⟩ | ⟨er, p⟩
  rotate_left
  · obtain rfl : d = .bad er p := hd.symm
    go_enter Tryz.func87, Tryz.ntmps87
    go_wp2_with (go_at_call 85; refine HU.out.mono ?_)
    first | rintro e' w1 rfl k1 k2 | rintro e' w1 ⟨rfl, k1, k2⟩
    have R1 := Aside0.mk k1
    have M1 := Aside0.mk (M0.out.trans k2)
    have B1 := Aside0.mk (k2.blk B0.out (by omega))
    clear k1 k2
    go_wp2_with (go_at_call 89; refine (HNM.out _ R1.out).mono ?_)
    first | rintro e' w2 rfl k1 k2 | rintro e' w2 ⟨rfl, k1, k2⟩
    have c1 : w2.cell? ⟨g, 1, none⟩ = some (.int .i64 (a2 : Nat)) := (blk_cell k1.box 1).trans rfl
    have hA2 := below_alloc (Below.refl _ w2) (.cells #[.pointer (some ⟨g, 0, none⟩), .int .i64 0] 268)
    have R2 := Aside0.mk (k1.below hA2)
    have M2 := Aside0.mk ((M1.out.trans k2).trans (Mv.of_below hA2 (Nat.le_of_lt k1.glt)))
    have B2 := Aside0.mk ((hA2.block _ (blk_lt (k2.blk B1.out (by omega)))).trans (k2.blk B1.out (by omega)))
    have P2 := Aside0.mk (blk_new w2 (.cells #[.pointer (some ⟨g, 0, none⟩), .int .i64 0] 268))
    have hw2 : w.heap.size < w2.heap.size := blk_lt (k2.blk B1.out (by omega))
    clear k1 k2 hA2
    go_wp2_with (go_at_call 152; refine (HRD.out _ _ R2.out P2.out).mono ?_)
    rintro e' w9 ⟨rfl, k1⟩
    have M9 := Aside0.mk (k1.one M2.out (by omega) hgl)
    clear k1
    go_wp2
    exact ⟨rfl, rfl, M9.out⟩
  rw [Rdd.bind_ok] at hd
  dsimp only at hd
  have HCH := Aside0.mk fun A c w' h' hc' => check75 e A c w' h' hc'
  by_cases hc : chk e = 0
  rotate_left
  · rw [if_neg hc] at hd
    obtain rfl : d = .bad 180 a2 := hd.symm
    obtain ⟨z1, z2⟩ := bf hc
    generalize chk e = ce at *
    go_enter Tryz.func87, Tryz.ntmps87
    go_wp2_with (go_at_call 85; refine HU.out.mono ?_)
    first | rintro e' w1 rfl k1 k2 | rintro e' w1 ⟨rfl, k1, k2⟩
    have R1 := Aside0.mk k1
    have M1 := Aside0.mk (M0.out.trans k2)
    have B1 := Aside0.mk (k2.blk B0.out (by omega))
    clear k1 k2
    go_wp2_with (go_at_call 89; refine (HNM.out _ R1.out).mono ?_)
    first | rintro e' w2 rfl k1 k2 | rintro e' w2 ⟨rfl, k1, k2⟩
    have c1 : w2.cell? ⟨g, 1, none⟩ = some (.int .i64 (a2 : Nat)) := (blk_cell k1.box 1).trans rfl
    have hA2 := below_alloc (Below.refl _ w2) (.cells #[.pointer (some ⟨g, 0, none⟩), .int .i64 0] 268)
    have R2 := Aside0.mk (k1.below hA2)
    have M2 := Aside0.mk ((M1.out.trans k2).trans (Mv.of_below hA2 (Nat.le_of_lt k1.glt)))
    have B2 := Aside0.mk ((hA2.block _ (blk_lt (k2.blk B1.out (by omega)))).trans (k2.blk B1.out (by omega)))
    have P2 := Aside0.mk (blk_new w2 (.cells #[.pointer (some ⟨g, 0, none⟩), .int .i64 0] 268))
    have hw2 : w.heap.size < w2.heap.size := blk_lt (k2.blk B1.out (by omega))
    clear k1 k2 hA2
    go_wp2_with (go_at_call 152; refine (HRD.out _ _ R2.out P2.out).mono ?_)
    rintro e' w3 ⟨A, c, rfl, lc, hF, k1, k2, k3, hc4⟩
    dsimp only at lc hF k2 hc4 ⊢
    have B3 := Aside0.mk (k3.blk B2.out (by omega) (by omega))
    have R3 := Aside0.mk k1
    have M3 := Aside0.mk (k3.one M2.out (by omega) hgl)
    have F3 := Aside0.mk hF
    clear k1 k2 k3 hF
    go_wp2_with (go_at_call 75; refine (HCH.out A c _ (Kd.F_now (Kd.F_below F3.out (below_alloc (Below.refl _ _) _))) lc).mono ?_)
    first | rintro e' w4 rfl k4 | rintro e' w4 ⟨rfl, k4⟩
    have hA3 := below_alloc (Below.refl _ w3) (.cells #[.int .i64 e.f0, .int .i64 e.f1, .int .i64 e.f2, .int .i64 e.f3, .int .i64 e.f4, .slice A e.f5.length c] 40)
    have M4 := Aside0.mk (M3.out.trans (Mv.of_below (below_then hA3 hA3.size k4) (by have := M3.out.size; omega)))
    clear hA3 k4
    go_wp2_with (go_at_call 150; refine (refuse150 _ _ _).mono ?_)
    first | rintro e' w7 rfl rfl | rintro e' w7 ⟨rfl, rfl⟩
    go_wp2
    exact ⟨rfl, rfl, M4.out⟩
  rw [if_pos hc, Rdd.bind_ok] at hd
  rw [hc] at HCH
  obtain ⟨b, hb⟩ : ∃ b : Bool, (t = 1 ∧ b = true) ∨ (t = 0 ∧ b = false) := by
    rcases (show t = 1 ∨ t = 0 by omega) with rfl | rfl
    · exact ⟨true, .inl ⟨rfl, rfl⟩⟩
    · exact ⟨false, .inr ⟨rfl, rfl⟩⟩
  obtain rfl : d = .ok ⟨s, b, e⟩ a3 := by rw [← hd]; rcases hb with ⟨rfl, rfl⟩ | ⟨rfl, rfl⟩ <;> rfl
  have HBB := Aside0.mk hb
  clear hb hc hd
  go_enter Tryz.func87, Tryz.ntmps87
  go_wp2_with (go_at_call 85; refine HU.out.mono ?_)
  first | rintro e' w1 rfl k1 k2 | rintro e' w1 ⟨rfl, k1, k2⟩
  have R1 := Aside0.mk k1
  have M1 := Aside0.mk (M0.out.trans k2)
  have B1 := Aside0.mk (k2.blk B0.out (by omega))
  clear k1 k2
  go_wp2_with (go_at_call 89; refine (HNM.out _ R1.out).mono ?_)
  first | rintro e' w2 rfl k1 k2 | rintro e' w2 ⟨rfl, k1, k2⟩
  have c1 : w2.cell? ⟨g, 1, none⟩ = some (.int .i64 (a2 : Nat)) := (blk_cell k1.box 1).trans rfl
  have hA2 := below_alloc (Below.refl _ w2) (.cells #[.pointer (some ⟨g, 0, none⟩), .int .i64 0] 268)
  have R2 := Aside0.mk (k1.below hA2)
  have M2 := Aside0.mk ((M1.out.trans k2).trans (Mv.of_below hA2 (Nat.le_of_lt k1.glt)))
  have B2 := Aside0.mk ((hA2.block _ (blk_lt (k2.blk B1.out (by omega)))).trans (k2.blk B1.out (by omega)))
  have P2 := Aside0.mk (blk_new w2 (.cells #[.pointer (some ⟨g, 0, none⟩), .int .i64 0] 268))
  have hw2 : w.heap.size < w2.heap.size := blk_lt (k2.blk B1.out (by omega))
  clear k1 k2 hA2
  go_wp2_with (go_at_call 152; refine (HRD.out _ _ R2.out P2.out).mono ?_)
  rintro e' w3 ⟨A, c, rfl, lc, hF, k1, k2, k3, hc4⟩
  dsimp only at lc hF k2 hc4 ⊢
  have B3 := Aside0.mk (k3.blk B2.out (by omega) (by omega))
  have R3 := Aside0.mk k1
  have M3 := Aside0.mk (k3.one M2.out (by omega) hgl)
  have F3 := Aside0.mk hF
  clear k1 k2 k3 hF
  go_wp2_with (go_at_call 75; refine (HCH.out A c _ (Kd.F_now (Kd.F_below F3.out (below_alloc (Below.refl _ _) _))) lc).mono ?_)
  first | rintro e' w4 rfl k4 | rintro e' w4 ⟨rfl, k4⟩
  have hA3 := below_alloc (Below.refl _ w3) (.cells #[.int .i64 e.f0, .int .i64 e.f1, .int .i64 e.f2, .int .i64 e.f3, .int .i64 e.f4, .slice A e.f5.length c] 40)
  have E4 := (k4.block _ (blk_lt (blk_new w3 (.cells #[.int .i64 e.f0, .int .i64 e.f1, .int .i64 e.f2, .int .i64 e.f3, .int .i64 e.f4, .slice A e.f5.length c] 40)))).trans (blk_new w3 (.cells #[.int .i64 e.f0, .int .i64 e.f1, .int .i64 e.f2, .int .i64 e.f3, .int .i64 e.f4, .slice A e.f5.length c] 40))
  have hb34 := below_then hA3 hA3.size k4
  have B4 := (hb34.block _ (blk_lt B3.out)).trans B3.out
  have c0' : w4.cell? ⟨w3.heap.size, 0, none⟩ = some (.int .i64 e.f0) := (blk_cell E4 0).trans rfl
  have c1' : w4.cell? ⟨w3.heap.size, 1, none⟩ = some (.int .i64 e.f1) := (blk_cell E4 1).trans rfl
  have c2' : w4.cell? ⟨w3.heap.size, 2, none⟩ = some (.int .i64 e.f2) := (blk_cell E4 2).trans rfl
  have c3' : w4.cell? ⟨w3.heap.size, 3, none⟩ = some (.int .i64 e.f3) := (blk_cell E4 3).trans rfl
  have c4' : w4.cell? ⟨w3.heap.size, 4, none⟩ = some (.int .i64 e.f4) := (blk_cell E4 4).trans rfl
  have c5' : w4.cell? ⟨w3.heap.size, 5, none⟩ = some (.slice A e.f5.length c) := (blk_cell E4 5).trans rfl
  have f0 : w4.frozen? ⟨w.heap.size, 0, none⟩ = false := blk_frozen B4 0
  have f1 : w4.frozen? ⟨w.heap.size, 1, none⟩ = false := blk_frozen B4 1
  have f2 : w4.frozen? ⟨w.heap.size, 2, none⟩ = false := blk_frozen B4 2
  have f3 : w4.frozen? ⟨w.heap.size, 3, none⟩ = false := blk_frozen B4 3
  have f4 : w4.frozen? ⟨w.heap.size, 4, none⟩ = false := blk_frozen B4 4
  have f5 : w4.frozen? ⟨w.heap.size, 5, none⟩ = false := blk_frozen B4 5
  have f6 : w4.frozen? ⟨w.heap.size, 6, none⟩ = false := blk_frozen B4 6
  have f7 : w4.frozen? ⟨w.heap.size, 7, none⟩ = false := blk_frozen B4 7
  have z0 : w4.cell? ⟨w.heap.size, 0, none⟩ = some (.string ⟨#[]⟩) := (blk_cell B4 0).trans rfl
  have z1 : w4.cell? ⟨w.heap.size, 1, none⟩ = some (.bool false) := (blk_cell B4 1).trans rfl
  have z2 : w4.cell? ⟨w.heap.size, 2, none⟩ = some (.int .i64 0) := (blk_cell B4 2).trans rfl
  have z3 : w4.cell? ⟨w.heap.size, 3, none⟩ = some (.int .i64 0) := (blk_cell B4 3).trans rfl
  have z4 : w4.cell? ⟨w.heap.size, 4, none⟩ = some (.int .i64 0) := (blk_cell B4 4).trans rfl
  have z5 : w4.cell? ⟨w.heap.size, 5, none⟩ = some (.int .i64 0) := (blk_cell B4 5).trans rfl
  have z6 : w4.cell? ⟨w.heap.size, 6, none⟩ = some (.int .i64 0) := (blk_cell B4 6).trans rfl
  have z7 : w4.cell? ⟨w.heap.size, 7, none⟩ = some (.slice none 0 0) := (blk_cell B4 7).trans rfl
  have R4 := Aside0.mk (R3.out.below hb34)
  have M4 := Aside0.mk (M3.out.trans (Mv.of_below hb34 (by have := M3.out.size; omega)))
  have F4 := Aside0.mk (Kd.F_below F3.out hb34)
  have B4 := Aside0.mk B4
  clear hA3 E4 hb34 k4
  rcases HBB.out with ⟨rfl, rfl⟩ | ⟨rfl, rfl⟩
  all_goals
    go_wp2
    refine bodyPost_ret (results_cell_row rfl _ _ w.heap.size 42 #[.string s, .bool _, .int .i64 e.f0, .int .i64 e.f1, .int .i64 e.f2, .int .i64 e.f3, .int .i64 e.f4, .slice A e.f5.length c] (0, 0) _ rfl (put8_blk B4.out _ _ _ _ _ _ _ _) Tryz.underlying42 rfl (by kernel_rfl)) rfl ?_
    refine ⟨A, c, rfl, lc, ?_, ?_, ?_⟩
    · exact Kd.F_mono (put8_F F4.out (fun k hk e => by simp at hk; omega) _ _ _ _ _ _ _ _) fun k hk => by simp at hk; omega
    · exact put8_rs R4.out (by omega) (by omega) _ _ _ _ _ _ _ _
    · exact put8_mv M4.out hgl (Nat.le_refl _) _ _ _ _ _ _ _ _
end Go.Proofs.YtpnkifincadakaaGreatDoor.Wr
end
section
namespace Go.Proofs.YtpnkifincadakaaGreatDoor.Wr
open Go.RowKit Go.Pk Go.Proofs.YtpnkifincadakaaGreatDoorW.PrintWords Go.Proofs.YtpnkifincadakaaGreatDoor.PPackSpecs
set_option maxHeartbeats 8000000 in
set_option maxRecDepth 100000 in
theorem list86D (g q cb : Nat) (bs : List Int) (a r n N : Nat) (d : Rdd (List S42 × Unit)) (hd : manyD (one (ruleD bs)) N () a = d) (w : World) (h : RS g q cb bs a r n w) (hcb : bs.length < cb) (hl : N ≤ 512) :
    Calls Tryz.prog 86 #[.int .i64 N, .func (.func 87) #[.pointer (some ⟨g, 0, none⟩)] #[]] w (Out d g w fun xs a' e w' => ∃ A c, e = .returned (.slice A xs.1.length c) ∧ xs.1.length ≤ c ∧ Kd.F k42 w' (fun k => w.heap.size ≤ k) A xs.1.length xs.1 ∧ RS g q cb bs a' r n w' ∧ Mv g w w' ∧ xs.1.length = N) := by
  have H := Aside0.mk h
  have HD := Aside0.mk hd
  have hgl := h.glt
  clear h hd
  go_enter Tryz.func86, Tryz.ntmps86
  go_wp2
  go_loopw [5, 7] (fun v i wr => ∃ (k : Nat) (xs : List S42) (a1 : Nat), k ≤ N ∧ xs.length = k ∧ i = .int .i64 k ∧ Aside0 (Kd.N k42 42 wr w.heap.size (fun k => w.heap.size ≤ k) v xs) ∧ Aside0 (RS g q cb bs a1 r n wr ∧ Pre (one (ruleD bs)) d xs (N - k) () a1) ∧ Aside0 (Mv g w wr)) (fun _ i _ => N - (intOf i).toNat)
  case atStart => exact ⟨0, [], a, Nat.zero_le _, rfl, rfl, ⟨Kd.N_nil _ _ _ _ _⟩, ⟨H.out, pre_start HD.out⟩, ⟨Mv.refl _ _⟩⟩
  case round =>
    obtain ⟨k, xs, a1, hk, hxk, rfl, hN, hR, hM⟩ := hrel
    by_cases hlt : k < N
    · obtain ⟨m, hm⟩ : ∃ m, N - k = m + 1 := ⟨N - k - 1, by omega⟩
      have hP := hR.out.2
      rw [hm] at hP
      obtain ⟨dt, ho⟩ : ∃ dt, ruleD bs a1 = dt := ⟨_, rfl⟩
      have HS := Aside0.mk (rule87D g q cb bs a1 r n dt ho wr hR.out.1 hcb)
      rcases dt with ⟨x, a2⟩ | ⟨er, p⟩
      rotate_left
      · obtain rfl : d = .bad er p := pre_bad hP (one_bad ho)
        clear hP
        go_wp2_with fail
        refine HS.out.mono ?_
        rintro e' w5 ⟨rfl, k5⟩
        have M5 := Aside0.mk (hM.out.trans k5)
        clear k5
        go_wp2
        exact ⟨rfl, rfl, M5.out⟩
      have HP := Aside0.mk (pre_ok hP (one_ok ho))
      have hm1 : N - (k + 1) = m := by omega
      clear hP ho
      go_wp2_with fail
      refine HS.out.mono ?_
      first | rintro e w5 A1 c1 rfl l1 g1 h1 h2 | rintro e w5 ⟨A1, c1, rfl, l1, g1, h1, h2⟩
      have HR5 := Aside0.mk h1
      have HM5 := Aside0.mk (hM.out.trans h2)
      have HN5 := Aside0.mk (N_mv hN.out h2 hgl)
      have hsz := h2.size
      clear h1 h2
      go_wp2_with (at_builtin; refine Kd.N_append k42 (w0 := w5) w.heap.size rfl (.tmp 9) (.tmp 12) 24 42 (.agg #[.string ⟨#[]⟩, .bool false, .int .i64 0, .int .i64 0, .int .i64 0, .int .i64 0, .int .i64 0, .slice none 0 0]) 88 rfl Tryz.underlying24 info42 rfl (by decide) (by omega) u5 xs x [.string x.f0, .bool x.f1, .int .i64 x.f2.f0, .int .i64 x.f2.f1, .int .i64 x.f2.f2, .int .i64 x.f2.f3, .int .i64 x.f2.f4, .slice A1 x.f2.f5.length c1] (fun k => w.heap.size ≤ k) (fun k => wr.heap.size ≤ k) rfl rfl (k42_mkF _ _ x l1 g1) ?o1 ?o2 HN5.out (Below.refl _ _) ?o3 ?o4 ?_)
      case o1 => exact fun k hk => ⟨Nat.le_trans hM.out.size hk, fun e => absurd (Kd.N_lt hN.out k e.symm) (by omega)⟩
      case o2 => exact fun k hk => Nat.le_trans HM5.out.size hk
      case o3 => exact HM5.out.size
      case o4 => rw [hxk]; omega
      intro v1 w6 hN6 hB6 _ _
      have HN6 := Aside0.mk hN6
      have HR6 := Aside0.mk (HR5.out.base H.out hB6 HM5.out.size)
      have HM6 := Aside0.mk (HM5.out.base hB6 hgl)
      clear hN6 hB6
      go_wp2
      go_roundw
      case rel => exact ⟨k + 1, xs ++ [x], a2, by omega, by rw [List.length_append]; simp [hxk], by go_num, HN6, ⟨HR6.out, by rw [hm1]; exact HP.out⟩, HM6⟩
      case measure => simp [intOf]; omega
    · obtain rfl : k = N := by omega
      have hP := hR.out.2
      rw [Nat.sub_self] at hP
      obtain rfl : d = .ok (xs, ()) a1 := pre_end hP
      obtain ⟨A, c, rfl, lc, _⟩ := Kd.N_reads hN.out
      have HF := Aside0.mk (Kd.N_F hN.out)
      clear hP
      go_wp2
      go_ret
      exact ⟨A, c, rfl, lc, HF.out, hR.out.1, hM.out, hxk⟩
end Go.Proofs.YtpnkifincadakaaGreatDoor.Wr
end
section
namespace Go.Proofs.YtpnkifincadakaaGreatDoor.Wr
open Go.RowKit Go.Pk Go.Am Go.Proofs.YtpnkifincadakaaGreatDoorW.PrintWords Go.Proofs.YtpnkifincadakaaGreatDoor.PPackSpecs
set_option maxHeartbeats 8000000 in
set_option maxRecDepth 100000 in
theorem sealed92D (g q cb : Nat) (bs : List Int) (a r n : Nat) (d : Rdd Unit) (hd : endD bs a = d) (w : World) (h : RS g q cb bs a r n w) (hT : TabVar w) (hcb : bs.length < cb) :
    Calls Tryz.prog 92 #[.pointer (some ⟨g, 0, none⟩)] w (Out d g w fun _ a' e w' => e = .returned (.tuple #[]) ∧ RS g q cb bs a' r n w' ∧ Mv g w w') := by
  have hps := h.pos
  have hby : Bytes (bs.take a) := fun b hb => h.byt b (List.mem_of_mem_take hb)
  have hcl := crc_lt (bs.take a)
  have hcm := h.cap.2
  have hca : ¬ cb = a := by omega
  have HS := Aside0.mk fun m => sum_any (some ⟨q, 0, none⟩) a cb (bs.take a) (w.drewN m) hT (by rw [List.length_take]; omega) (by omega) hby (fun j x hj => ⟨⟨q, 0, none⟩, rfl, by
    obtain ⟨hjl, rfl⟩ := List.getElem?_eq_some_iff.1 hj
    rw [List.length_take] at hjl
    rw [add_plain]
    have := h.byte j (by omega)
    rw [List.getElem_take]
    exact this⟩)
  rw [endD] at hd
  have H := Aside0.mk h
  have c0 : w.cell? ⟨g, 0, none⟩ = some (.slice (some ⟨q, 0, none⟩) bs.length cb) := (blk_cell h.box 0).trans rfl
  have c1 : w.cell? ⟨g, 1, none⟩ = some (.int .i64 a) := (blk_cell h.box 1).trans rfl
  clear h hby hT
  by_cases hcut : bs.length < a + 4
  · obtain rfl : d = .bad 182 bs.length := by rw [← hd, takeD, if_pos hcut]; rfl
    have HN := Aside0.mk fun w' (h' : RS g q cb bs a r n w') => number151_cut g q cb bs a r n 4 w' h' hcut (by omega)
    clear hd
    generalize crc (bs.take a) = s at *
    go_enter Tryz.func92, Tryz.ntmps92
    go_wp2_with fail
    go_quiet ((go_at_call 80; exact Calls.quiet_of_same ((HS.out _).mono fun _ _ h => ⟨h.1, h.2.symm⟩)))
    obtain ⟨nq0, rfl⟩ : ∃ k, k = nq := ⟨_, rfl⟩
    have R0 := Aside0.mk (H.out.below (pw_below_drewN (Below.refl _ w) nq0))
    have M0 := Aside0.mk (Mv.of_below (pw_below_drewN (Below.refl _ w) nq0) (Nat.le_of_lt H.out.glt))
    go_wp2_with (go_at_call 151; refine (HN.out _ R0.out).mono ?_)
    rintro e' w1 ⟨rfl, k1⟩
    have M1 := Aside0.mk (M0.out.trans k1)
    clear k1
    go_wp2
    exact ⟨rfl, rfl, M1.out⟩
  have HN := Aside0.mk fun w' (h' : RS g q cb bs a r n w') => number151 g q cb bs a r n 4 w' h' (by omega) (by omega) (by omega)
  rw [takeD, if_neg hcut, Rdd.bind_ok] at hd
  generalize leN ((bs.drop a).take 4) = v at *
  generalize crc (bs.take a) = s at *
  by_cases hvs : v = (s : Int)
  rotate_left
  · rw [if_neg hvs] at hd
    subst hd
    obtain ⟨z1, z2⟩ := bf hvs
    go_enter Tryz.func92, Tryz.ntmps92
    go_wp2_with fail
    go_quiet ((go_at_call 80; exact Calls.quiet_of_same ((HS.out _).mono fun _ _ h => ⟨h.1, h.2.symm⟩)))
    obtain ⟨nq0, rfl⟩ : ∃ k, k = nq := ⟨_, rfl⟩
    have R0 := Aside0.mk (H.out.below (pw_below_drewN (Below.refl _ w) nq0))
    have M0 := Aside0.mk (Mv.of_below (pw_below_drewN (Below.refl _ w) nq0) (Nat.le_of_lt H.out.glt))
    go_wp2_with (go_at_call 151; refine (HN.out _ R0.out).mono ?_)
    first | rintro e' w1 rfl k1 k2 | rintro e' w1 ⟨rfl, k1, k2⟩
    have M1 := Aside0.mk (M0.out.trans k2)
    clear k1 k2
    go_wp2_with (go_at_call 150; refine (refuse150 _ _ _).mono ?_)
    first | rintro e' w7 rfl rfl | rintro e' w7 ⟨rfl, rfl⟩
    go_wp2
    exact ⟨rfl, rfl, M1.out⟩
  subst hvs
  rw [if_pos rfl] at hd
  by_cases hbl : a + 4 < bs.length
  · rw [if_pos hbl] at hd
    subst hd
    have hbl' : decide (((a + 4 : Nat) : Int) < (bs.length : Int)) = true := decide_eq_true (by omega)
    go_enter Tryz.func92, Tryz.ntmps92
    go_wp2_with fail
    go_quiet ((go_at_call 80; exact Calls.quiet_of_same ((HS.out _).mono fun _ _ h => ⟨h.1, h.2.symm⟩)))
    obtain ⟨nq0, rfl⟩ : ∃ k, k = nq := ⟨_, rfl⟩
    have R0 := Aside0.mk (H.out.below (pw_below_drewN (Below.refl _ w) nq0))
    have M0 := Aside0.mk (Mv.of_below (pw_below_drewN (Below.refl _ w) nq0) (Nat.le_of_lt H.out.glt))
    go_wp2_with (go_at_call 151; refine (HN.out _ R0.out).mono ?_)
    first | rintro e' w1 rfl k1 k2 | rintro e' w1 ⟨rfl, k1, k2⟩
    have R1 := Aside0.mk k1
    have M1 := Aside0.mk (M0.out.trans k2)
    have d0 : w1.cell? ⟨g, 0, none⟩ = some (.slice (some ⟨q, 0, none⟩) bs.length cb) := (blk_cell k1.box 0).trans rfl
    have d1 : w1.cell? ⟨g, 1, none⟩ = some (.int .i64 (a + 4 : Nat)) := (blk_cell k1.box 1).trans rfl
    clear k1 k2
    go_wp2_with fail
    go_quiet (fail)
    obtain ⟨nq1, rfl⟩ : ∃ k, k = nq := ⟨_, rfl⟩
    have M2 := Aside0.mk (M1.out.trans (Mv.of_below (pw_below_drewN (Below.refl _ w1) nq1) (Nat.le_of_lt R1.out.glt)))
    go_wp2_with (go_at_call 150; refine (refuse150 _ _ _).mono ?_)
    first | rintro e' w7 rfl rfl | rintro e' w7 ⟨rfl, rfl⟩
    go_wp2
    exact ⟨rfl, rfl, M2.out⟩
  rw [if_neg hbl] at hd
  subst hd
  have hbl' : decide (((a + 4 : Nat) : Int) < (bs.length : Int)) = false := decide_eq_false (by omega)
  go_enter Tryz.func92, Tryz.ntmps92
  go_wp2_with fail
  go_quiet ((go_at_call 80; exact Calls.quiet_of_same ((HS.out _).mono fun _ _ h => ⟨h.1, h.2.symm⟩)))
  obtain ⟨nq0, rfl⟩ : ∃ k, k = nq := ⟨_, rfl⟩
  have R0 := Aside0.mk (H.out.below (pw_below_drewN (Below.refl _ w) nq0))
  have M0 := Aside0.mk (Mv.of_below (pw_below_drewN (Below.refl _ w) nq0) (Nat.le_of_lt H.out.glt))
  go_wp2_with (go_at_call 151; refine (HN.out _ R0.out).mono ?_)
  first | rintro e' w1 rfl k1 k2 | rintro e' w1 ⟨rfl, k1, k2⟩
  have R1 := Aside0.mk k1
  have M1 := Aside0.mk (M0.out.trans k2)
  have d0 : w1.cell? ⟨g, 0, none⟩ = some (.slice (some ⟨q, 0, none⟩) bs.length cb) := (blk_cell k1.box 0).trans rfl
  have d1 : w1.cell? ⟨g, 1, none⟩ = some (.int .i64 (a + 4 : Nat)) := (blk_cell k1.box 1).trans rfl
  clear k1 k2
  go_wp2_with fail
  go_quiet (fail)
  obtain ⟨nq1, rfl⟩ : ∃ k, k = nq := ⟨_, rfl⟩
  go_wp2
  go_end0
  exact ⟨rfl, R1.out.below (pw_below_drewN (Below.refl _ _) nq1), M1.out.trans (Mv.of_below (pw_below_drewN (Below.refl _ _) nq1) (Nat.le_of_lt R1.out.glt))⟩
end Go.Proofs.YtpnkifincadakaaGreatDoor.Wr
end
