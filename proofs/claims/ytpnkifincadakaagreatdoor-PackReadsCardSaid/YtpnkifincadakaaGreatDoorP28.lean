/- Proved: part 28 of the proof of PackReads (Re15, Re16, Dc2, Re17, Ey8). Conditions: each theorem states its own. -/
import Derived.Test.YtpnkifincadakaaGreatDoorP14
import Derived.Test.YtpnkifincadakaaGreatDoorP23
import Derived.Test.YtpnkifincadakaaGreatDoorP24
import Derived.Test.YtpnkifincadakaaGreatDoorP26
import Derived.Test.YtpnkifincadakaaGreatDoorP27
set_option linter.unusedVariables false
set_option linter.unusedSimpArgs false
section
namespace Go.Proofs.YtpnkifincadakaaGreatDoor.Wr
open Go.RowKit Go.Pk Go.Am Go.Proofs.YtpnkifincadakaaGreatDoorW.PrintWords Go.Proofs.YtpnkifincadakaaGreatDoor.PPackSpecs
set_option maxHeartbeats 16000000 in
set_option maxRecDepth 100000 in
theorem spec42D (g q cb : Nat) (bs : List Int) (d : Rdd (List S42 × List ByteArray × Int × List S67)) (hd : specD bs = d) (w : World) (h : RS g q cb bs 0 0 0 w) (hT : TabVar w) (hg : 0 < g) (hcb : bs.length < cb) :
    Calls Tryz.prog 42 #[.pointer (some ⟨g, 0, none⟩)] w (Out d g w fun x a' e w' => ∃ v, e = .returned v ∧ ReadIt w.heap.size x.1 x.2.1 x.2.2.1 x.2.2.2 v w' ∧ Mv g w w') := by
  have hA := below_alloc (Below.refl _ w) (.cells #[.slice none 0 0, .slice none 0 0, .int .i64 0, .slice none 0 0] 28)
  have K0 : Sk g q cb bs 0 0 0 w #[.slice none 0 0, .slice none 0 0, .int .i64 0, .slice none 0 0] (w.alloc (.cells #[.slice none 0 0, .slice none 0 0, .int .i64 0, .slice none 0 0] 28)) :=
    ⟨h.below hA, blk_new _ _, Mv.of_below hA (Nat.le_of_lt h.glt), tab_below hT (Nat.lt_of_le_of_lt (Nat.zero_le _) h.glt) hA, ⟨hg, h.glt⟩, h.qlt⟩
  have HK := Aside0.mk K0
  have hgl := h.glt
  rw [specD] at hd
  have HD := Aside0.mk hd
  clear hd h hT K0 hA
  obtain ⟨dt, hN⟩ : ∃ dt, magicD bs magic 0 = dt := ⟨_, rfl⟩
  have HX := Aside0.mk (magic84D g q cb bs 0 0 ⟨#[103, 114, 97, 102, 116, 115, 112, 101]⟩ _ hN _ HK.out.rs (by decide))
  have hd := HD.out
  rw [hN] at hd
  have HN := Aside0.mk hN
  clear HD hN
  have HD := Aside0.mk hd
  clear hd
  go_enter Tryz.func42, Tryz.ntmps42
  go_wp2_with (go_at_call 84; refine HX.out.mono ?_)
  rcases dt with ⟨⟨⟩, a1⟩ | ⟨er, p⟩
  rotate_left
  · obtain rfl : d = .bad er p := HD.out.symm
    rintro e' w9 ⟨rfl, k9⟩
    have M9 := Aside0.mk (HK.out.mv.trans k9)
    clear k9
    go_wp2
    exact ⟨rfl, rfl, M9.out⟩
  have hd := HD.out
  have hN := HN.out
  rw [Rdd.bind_ok] at hd
  clear HD HX HN
  clear hN
  have HD := Aside0.mk hd
  clear hd
  first | rintro e' w1 rfl k1 k2 | rintro e' w1 ⟨rfl, k1, k2⟩
  have K1 : Sk g q cb bs a1 0 0 w _ w1 := HK.out.num k1 k2
  clear HK
  have HK := Aside0.mk K1
  clear k1 k2 K1
  obtain ⟨dt, hN⟩ : ∃ dt, numD bs a1 1 0 64 = dt := ⟨_, rfl⟩
  have HX := Aside0.mk (upto85D g q cb bs a1 0 0 1 64 _ hN _ HK.out.rs (by omega))
  have hd := HD.out
  rw [hN] at hd
  have HN := Aside0.mk hN
  clear HD hN
  have HD := Aside0.mk hd
  clear hd
  go_wp2_with (go_at_call 85; refine HX.out.mono ?_)
  rcases dt with ⟨nl, a2⟩ | ⟨er, p⟩
  rotate_left
  · obtain rfl : d = .bad er p := HD.out.symm
    rintro e' w9 ⟨rfl, k9⟩
    have M9 := Aside0.mk (HK.out.mv.trans k9)
    clear k9
    go_wp2
    exact ⟨rfl, rfl, M9.out⟩
  have hd := HD.out
  have hN := HN.out
  rw [Rdd.bind_ok] at hd
  clear HD HX HN
  obtain ⟨hl0, hl1⟩ := (numD_ok hN).2.2.2
  clear hN
  obtain ⟨L, rfl⟩ : ∃ L : Nat, nl = L := ⟨nl.toNat, by omega⟩
  rw [Int.toNat_natCast] at hd
  have HD := Aside0.mk hd
  clear hd
  first | rintro e' w2 rfl k1 k2 | rintro e' w2 ⟨rfl, k1, k2⟩
  have K2 := HK.out.num k1 k2
  obtain ⟨p2, p3, pf, pr⟩ := K2.at
  have K3 := K2.set 2 (.int .i64 L) L 0 rfl
  obtain ⟨q2, q3, qf, qr⟩ := K3.at
  clear HK
  have HK := Aside0.mk K3
  clear k1 k2 K2 K3
  obtain ⟨dt, hN⟩ : ∃ dt, manyD (one (ruleD bs)) L () a2 = dt := ⟨_, rfl⟩
  have HX := Aside0.mk (list86D g q cb bs a2 L 0 L _ hN _ HK.out.rs hcb (by omega))
  have hd := HD.out
  rw [hN] at hd
  have HN := Aside0.mk hN
  clear HD hN
  have HD := Aside0.mk hd
  clear hd
  go_wp2_with (go_at_call 86; refine HX.out.mono ?_)
  rcases dt with ⟨⟨lex, ⟨⟩⟩, a3⟩ | ⟨er, p⟩
  rotate_left
  · obtain rfl : d = .bad er p := HD.out.symm
    rintro e' w9 ⟨rfl, k9⟩
    have M9 := Aside0.mk (HK.out.mv.trans k9)
    clear k9
    go_wp2
    exact ⟨rfl, rfl, M9.out⟩
  have hd := HD.out
  have hN := HN.out
  rw [Rdd.bind_ok] at hd
  clear HD HX HN
  clear hN
  dsimp only at hd
  have HD := Aside0.mk hd
  clear hd
  first | rintro e' w4 A0 c0 rfl m0 f0 k1 k2 hlx | rintro e' w4 ⟨A0, c0, rfl, m0, f0, k1, k2, hlx⟩
  dsimp only at m0 f0 hlx ⊢
  have K4 := HK.out.num k1 k2
  have F0 := Kd.F_mono f0 (ok' := fun k => w.heap.size < k) (fun k hk => Nat.lt_of_lt_of_le HK.out.lt hk)
  obtain ⟨p2, p3, pf, pr⟩ := K4.at
  have z0 := K4.cell 0 _ rfl
  have K5 := K4.put 0 (.slice A0 lex.length c0) _ rfl
  have F0 := Aside0.mk (F_putN (i := 0) F0 (Nat.le_refl _) (.slice A0 lex.length c0))
  obtain ⟨q2, q3, qf, qr⟩ := K5.at
  clear HK
  have HK := Aside0.mk K5
  have HLX := Aside0.mk hlx
  clear k1 k2 K4 K5 f0 hlx
  obtain ⟨dt, hN⟩ : ∃ dt, numD bs a3 1 0 128 = dt := ⟨_, rfl⟩
  have HX := Aside0.mk (upto85D g q cb bs a3 L 0 1 128 _ hN _ HK.out.rs (by omega))
  have hd := HD.out
  rw [hN] at hd
  have HN := Aside0.mk hN
  clear HD hN
  have HD := Aside0.mk hd
  clear hd
  go_wp2_with (go_at_call 85; refine HX.out.mono ?_)
  rcases dt with ⟨nn, a4⟩ | ⟨er, p⟩
  rotate_left
  · obtain rfl : d = .bad er p := HD.out.symm
    rintro e' w9 ⟨rfl, k9⟩
    have M9 := Aside0.mk (HK.out.mv.trans k9)
    clear k9
    go_wp2
    exact ⟨rfl, rfl, M9.out⟩
  have hd := HD.out
  have hN := HN.out
  rw [Rdd.bind_ok] at hd
  clear HD HX HN
  obtain ⟨hn0, hn1⟩ := (numD_ok hN).2.2.2
  clear hN
  obtain ⟨N, rfl⟩ : ∃ N : Nat, nn = N := ⟨nn.toNat, by omega⟩
  rw [Int.toNat_natCast] at hd
  have HD := Aside0.mk hd
  clear hd
  first | rintro e' w6 rfl k1 k2 | rintro e' w6 ⟨rfl, k1, k2⟩
  have K6 := HK.out.num k1 k2
  have F0' := F_mv F0.out k2 hgl
  clear F0
  obtain ⟨p2, p3, pf, pr⟩ := K6.at
  have K7 := K6.set 3 (.int .i64 N) L N rfl
  have F0 := Aside0.mk (F_putN (i := 3) F0' (Nat.le_of_lt hgl) (.int .i64 N))
  obtain ⟨q2, q3, qf, qr⟩ := K7.at
  clear HK
  have HK := Aside0.mk K7
  clear k1 k2 K6 K7 F0'
  obtain ⟨dt, hN⟩ : ∃ dt, manyD (one (nameD bs)) N () a4 = dt := ⟨_, rfl⟩
  have HX := Aside0.mk (list88D g q cb bs a4 L N N _ hN _ HK.out.rs hcb (by omega))
  have hd := HD.out
  rw [hN] at hd
  have HN := Aside0.mk hN
  clear HD hN
  have HD := Aside0.mk hd
  clear hd
  go_wp2_with (go_at_call 88; refine HX.out.mono ?_)
  rcases dt with ⟨⟨names, ⟨⟩⟩, a5⟩ | ⟨er, p⟩
  rotate_left
  · obtain rfl : d = .bad er p := HD.out.symm
    rintro e' w9 ⟨rfl, k9⟩
    have M9 := Aside0.mk (HK.out.mv.trans k9)
    clear k9
    go_wp2
    exact ⟨rfl, rfl, M9.out⟩
  have hd := HD.out
  have hN := HN.out
  rw [Rdd.bind_ok] at hd
  clear HD HX HN
  clear hN
  dsimp only at hd
  have HD := Aside0.mk hd
  clear hd
  first | rintro e' w8 A1 c1 rfl m1 f1 k1 k2 hnx | rintro e' w8 ⟨A1, c1, rfl, m1, f1, k1, k2, hnx⟩
  dsimp only at m1 f1 hnx ⊢
  have K8 := HK.out.num k1 k2
  have F0' := F_mv F0.out k2 hgl
  have F1 := Kd.F_mono f1 (ok' := fun k => w.heap.size < k) (fun k hk => Nat.lt_of_lt_of_le HK.out.lt hk)
  obtain ⟨p2, p3, pf, pr⟩ := K8.at
  have z1 := K8.cell 1 _ rfl
  have K9 := K8.put 1 (.slice A1 names.length c1) _ rfl
  clear F0
  have F0 := Aside0.mk (F_putN (i := 1) F0' (Nat.le_refl _) (.slice A1 names.length c1))
  have F1 := Aside0.mk (F_putN (i := 1) F1 (Nat.le_refl _) (.slice A1 names.length c1))
  obtain ⟨q2, q3, qf, qr⟩ := K9.at
  clear HK
  have HK := Aside0.mk K9
  have HNX := Aside0.mk hnx
  clear k1 k2 K8 K9 f1 hnx F0'
  obtain ⟨dt, hN⟩ : ∃ dt, numD bs a5 1 0 ((N : Int) - 1) = dt := ⟨_, rfl⟩
  have HX := Aside0.mk (upto85D g q cb bs a5 L N 1 ((N : Int) - 1) _ hN _ HK.out.rs (by omega))
  have hd := HD.out
  rw [hN] at hd
  have HN := Aside0.mk hN
  clear HD hN
  have HD := Aside0.mk hd
  clear hd
  go_wp2_with (go_at_call 85; refine HX.out.mono ?_)
  rcases dt with ⟨st, a6⟩ | ⟨er, p⟩
  rotate_left
  · obtain rfl : d = .bad er p := HD.out.symm
    rintro e' w9 ⟨rfl, k9⟩
    have M9 := Aside0.mk (HK.out.mv.trans k9)
    clear k9
    go_wp2
    exact ⟨rfl, rfl, M9.out⟩
  have hd := HD.out
  have hN := HN.out
  rw [Rdd.bind_ok] at hd
  clear HD HX HN
  clear hN
  have HD := Aside0.mk hd
  clear hd
  first | rintro e' w10 rfl k1 k2 | rintro e' w10 ⟨rfl, k1, k2⟩
  have K10 := HK.out.num k1 k2
  have F0' := F_mv F0.out k2 hgl
  have F1' := F_mv F1.out k2 hgl
  obtain ⟨p2, p3, pf, pr⟩ := K10.at
  have z2 := K10.cell 2 _ rfl
  have K11 := K10.put 2 (.int .i64 st) _ rfl
  clear F0 F1
  have F0 := Aside0.mk (F_putN (i := 2) F0' (Nat.le_refl _) (.int .i64 st))
  have F1 := Aside0.mk (F_putN (i := 2) F1' (Nat.le_refl _) (.int .i64 st))
  obtain ⟨q2, q3, qf, qr⟩ := K11.at
  clear HK
  have HK := Aside0.mk K11
  clear k1 k2 K10 K11 F0' F1'
  obtain ⟨dt, hN⟩ : ∃ dt, numD bs a6 2 0 512 = dt := ⟨_, rfl⟩
  have HX := Aside0.mk (upto85D g q cb bs a6 L N 2 512 _ hN _ HK.out.rs (by omega))
  have hd := HD.out
  rw [hN] at hd
  have HN := Aside0.mk hN
  clear HD hN
  have HD := Aside0.mk hd
  clear hd
  go_wp2_with (go_at_call 85; refine HX.out.mono ?_)
  rcases dt with ⟨np, a7⟩ | ⟨er, p⟩
  rotate_left
  · obtain rfl : d = .bad er p := HD.out.symm
    rintro e' w9 ⟨rfl, k9⟩
    have M9 := Aside0.mk (HK.out.mv.trans k9)
    clear k9
    go_wp2
    exact ⟨rfl, rfl, M9.out⟩
  have hd := HD.out
  have hN := HN.out
  rw [Rdd.bind_ok] at hd
  clear HD HX HN
  obtain ⟨hp0, hp1⟩ := (numD_ok hN).2.2.2
  clear hN
  obtain ⟨Q, rfl⟩ : ∃ Q : Nat, np = Q := ⟨np.toNat, by omega⟩
  rw [Int.toNat_natCast] at hd
  have HD := Aside0.mk hd
  clear hd
  first | rintro e' w12 rfl k1 k2 | rintro e' w12 ⟨rfl, k1, k2⟩
  have K12 := HK.out.num k1 k2
  have F0' := F_mv F0.out k2 hgl
  have F1' := F_mv F1.out k2 hgl
  clear HK F0 F1
  have HK := Aside0.mk K12
  have F0 := Aside0.mk F0'
  have F1 := Aside0.mk F1'
  clear k1 k2 K12 F0' F1'
  obtain ⟨dt, hN⟩ : ∃ dt, manyD (one (prodD bs L N)) Q () a7 = dt := ⟨_, rfl⟩
  have HX := Aside0.mk (list90D g q cb bs a7 L N Q _ hN _ HK.out.rs hcb (by omega) (by omega) (by omega))
  have hd := HD.out
  rw [hN] at hd
  have HN := Aside0.mk hN
  clear HD hN
  have HD := Aside0.mk hd
  clear hd
  go_wp2_with (go_at_call 90; refine HX.out.mono ?_)
  rcases dt with ⟨⟨prods, ⟨⟩⟩, a8⟩ | ⟨er, p⟩
  rotate_left
  · obtain rfl : d = .bad er p := HD.out.symm
    rintro e' w9 ⟨rfl, k9⟩
    have M9 := Aside0.mk (HK.out.mv.trans k9)
    clear k9
    go_wp2
    exact ⟨rfl, rfl, M9.out⟩
  have hd := HD.out
  have hN := HN.out
  rw [Rdd.bind_ok] at hd
  clear HD HX HN
  clear hN
  dsimp only at hd
  have HD := Aside0.mk hd
  clear hd
  first | rintro e' w13 A3 c3 rfl m3 f3 k1 k2 hpx | rintro e' w13 ⟨A3, c3, rfl, m3, f3, k1, k2, hpx⟩
  dsimp only at m3 f3 hpx ⊢
  have K13 := HK.out.num k1 k2
  have F0' := F_mv F0.out k2 hgl
  have F1' := F_mv F1.out k2 hgl
  have F3 := Kd.F_mono f3 (ok' := fun k => w.heap.size < k) (fun k hk => Nat.lt_of_lt_of_le HK.out.lt hk)
  obtain ⟨p2, p3, pf, pr⟩ := K13.at
  have z3 := K13.cell 3 _ rfl
  have K14 := K13.put 3 (.slice A3 prods.length c3) _ rfl
  clear F0 F1
  have F0 := Aside0.mk (F_putN (i := 3) F0' (Nat.le_refl _) (.slice A3 prods.length c3))
  have F1 := Aside0.mk (F_putN (i := 3) F1' (Nat.le_refl _) (.slice A3 prods.length c3))
  have F3 := Aside0.mk (F_putN (i := 3) F3 (Nat.le_refl _) (.slice A3 prods.length c3))
  clear HK
  have HK := Aside0.mk K14
  have HPX := Aside0.mk hpx
  clear k1 k2 K13 K14 f3 hpx F0' F1'
  obtain ⟨dt, hN⟩ : ∃ dt, endD bs a8 = dt := ⟨_, rfl⟩
  have HX := Aside0.mk (sealed92D g q cb bs a8 L N _ hN _ HK.out.rs HK.out.tab hcb)
  have hd := HD.out
  rw [hN] at hd
  have HN := Aside0.mk hN
  clear HD hN
  have HD := Aside0.mk hd
  clear hd
  go_wp2_with (go_at_call 92; refine HX.out.mono ?_)
  rcases dt with ⟨⟨⟩, a9⟩ | ⟨er, p⟩
  rotate_left
  · obtain rfl : d = .bad er p := HD.out.symm
    rintro e' w9 ⟨rfl, k9⟩
    have M9 := Aside0.mk (HK.out.mv.trans k9)
    clear k9
    go_wp2
    exact ⟨rfl, rfl, M9.out⟩
  have hd := HD.out
  have hN := HN.out
  rw [Rdd.bind_ok] at hd
  clear HD HX HN
  obtain rfl : d = .ok (lex, names, st, prods) a9 := hd.symm
  first | rintro e' w15 rfl k1 k2 | rintro e' w15 ⟨rfl, k1, k2⟩
  have K15 := HK.out.num k1 k2
  have F0' := F_mv F0.out k2 hgl
  have F1' := F_mv F1.out k2 hgl
  have F3' := F_mv F3.out k2 hgl
  obtain ⟨p2, p3, pf, pr⟩ := K15.at
  have z0 := K15.cell 0 _ rfl
  have z1 := K15.cell 1 _ rfl
  have z2 := K15.cell 2 _ rfl
  have z3 := K15.cell 3 _ rfl
  clear HK F0 F1 F3
  have HK := Aside0.mk K15
  have F0 := Aside0.mk F0'
  have F1 := Aside0.mk F1'
  have F3 := Aside0.mk F3'
  clear k1 k2 K15 F0' F1' F3'
  go_wp2
  have K16 := (((HK.out.put 0 (.slice A0 lex.length c0) _ rfl).put 1 (.slice A1 names.length c1) _ rfl).put 2 (.int .i64 st) _ rfl).put 3 (.slice A3 prods.length c3) _ rfl
  refine bodyPost_ret (results_cell_row rfl _ _ w.heap.size 28 #[.slice A0 lex.length c0, .slice A1 names.length c1, .int .i64 st, .slice A3 prods.length c3] (0, 0) _ rfl K16.res Tryz.underlying28 rfl (by kernel_rfl)) rfl ?_
  exact ⟨_, rfl, ⟨A0, c0, A1, c1, A3, c3, rfl, ⟨m0, m1, m3⟩, F_putN (i := 3) (F_putN (i := 2) (F_putN (i := 1) (F_putN (i := 0) F0.out (Nat.le_refl _) _) (Nat.le_refl _) _) (Nat.le_refl _) _) (Nat.le_refl _) _, F_putN (i := 3) (F_putN (i := 2) (F_putN (i := 1) (F_putN (i := 0) F1.out (Nat.le_refl _) _) (Nat.le_refl _) _) (Nat.le_refl _) _) (Nat.le_refl _) _, F_putN (i := 3) (F_putN (i := 2) (F_putN (i := 1) (F_putN (i := 0) F3.out (Nat.le_refl _) _) (Nat.le_refl _) _) (Nat.le_refl _) _) (Nat.le_refl _) _⟩, K16.mv⟩
end Go.Proofs.YtpnkifincadakaaGreatDoor.Wr
end
section
namespace Go.Proofs.YtpnkifincadakaaGreatDoor.Wr
open Go.RowKit Go.Pk Go.Am Go.Proofs Go.Proofs.YtpnkifincadakaaGreatDoorW.PrintWords Go.Proofs.YtpnkifincadakaaGreatDoor.PPackSpecs
set_option maxHeartbeats 2000000 in
set_option maxRecDepth 100000 in
theorem catch83p (N : Nat) (p e : Int) (w : World) (hb : w.heap[N]? = some (.cells #[.int .i64 0, .int .i64 0] 92 (0, 0))) :
    CallsD Tryz.prog 83 #[.pointer (some ⟨N, 0, none⟩)] (.panicking [{ v := .iface 92 (.agg #[.int .i64 p, .int .i64 e]), recovered := false }]) w fun r u' w' => r = .returned (.tuple #[]) ∧ u' = .panicking [{ v := .iface 92 (.agg #[.int .i64 p, .int .i64 e]), recovered := true }] ∧ w'.heap[N]? = some (.cells #[.int .i64 p, .int .i64 e] 92 (0, 0)) ∧ (∀ k, k < w.heap.size → k ≠ N → w'.heap[k]? = w.heap[k]?) ∧ w.heap.size ≤ w'.heap.size ∧ Below N w w' := by
  have hlt : N < w.heap.size := blk_lt hb
  have hta : ∀ w : World, (Instr.typeAssert (.iface 92 (.agg #[.int .i64 p, .int .i64 e])) 20 92 true).run Tryz.prog w = .ok (.tuple #[.agg #[.int .i64 p, .int .i64 e], .bool true]) w := fun _ => by kernel_rfl
  have hnn : ∀ w : World, (binOp .eql 20 (.iface 92 (.agg #[.int .i64 p, .int .i64 e])) .nilIface).run Tryz.prog w = .ok (.bool false) w := fun _ => by kernel_rfl
  have c0 : w.cell? ⟨N, 0, none⟩ = some (.int .i64 0) := by rw [Lib.cell_of_heap hb]; rfl
  have c1 : w.cell? ⟨N, 1, none⟩ = some (.int .i64 0) := by rw [Lib.cell_of_heap hb]; rfl
  have f0 : w.frozen? ⟨N, 0, none⟩ = false := Lib.frozen_of_heap hb 0
  have f1 : w.frozen? ⟨N, 1, none⟩ = false := Lib.frozen_of_heap hb 1
  refine callsD_of_wpS Tryz.func83 rfl fun c₀ cs hu => ?_
  apply wpS_seq
  apply wpS_region
  simp [wpOpsS, go_sem, recoverD, hu, Tryz.ntmps83, Exit.thenS]
  refine wpS_of_wp ?_
  go_wp2
  have g1 : (((w.setCell ⟨N, 0, none⟩ (.int .i64 p)).setCell ⟨N, 1, none⟩ (.int .i64 e)).alloc (.cells #[.int .i64 p, .int .i64 e] 92)).heap[N]? = some (.cells #[.int .i64 p, .int .i64 e] 92 (0, 0)) := blk_alloc (blk_put (cs := #[.int .i64 p, .int .i64 0]) (blk_put hb 0 _ rfl) 1 _ rfl) _
  have g2 : ∀ k, k < w.heap.size → k ≠ N → (((w.setCell ⟨N, 0, none⟩ (.int .i64 p)).setCell ⟨N, 1, none⟩ (.int .i64 e)).alloc (.cells #[.int .i64 p, .int .i64 e] 92)).heap[k]? = w.heap[k]? := fun k hk hne => by
    rw [(below_alloc (Below.refl _ _) (.cells #[.int .i64 p, .int .i64 e] 92)).block k (by simpa using hk), Below.heap_setCell _ _ _ _ (by simpa using hne), Below.heap_setCell _ _ _ _ (by simpa using hne)]
  have g3 : w.heap.size ≤ (((w.setCell ⟨N, 0, none⟩ (.int .i64 p)).setCell ⟨N, 1, none⟩ (.int .i64 e)).alloc (.cells #[.int .i64 p, .int .i64 e] 92)).heap.size := by simp
  have g4 : Below N w (((w.setCell ⟨N, 0, none⟩ (.int .i64 p)).setCell ⟨N, 1, none⟩ (.int .i64 e)).alloc (.cells #[.int .i64 p, .int .i64 e] 92)) := (((Below.refl N w).setCell (p := ⟨N, 0, none⟩) (Nat.le_refl _) _).setCell (p := ⟨N, 1, none⟩) (Nat.le_refl _) _).alloc (by simpa using Nat.le_of_lt hlt) _
  obtain ⟨wz, hz⟩ : ∃ wz, wz = ((w.setCell ⟨N, 0, none⟩ (.int .i64 p)).setCell ⟨N, 1, none⟩ (.int .i64 e)).alloc (.cells #[.int .i64 p, .int .i64 e] 92) := ⟨_, rfl⟩
  rw [← hz] at g1 g2 g3 g4 ⊢
  clear hz
  cases c₀
  simp [bodyPostS, results, Tryz.results83]
  exact ⟨g1, g2, g3, g4⟩
set_option maxHeartbeats 1000000 in
set_option maxRecDepth 100000 in
theorem tried_fell {f : FuncId} {fn : Func} {c : Code} (hf : Tryz.prog.funcs[f]? = some fn) (hb : fn.body = some c) (x y : Array Value) (w : World) (p er : Int) (R : World → Prop)
    (hcall : Calls Tryz.prog f (x ++ y) (w.alloc (.cells #[.int .i64 0, .int .i64 0] 92)) fun e w' => e = .panicked [{ v := .iface 92 (.agg #[.int .i64 p, .int .i64 er]), recovered := false }] ∧ R w' ∧ w'.heap[w.heap.size]? = some (.cells #[.int .i64 0, .int .i64 0] 92 (0, 0))) :
    Calls Tryz.prog 40 #[.func (.func f) x y] w fun e w' => e = .returned (.agg #[.int .i64 p, .int .i64 er]) ∧ ∃ w1, R w1 ∧ w.heap.size < w1.heap.size ∧ (∀ k, k < w1.heap.size → k ≠ w.heap.size → w'.heap[k]? = w1.heap[k]?) ∧ w1.heap.size ≤ w'.heap.size ∧ Below w.heap.size w1 w' := by
  have hmf : ∀ (fn : Fn) (first cap : Array Value) (w : World), (Instr.makeFunc fn first cap).run Tryz.prog w = .ok (.func fn first cap) w := fun _ _ _ _ => rfl
  have hent := fun args w => enters f fn c hf hb args w
  go_enter_defers Tryz.func40, Tryz.ntmps40
  go_wp2
  refine hcall.mono ?_
  rintro e w1 ⟨rfl, hR, hb1⟩
  refine leaves_cons (f := 83) (args := #[.pointer (some ⟨w.heap.size, 0, none⟩)]) (by simp) (by simp [go_sem]) ?_
  refine (catch83p _ _ _ _ hb1).mono ?_
  rintro e u' w'' ⟨rfl, rfl, hN, hk, hs, hbl⟩
  have d0 : w''.cell? ⟨w.heap.size, 0, none⟩ = some (.int .i64 p) := by rw [Lib.cell_of_heap hN]; rfl
  have d1 : w''.cell? ⟨w.heap.size, 1, none⟩ = some (.int .i64 er) := by rw [Lib.cell_of_heap hN]; rfl
  simp [Leaves, settle, results, Tryz.results40, go_sem, d0, d1, Result.andThen]
  exact ⟨w1, hR, blk_lt hb1, hk, hs, hbl⟩
end Go.Proofs.YtpnkifincadakaaGreatDoor.Wr
end
section
namespace Go.Pk
open Go.Proofs.YtpnkifincadakaaGreatDoor.PPackSpecs
def NZ {α : Type} (r : Rdd α) : Prop := ∀ e p, r = .bad e p → e ≠ 0
section
variable {α β : Type}
theorem nz_ok (x : α) (a : Nat) : NZ (Rdd.ok x a) := fun e p h => by cases h
theorem nz_bad (e : Int) (p : Nat) (h : e ≠ 0) : NZ (Rdd.bad (α := α) e p) := fun e p h => by cases h; assumption
theorem nz_bind {r : Rdd α} {f : α → Nat → Rdd β} (h : NZ r) (k : ∀ x a, NZ (f x a)) : NZ (r.bind f) := by
  cases r with
  | ok x a => exact k x a
  | bad e p => exact nz_bad e p (h e p rfl)
theorem nz_ite {c : Prop} [Decidable c] {r s : Rdd α} (h : NZ r) (k : NZ s) : NZ (if c then r else s) := by
  split
  · exact h
  · exact k
end
theorem nz_take (bs : List Int) (a n : Nat) : NZ (takeD bs a n) := nz_ite (nz_bad _ _ (by decide)) (nz_ok _ _)
theorem nz_num (bs : List Int) (a k : Nat) (lo hi : Int) : NZ (numD bs a k lo hi) := nz_bind (nz_take _ _ _) fun _ _ => nz_ite (nz_bad _ _ (by decide)) (nz_ok _ _)
theorem nz_many {α σ : Type} {on : σ → Nat → Rdd (α × σ)} (h : ∀ s a, NZ (on s a)) : ∀ n s a, NZ (manyD on n s a)
  | 0, _, _ => nz_ok _ _
  | n + 1, s, a => nz_bind (h s a) fun x a1 => nz_bind (nz_many h n x.2 a1) fun _ _ => nz_ok _ _
theorem nz_magic (bs : List Int) : ∀ l a, NZ (magicD bs l a)
  | [], _ => nz_ok _ _
  | c :: r, a => nz_bind (nz_num _ _ _ _ _) fun _ a1 => nz_magic bs r a1
theorem nz_value (bs : List Int) : ∀ f cnt a, NZ (valueD bs f cnt a)
  | 0, _, _ => nz_bind (nz_num _ _ _ _ _) fun _ _ => nz_bad _ _ (by decide)
  | f + 1, cnt, a => nz_bind (nz_num _ _ _ _ _) fun k a1 => nz_ite (nz_bad _ _ (by decide)) (nz_ite (nz_bind (nz_num _ _ _ _ _) fun _ _ => nz_bind (nz_num _ _ _ _ _) fun _ _ => nz_ite (nz_ok _ _) (nz_bad _ _ (by decide)))
      (nz_ite (nz_bind (nz_num _ _ _ _ _) fun _ _ => nz_bind (nz_num _ _ _ _ _) fun _ _ => nz_ite (nz_bind (nz_many (nz_value bs f) _ _ _) fun _ _ => nz_ok _ _) (nz_bad _ _ (by decide)))
        (nz_bind (nz_num _ _ _ _ _) fun _ _ => nz_ite (nz_bind (nz_many (nz_value bs f) _ _ _) fun _ _ => nz_ok _ _) (nz_bad _ _ (by decide)))))
theorem nz_pattern (bs : List Int) (a : Nat) : NZ (patternD bs a) := nz_bind (nz_value _ _ _ _) fun _ _ => nz_ite (nz_ok _ _) (nz_bad _ _ (by decide))
theorem nz_name (bs : List Int) (a : Nat) : NZ (nameD bs a) := nz_bind (nz_num _ _ _ _ _) fun _ _ => nz_bind (nz_take _ _ _) fun _ _ => nz_ok _ _
theorem nz_rule (bs : List Int) (a : Nat) : NZ (ruleD bs a) := nz_bind (nz_num _ _ _ _ _) fun _ _ => nz_bind (nz_name _ _) fun _ _ => nz_bind (nz_pattern _ _) fun _ _ => nz_ok _ _
theorem nz_sym (bs : List Int) (l n a : Nat) : NZ (symD bs l n a) := nz_bind (nz_num _ _ _ _ _) fun _ _ => nz_ite (nz_bad _ _ (by decide)) (nz_bind (nz_num _ _ _ _ _) fun _ _ => nz_ite (nz_ok _ _) (nz_bad _ _ (by decide)))
theorem nz_one {α : Type} {f : Nat → Rdd α} (h : ∀ a, NZ (f a)) : ∀ s a, NZ (one f s a) := fun _ a => nz_bind (h a) fun _ _ => nz_ok _ _
theorem nz_prod (bs : List Int) (l n a : Nat) : NZ (prodD bs l n a) := nz_bind (nz_num _ _ _ _ _) fun _ _ => nz_bind (nz_num _ _ _ _ _) fun _ _ => nz_bind (nz_many (nz_one (nz_sym _ _ _)) _ _ _) fun _ _ => nz_ok _ _
theorem nz_end (bs : List Int) (a : Nat) : NZ (endD bs a) := nz_bind (nz_take _ _ _) fun _ _ => nz_ite (nz_ite (nz_bad _ _ (by decide)) (nz_ok _ _)) (nz_bad _ _ (by decide))
theorem nz_spec (bs : List Int) : NZ (specD bs) := nz_bind (nz_magic _ _ _) fun _ _ => nz_bind (nz_num _ _ _ _ _) fun _ _ => nz_bind (nz_many (nz_one (nz_rule _)) _ _ _) fun _ _ => nz_bind (nz_num _ _ _ _ _) fun _ _ => nz_bind (nz_many (nz_one (nz_name _)) _ _ _) fun _ _ =>
  nz_bind (nz_num _ _ _ _ _) fun _ _ => nz_bind (nz_num _ _ _ _ _) fun _ _ => nz_bind (nz_many (nz_one (nz_prod _ _ _)) _ _ _) fun _ _ => nz_bind (nz_end _ _) fun _ _ => nz_ok _ _
theorem specD_ne {bs : List Int} {e : Int} {p : Nat} {d : Rdd (List S42 × List ByteArray × Int × List S67)} (hd : specD bs = d) (h : d = .bad e p) : e ≠ 0 := nz_spec bs e p (hd.trans h)
end Go.Pk
end
section
namespace Go.Pk
open Go.Proofs.YtpnkifincadakaaGreatDoor.PPackSpecs
def readD (bs : List Int) : Rdd (List S42 × List ByteArray × Int × List S67) := if 67108864 < bs.length then .bad 2 0 else specD bs
def gotS (d : Rdd (List S42 × List ByteArray × Int × List S67)) : List S42 × List ByteArray × Int × List S67 := match d with | .ok x _ => x | .bad _ _ => ([], [], 0, [])
def codeOf {α : Type} (d : Rdd α) : Int := match d with | .ok _ _ => 0 | .bad e _ => e
def placeOf {α : Type} (d : Rdd α) : Nat := match d with | .ok _ _ => 0 | .bad _ p => p
end Go.Pk
namespace Go.Proofs.YtpnkifincadakaaGreatDoor.Wr
open Go.RowKit Go.Pk Go.Am Go.Proofs.YtpnkifincadakaaGreatDoorW.PrintWords Go.Proofs.YtpnkifincadakaaGreatDoor.PPackSpecs
theorem readIt_nil (N : Nat) (w' : World) : ReadIt N [] [] 0 [] (.agg #[.slice none 0 0, .slice none 0 0, .int .i64 0, .slice none 0 0]) w' :=
  ⟨none, 0, none, 0, none, 0, rfl, ⟨Nat.le_refl _, Nat.le_refl _, Nat.le_refl _⟩, Kd.F_nil _ _ _, Kd.F_nil _ _ _, Kd.F_nil _ _ _⟩
set_option maxHeartbeats 8000000 in
set_option maxRecDepth 100000 in
theorem clo41D (g q cb : Nat) (bs : List Int) (d : Rdd (List S42 × List ByteArray × Int × List S67)) (hd : specD bs = d) (Rb Sb : Nat) (w : World) (h : RS g q cb bs 0 0 0 w) (hT : TabVar w) (hg : 0 < g) (hcb : bs.length < cb)
    (hr : w.heap[Rb]? = some (.cells #[.pointer (some ⟨g, 0, none⟩)] 88 (0, 0))) (hs : w.heap[Sb]? = some (.cells #[.slice none 0 0, .slice none 0 0, .int .i64 0, .slice none 0 0] 28 (0, 0))) (hne : Sb ≠ g) :
    Calls Tryz.prog 41 #[.pointer (some ⟨Rb, 0, none⟩), .pointer (some ⟨Sb, 0, none⟩)] w (Out2 d g Sb w fun x a' e w' => e = .returned (.tuple #[]) ∧ ∃ A0 c0 A1 c1 A3 c3, w'.heap[Sb]? = some (.cells #[.slice A0 x.1.length c0, .slice A1 x.2.1.length c1, .int .i64 x.2.2.1, .slice A3 x.2.2.2.length c3] 28 (0, 0)) ∧ ReadIt w.heap.size x.1 x.2.1 x.2.2.1 x.2.2.2 (.agg #[.slice A0 x.1.length c0, .slice A1 x.2.1.length c1, .int .i64 x.2.2.1, .slice A3 x.2.2.2.length c3]) w' ∧ Mv2 g Sb w w') := by
  have HS := Aside0.mk (spec42D g q cb bs d hd w h hT hg hcb)
  have HSb := Aside0.mk hs
  have hSl : Sb < w.heap.size := blk_lt hs
  have c0 : w.cell? ⟨Rb, 0, none⟩ = some (.pointer (some ⟨g, 0, none⟩)) := (blk_cell hr 0).trans rfl
  clear h hT hr hs hd
  go_enter Tryz.func41, Tryz.ntmps41
  go_wp2_with (go_at_call 42; refine HS.out.mono ?_)
  rcases d with ⟨⟨lex, names, start, prods⟩, a'⟩ | ⟨er, p⟩
  rotate_left
  · rintro e' w1 ⟨rfl, k2⟩
    have M2 := Aside0.mk (k2.two Sb)
    clear k2
    go_wp2
    exact ⟨rfl, rfl, M2.out⟩
  rintro e' w1 ⟨v, rfl, ⟨A0, c0', A1, c1', A3, c3', rfl, hc, F0, F1, F3⟩, k2⟩
  dsimp only at hc F0 F1 F3 ⊢
  have B1 := k2.blk HSb.out hne
  have f0 : ∀ i, w1.frozen? ⟨Sb, i, none⟩ = false := fun i => blk_frozen B1 i
  have z0 : w1.cell? ⟨Sb, 0, none⟩ = some (.slice none 0 0) := (blk_cell B1 0).trans rfl
  have z1 : w1.cell? ⟨Sb, 1, none⟩ = some (.slice none 0 0) := (blk_cell B1 1).trans rfl
  have z2 : w1.cell? ⟨Sb, 2, none⟩ = some (.int .i64 0) := (blk_cell B1 2).trans rfl
  have z3 : w1.cell? ⟨Sb, 3, none⟩ = some (.slice none 0 0) := (blk_cell B1 3).trans rfl
  have HB := Aside0.mk B1
  have G0 := Aside0.mk F0
  have G1 := Aside0.mk F1
  have G3 := Aside0.mk F3
  have HC := Aside0.mk hc
  have HM := Aside0.mk ((((k2.two Sb).setP 0 (.slice A0 lex.length c0')).setP 1 (.slice A1 names.length c1')).setP 2 (.int .i64 start) |>.setP 3 (.slice A3 prods.length c3'))
  clear k2 B1 F0 F1 F3 hc
  go_wp2
  go_end0
  exact ⟨rfl, A0, c0', A1, c1', A3, c3', put4_blk HB.out _ _ _ _, ⟨A0, c0', A1, c1', A3, c3', rfl, HC.out, put4_F G0.out (Nat.le_of_lt hSl) _ _ _ _, put4_F G1.out (Nat.le_of_lt hSl) _ _ _ _, put4_F G3.out (Nat.le_of_lt hSl) _ _ _ _⟩, HM.out⟩
set_option maxHeartbeats 8000000 in
set_option maxRecDepth 100000 in
theorem readSpec14D (q cb : Nat) (bs : List Int) (d : Rdd (List S42 × List ByteArray × Int × List S67)) (hd : readD bs = d) (w : World)
    (hrow : ∃ cells, w.heap[q]? = some (.cells cells 5 (0, 0)) ∧ ∀ (i : Nat) (b : Int), bs[i]? = some b → cells[i]? = some (.int .u8 b)) (hcap : bs.length ≤ cb ∧ cb ≤ 9223372036854775807) (hcb : bs.length < cb) (hby : ∀ b, b ∈ bs → 0 ≤ b ∧ b < 256) (hT : TabVar w) :
    Calls Tryz.prog 14 #[.slice (some ⟨q, 0, none⟩) bs.length cb] w fun e w' => ∃ v, e = .returned (.tuple #[v, .int .i64 (placeOf d), .int .i64 (codeOf d)]) ∧ ReadIt w.heap.size (gotS d).1 (gotS d).2.1 (gotS d).2.2.1 (gotS d).2.2.2 v w' ∧ Below w.heap.size w w' := by
  by_cases hlong : 67108864 < bs.length
  · obtain rfl : d = .bad 2 0 := by rw [← hd, readD, if_pos hlong]
    have hl' : decide ((67108864 : Int) < (bs.length : Int)) = true := decide_eq_true (by omega)
    clear hd hT hrow hby
    have e0 := (blk_cell (blk_new w (.cells #[.slice none 0 0, .slice none 0 0, .int .i64 0, .slice none 0 0] 28)) 0).trans (show _ = some (.slice none 0 0) from rfl)
    have e1 := (blk_cell (blk_new w (.cells #[.slice none 0 0, .slice none 0 0, .int .i64 0, .slice none 0 0] 28)) 1).trans (show _ = some (.slice none 0 0) from rfl)
    have e2 := (blk_cell (blk_new w (.cells #[.slice none 0 0, .slice none 0 0, .int .i64 0, .slice none 0 0] 28)) 2).trans (show _ = some (.int .i64 0) from rfl)
    have e3 := (blk_cell (blk_new w (.cells #[.slice none 0 0, .slice none 0 0, .int .i64 0, .slice none 0 0] 28)) 3).trans (show _ = some (.slice none 0 0) from rfl)
    go_enter Tryz.func14, Tryz.ntmps14
    go_wp2
    refine bodyPost_ret (v := .tuple #[.agg #[.slice none 0 0, .slice none 0 0, .int .i64 0, .slice none 0 0], .int .i64 0, .int .i64 2]) (by simp [results, Tryz.results14, go_sem, e0, e1, e2, e3]) rfl ?_
    exact ⟨_, rfl, readIt_nil _ _, below_alloc (Below.refl _ w) _⟩
  rw [readD, if_neg hlong] at hd
  obtain ⟨cells, hq, hrd⟩ := hrow
  have hql : q < w.heap.size := blk_lt hq
  have a1 := below_alloc (Below.refl _ w) (.cells #[.slice none 0 0, .slice none 0 0, .int .i64 0, .slice none 0 0] 28)
  have a2 := below_alloc a1 (.cells #[.slice none 0 0, .slice none 0 0, .int .i64 0, .slice none 0 0] 28)
  have a3 := below_alloc a2 (.cells #[.slice (some ⟨q, 0, none⟩) bs.length cb, .int .i64 0, .int .i64 0, .int .i64 0] 90)
  have a4 := below_alloc a3 (.cells #[.pointer (some ⟨w.heap.size + 1 + 1, 0, none⟩)] 88)
  have a5 := below_alloc a4 (.cells #[.int .i64 0, .int .i64 0] 92)
  have b1 := blk_alloc (blk_alloc (blk_alloc (blk_alloc (blk_new w (.cells #[.slice none 0 0, .slice none 0 0, .int .i64 0, .slice none 0 0] 28)) (.cells #[.slice none 0 0, .slice none 0 0, .int .i64 0, .slice none 0 0] 28)) (.cells #[.slice (some ⟨q, 0, none⟩) bs.length cb, .int .i64 0, .int .i64 0, .int .i64 0] 90)) (.cells #[.pointer (some ⟨w.heap.size + 1 + 1, 0, none⟩)] 88)) (.cells #[.int .i64 0, .int .i64 0] 92)
  have b2 := blk_alloc (blk_alloc (blk_alloc (blk_new (w.alloc (.cells #[.slice none 0 0, .slice none 0 0, .int .i64 0, .slice none 0 0] 28)) (.cells #[.slice none 0 0, .slice none 0 0, .int .i64 0, .slice none 0 0] 28)) (.cells #[.slice (some ⟨q, 0, none⟩) bs.length cb, .int .i64 0, .int .i64 0, .int .i64 0] 90)) (.cells #[.pointer (some ⟨w.heap.size + 1 + 1, 0, none⟩)] 88)) (.cells #[.int .i64 0, .int .i64 0] 92)
  have b3 := blk_alloc (blk_alloc (blk_new ((w.alloc (.cells #[.slice none 0 0, .slice none 0 0, .int .i64 0, .slice none 0 0] 28)).alloc (.cells #[.slice none 0 0, .slice none 0 0, .int .i64 0, .slice none 0 0] 28)) (.cells #[.slice (some ⟨q, 0, none⟩) bs.length cb, .int .i64 0, .int .i64 0, .int .i64 0] 90)) (.cells #[.pointer (some ⟨w.heap.size + 1 + 1, 0, none⟩)] 88)) (.cells #[.int .i64 0, .int .i64 0] 92)
  have b4 := blk_alloc (blk_new (((w.alloc (.cells #[.slice none 0 0, .slice none 0 0, .int .i64 0, .slice none 0 0] 28)).alloc (.cells #[.slice none 0 0, .slice none 0 0, .int .i64 0, .slice none 0 0] 28)).alloc (.cells #[.slice (some ⟨q, 0, none⟩) bs.length cb, .int .i64 0, .int .i64 0, .int .i64 0] 90)) (.cells #[.pointer (some ⟨w.heap.size + 1 + 1, 0, none⟩)] 88)) (.cells #[.int .i64 0, .int .i64 0] 92)
  have b5 := blk_new ((((w.alloc (.cells #[.slice none 0 0, .slice none 0 0, .int .i64 0, .slice none 0 0] 28)).alloc (.cells #[.slice none 0 0, .slice none 0 0, .int .i64 0, .slice none 0 0] 28)).alloc (.cells #[.slice (some ⟨q, 0, none⟩) bs.length cb, .int .i64 0, .int .i64 0, .int .i64 0] 90)).alloc (.cells #[.pointer (some ⟨w.heap.size + 1 + 1, 0, none⟩)] 88)) (.cells #[.int .i64 0, .int .i64 0] 92)
  simp only [World.size_alloc] at b1 b2 b3 b4 b5
  have hrs : RS (w.heap.size + 1 + 1) q cb bs 0 0 0 (((((w.alloc (.cells #[.slice none 0 0, .slice none 0 0, .int .i64 0, .slice none 0 0] 28)).alloc (.cells #[.slice none 0 0, .slice none 0 0, .int .i64 0, .slice none 0 0] 28)).alloc (.cells #[.slice (some ⟨q, 0, none⟩) bs.length cb, .int .i64 0, .int .i64 0, .int .i64 0] 90)).alloc (.cells #[.pointer (some ⟨w.heap.size + 1 + 1, 0, none⟩)] 88)).alloc (.cells #[.int .i64 0, .int .i64 0] 92)) :=
    ⟨b3, ⟨cells, (a5.block _ hql).trans hq, hrd⟩, hcap, Nat.zero_le _, hby⟩
  have hc := clo41D (w.heap.size + 1 + 1) q cb bs d hd (w.heap.size + 1 + 1 + 1) (w.heap.size + 1) _ hrs (tab_below hT (by omega) a5) (by omega) hcb b4 b2 (by omega)
  have hl' : decide ((67108864 : Int) < (bs.length : Int)) = false := decide_eq_false (by omega)
  rcases d with ⟨x, a'⟩ | ⟨er, p⟩
  rotate_left
  · have HT : Calls Tryz.prog 40 #[.func (.func 41) #[] #[.pointer (some ⟨w.heap.size + 1 + 1 + 1, 0, none⟩), .pointer (some ⟨w.heap.size + 1, 0, none⟩)]] ((((w.alloc (.cells #[.slice none 0 0, .slice none 0 0, .int .i64 0, .slice none 0 0] 28)).alloc (.cells #[.slice none 0 0, .slice none 0 0, .int .i64 0, .slice none 0 0] 28)).alloc (.cells #[.slice (some ⟨q, 0, none⟩) bs.length cb, .int .i64 0, .int .i64 0, .int .i64 0] 90)).alloc (.cells #[.pointer (some ⟨w.heap.size + 1 + 1, 0, none⟩)] 88)) fun e w' =>
        e = .returned (.agg #[.int .i64 p, .int .i64 er]) ∧ w'.heap[w.heap.size]? = some (.cells #[.slice none 0 0, .slice none 0 0, .int .i64 0, .slice none 0 0] 28 (0, 0)) ∧ Below w.heap.size w w' := by
      refine (tried_fell Tryz.func41 rfl #[] #[.pointer (some ⟨w.heap.size + 1 + 1 + 1, 0, none⟩), .pointer (some ⟨w.heap.size + 1, 0, none⟩)] _ p er (fun w1 => w1.heap[w.heap.size]? = some (.cells #[.slice none 0 0, .slice none 0 0, .int .i64 0, .slice none 0 0] 28 (0, 0)) ∧ Below w.heap.size w w1) ?_).mono ?_
      · rw [Array.empty_append]
        refine hc.mono ?_
        rintro e w' ⟨rfl, hm⟩
        refine ⟨rfl, ⟨hm.blk b1 (by omega) (by omega), a5.trans (hm.below.mono (by omega))⟩, ?_⟩
        simp only [World.size_alloc]
        exact hm.blk b5 (by omega) (by omega)
      · rintro e w' ⟨rfl, w1, ⟨h0, hb⟩, hlt, hk, hs, hbl⟩
        simp only [World.size_alloc] at hlt hk hbl
        exact ⟨rfl, (hk _ (by omega) (by omega)).trans h0, hb.trans (hbl.mono (by omega))⟩
    have HTT := Aside0.mk HT
    have hne : er ≠ 0 := specD_ne hd rfl
    obtain ⟨z1, z2⟩ := bf hne
    clear HT hc hrs a1 a2 a3 a4 a5 b1 b2 b3 b4 b5 hq hrd hT hby hd
    go_enter Tryz.func14, Tryz.ntmps14
    go_wp2_with (go_at_call 40; refine HTT.out.mono ?_)
    rintro e w1 ⟨rfl, h0, hb⟩
    have hsz : w.heap.size < w1.heap.size := blk_lt h0
    have hn1 : ¬ w1.heap.size = w.heap.size := by omega
    have hn2 : ¬ w.heap.size = w1.heap.size := by omega
    have z0 := (blk_cell h0 0).trans (show _ = some (.slice none 0 0) from rfl)
    have z1' := (blk_cell h0 1).trans (show _ = some (.slice none 0 0) from rfl)
    have z2' := (blk_cell h0 2).trans (show _ = some (.int .i64 0) from rfl)
    have z3 := (blk_cell h0 3).trans (show _ = some (.slice none 0 0) from rfl)
    have f0 : ∀ i, w1.frozen? ⟨w.heap.size, i, none⟩ = false := fun i => blk_frozen h0 i
    have HBL := Aside0.mk (put4_below (N := w.heap.size) hb (Nat.le_refl _) (.slice none 0 0) (.slice none 0 0) (.int .i64 0) (.slice none 0 0))
    have HBK := Aside0.mk (put4_blk h0 (.slice none 0 0) (.slice none 0 0) (.int .i64 0) (.slice none 0 0))
    clear h0 hb
    go_wp2_with fail
    go_region_law (fail)
    all_goals
      go_wp2
      have hz : ((put4 w1 w.heap.size (.slice none 0 0) (.slice none 0 0) (.int .i64 0) (.slice none 0 0)).alloc (.cells #[.int .i64 p, .int .i64 er] 92)).drew.heap[w.heap.size]? = some (.cells #[.slice none 0 0, .slice none 0 0, .int .i64 0, .slice none 0 0] 28 (0, 0)) := blk_alloc HBK.out _
      have e0 := (blk_cell hz 0).trans (show _ = some (.slice none 0 0) from rfl)
      have e1 := (blk_cell hz 1).trans (show _ = some (.slice none 0 0) from rfl)
      have e2 := (blk_cell hz 2).trans (show _ = some (.int .i64 0) from rfl)
      have e3 := (blk_cell hz 3).trans (show _ = some (.slice none 0 0) from rfl)
      refine bodyPost_ret (v := .tuple #[.agg #[.slice none 0 0, .slice none 0 0, .int .i64 0, .slice none 0 0], .int .i64 p, .int .i64 er]) (by simp [results, Tryz.results14, go_sem, e0, e1, e2, e3]) rfl ?_
      exact ⟨_, rfl, readIt_nil _ _, (below_then HBL.out HBL.out.size (below_alloc (Below.refl _ _) _)).drew⟩
  have HT : Calls Tryz.prog 40 #[.func (.func 41) #[] #[.pointer (some ⟨w.heap.size + 1 + 1 + 1, 0, none⟩), .pointer (some ⟨w.heap.size + 1, 0, none⟩)]] ((((w.alloc (.cells #[.slice none 0 0, .slice none 0 0, .int .i64 0, .slice none 0 0] 28)).alloc (.cells #[.slice none 0 0, .slice none 0 0, .int .i64 0, .slice none 0 0] 28)).alloc (.cells #[.slice (some ⟨q, 0, none⟩) bs.length cb, .int .i64 0, .int .i64 0, .int .i64 0] 90)).alloc (.cells #[.pointer (some ⟨w.heap.size + 1 + 1, 0, none⟩)] 88)) fun e w' =>
      e = .returned (.agg #[.int .i64 0, .int .i64 0]) ∧ ∃ A0 c0 A1 c1 A3 c3, w'.heap[w.heap.size]? = some (.cells #[.slice none 0 0, .slice none 0 0, .int .i64 0, .slice none 0 0] 28 (0, 0)) ∧ w'.heap[w.heap.size + 1]? = some (.cells #[.slice A0 x.1.length c0, .slice A1 x.2.1.length c1, .int .i64 x.2.2.1, .slice A3 x.2.2.2.length c3] 28 (0, 0)) ∧ ReadIt (w.heap.size + 1 + 1 + 1 + 1) x.1 x.2.1 x.2.2.1 x.2.2.2 (.agg #[.slice A0 x.1.length c0, .slice A1 x.2.1.length c1, .int .i64 x.2.2.1, .slice A3 x.2.2.2.length c3]) w' ∧ Below w.heap.size w w' := by
    refine (tried_run Tryz.func41 rfl #[] #[.pointer (some ⟨w.heap.size + 1 + 1 + 1, 0, none⟩), .pointer (some ⟨w.heap.size + 1, 0, none⟩)] _ (fun w1 => ∃ A0 c0 A1 c1 A3 c3, w1.heap[w.heap.size]? = some (.cells #[.slice none 0 0, .slice none 0 0, .int .i64 0, .slice none 0 0] 28 (0, 0)) ∧ w1.heap[w.heap.size + 1]? = some (.cells #[.slice A0 x.1.length c0, .slice A1 x.2.1.length c1, .int .i64 x.2.2.1, .slice A3 x.2.2.2.length c3] 28 (0, 0)) ∧ ReadIt (w.heap.size + 1 + 1 + 1 + 1) x.1 x.2.1 x.2.2.1 x.2.2.2 (.agg #[.slice A0 x.1.length c0, .slice A1 x.2.1.length c1, .int .i64 x.2.2.1, .slice A3 x.2.2.2.length c3]) w1 ∧ Below w.heap.size w w1) ?_).mono ?_
    · rw [Array.empty_append]
      refine hc.mono ?_
      rintro e w' ⟨rfl, A0, c0, A1, c1, A3, c3, h1, ⟨A0', c0', A1', c1', A3', c3', he, hk, g0, g1, g3⟩, hm⟩
      simp only [World.size_alloc] at g0 g1 g3
      refine ⟨⟨A0, c0, A1, c1, A3, c3, hm.blk b1 (by omega) (by omega), h1, ⟨A0', c0', A1', c1', A3', c3', he, hk, Kd.F_mono g0 fun k hk => by omega, Kd.F_mono g1 fun k hk => by omega, Kd.F_mono g3 fun k hk => by omega⟩, a5.trans (hm.below.mono (by omega))⟩, ?_⟩
      simp only [World.size_alloc]
      exact hm.blk b5 (by omega) (by omega)
    · rintro e w' h
      match e, h with
      | .returned v, ⟨hv, w1, ⟨A0, c0, A1, c1, A3, c3, h0, h1, ⟨A0', c0', A1', c1', A3', c3', he, hk, g0, g1, g3⟩, hb⟩, _, hw⟩ =>
        simp only [World.size_alloc] at hw
        subst hw hv
        have ho : ∀ k, k ≠ w.heap.size + 1 + 1 + 1 + 1 → ((w1.setCell ⟨w.heap.size + 1 + 1 + 1 + 1, 0, none⟩ (.int .i64 0)).setCell ⟨w.heap.size + 1 + 1 + 1 + 1, 1, none⟩ (.int .i64 0)).heap[k]? = w1.heap[k]? := fun k hk => by
          rw [Below.heap_setCell _ _ _ _ (by simpa using hk), Below.heap_setCell _ _ _ _ (by simpa using hk)]
        refine ⟨rfl, A0, c0, A1, c1, A3, c3, (ho _ (by omega)).trans h0, (ho _ (by omega)).trans h1, ⟨A0', c0', A1', c1', A3', c3', he, hk, Kd.F_step g0 fun k hk _ => ho k (by omega), Kd.F_step g1 fun k hk _ => ho k (by omega), Kd.F_step g3 fun k hk _ => ho k (by omega)⟩, (hb.setCell (by show w.heap.size ≤ w.heap.size + 1 + 1 + 1 + 1; omega) _).setCell (by show w.heap.size ≤ w.heap.size + 1 + 1 + 1 + 1; omega) _⟩
  have HTT := Aside0.mk HT
  clear HT hc hrs a1 a2 a3 a4 a5 b1 b2 b3 b4 b5 hq hrd hT hby hd
  go_enter Tryz.func14, Tryz.ntmps14
  go_wp2_with (go_at_call 40; refine HTT.out.mono ?_)
  rintro e w1 ⟨rfl, A0, c0, A1, c1, A3, c3, h0, h1, ⟨A0', c0', A1', c1', A3', c3', he, hk, g0, g1, g3⟩, hb⟩
  have hsz : w.heap.size + 1 < w1.heap.size := blk_lt h1
  have hA := below_alloc (Below.refl _ w1) (.cells #[.int .i64 0, .int .i64 0] 92)
  have h0 := (hA.block _ (blk_lt h0)).trans h0
  have h1 := (hA.block _ (blk_lt h1)).trans h1
  have z0 := (blk_cell h0 0).trans (show _ = some (.slice none 0 0) from rfl)
  have z1 := (blk_cell h0 1).trans (show _ = some (.slice none 0 0) from rfl)
  have z2 := (blk_cell h0 2).trans (show _ = some (.int .i64 0) from rfl)
  have z3 := (blk_cell h0 3).trans (show _ = some (.slice none 0 0) from rfl)
  have f0 : ∀ i, (w1.alloc (.cells #[.int .i64 0, .int .i64 0] 92)).frozen? ⟨w.heap.size, i, none⟩ = false := fun i => blk_frozen h0 i
  have s0 := (blk_cell h1 0).trans (show _ = some (.slice A0 x.1.length c0) from rfl)
  have s1 := (blk_cell h1 1).trans (show _ = some (.slice A1 x.2.1.length c1) from rfl)
  have s2 := (blk_cell h1 2).trans (show _ = some (.int .i64 x.2.2.1) from rfl)
  have s3 := (blk_cell h1 3).trans (show _ = some (.slice A3 x.2.2.2.length c3) from rfl)
  have HBK := Aside0.mk (put4_blk h0 (.slice A0 x.1.length c0) (.slice A1 x.2.1.length c1) (.int .i64 x.2.2.1) (.slice A3 x.2.2.2.length c3))
  have G0 := Aside0.mk (put4_F (N := w.heap.size) (Kd.F_below g0 hA) (by omega) (.slice A0 x.1.length c0) (.slice A1 x.2.1.length c1) (.int .i64 x.2.2.1) (.slice A3 x.2.2.2.length c3))
  have G1 := Aside0.mk (put4_F (N := w.heap.size) (Kd.F_below g1 hA) (by omega) (.slice A0 x.1.length c0) (.slice A1 x.2.1.length c1) (.int .i64 x.2.2.1) (.slice A3 x.2.2.2.length c3))
  have G3 := Aside0.mk (put4_F (N := w.heap.size) (Kd.F_below g3 hA) (by omega) (.slice A0 x.1.length c0) (.slice A1 x.2.1.length c1) (.int .i64 x.2.2.1) (.slice A3 x.2.2.2.length c3))
  have HBL := Aside0.mk (put4_below (N := w.heap.size) (below_then hb hb.size hA) (Nat.le_refl _) (.slice A0 x.1.length c0) (.slice A1 x.2.1.length c1) (.int .i64 x.2.2.1) (.slice A3 x.2.2.2.length c3))
  have HE := Aside0.mk he
  have HK := Aside0.mk hk
  clear he hk g0 g1 g3 hA hb h0 h1
  go_wp2
  have e0 := (blk_cell HBK.out 0).trans (show _ = some (.slice A0 x.1.length c0) from rfl)
  have e1 := (blk_cell HBK.out 1).trans (show _ = some (.slice A1 x.2.1.length c1) from rfl)
  have e2 := (blk_cell HBK.out 2).trans (show _ = some (.int .i64 x.2.2.1) from rfl)
  have e3 := (blk_cell HBK.out 3).trans (show _ = some (.slice A3 x.2.2.2.length c3) from rfl)
  refine bodyPost_ret (v := .tuple #[.agg #[.slice A0 x.1.length c0, .slice A1 x.2.1.length c1, .int .i64 x.2.2.1, .slice A3 x.2.2.2.length c3], .int .i64 0, .int .i64 0]) (by simp [results, Tryz.results14, go_sem, e0, e1, e2, e3]) rfl ?_
  exact ⟨_, rfl, ⟨A0', c0', A1', c1', A3', c3', HE.out, HK.out, Kd.F_mono G0.out fun k hk => by omega, Kd.F_mono G1.out fun k hk => by omega, Kd.F_mono G3.out fun k hk => by omega⟩, HBL.out⟩
end Go.Proofs.YtpnkifincadakaaGreatDoor.Wr
end
section
namespace Go.Pk
open Go.Proofs.YtpnkifincadakaaGreatDoor.PPackSpecs
open Go.Proofs.YtpnkifincadakaaGreatDoor.Wr (magic)
def S3 (bs : List Int) (lex : List S42) (names : List ByteArray) (st : Int) (prods : List S67) (a : Nat) : Rdd (List S42 × List ByteArray × Int × List S67) := (endD bs a).bind fun _ a => .ok (lex, names, st, prods) a
def S2 (bs : List Int) (lex : List S42) (names : List ByteArray) (a : Nat) : Rdd (List S42 × List ByteArray × Int × List S67) :=
  (numD bs a 1 0 ((names.length : Int) - 1)).bind fun st a => (numD bs a 2 0 512).bind fun np a => (manyD (one (prodD bs lex.length names.length)) np.toNat () a).bind fun prods a => S3 bs lex names st prods.1 a
def S1 (bs : List Int) (lex : List S42) (a : Nat) : Rdd (List S42 × List ByteArray × Int × List S67) :=
  (numD bs a 1 0 128).bind fun nn a => (manyD (one (nameD bs)) nn.toNat () a).bind fun names a => S2 bs lex names.1 a
theorem bind_congr {α β : Type} {r : Rdd α} {f g : α → Nat → Rdd β} (h : ∀ x a, r = .ok x a → f x a = g x a) : r.bind f = r.bind g := by
  cases r with
  | ok x a => exact h x a rfl
  | bad e p => rfl
theorem many_len {α σ : Type} {on : σ → Nat → Rdd (α × σ)} {n : Nat} {s : σ} {a : Nat} {x : List α × σ} {a' : Nat} (h : manyD on n s a = .ok x a') : x.1.length = n := (many_all (P := fun _ => True) (fun _ _ _ _ _ _ => trivial) n s a x.1 x.2 a' h).1
theorem spec_eq (bs : List Int) : specD bs = (magicD bs magic 0).bind fun _ a => (numD bs a 1 0 64).bind fun nl a => (manyD (one (ruleD bs)) nl.toNat () a).bind fun lex a => S1 bs lex.1 a := by
  unfold specD S1 S2 S3
  refine bind_congr fun _ a _ => bind_congr fun nl a hnl => bind_congr fun lex a hlex => bind_congr fun nn a hnn => bind_congr fun names a hnames => ?_
  obtain ⟨h0, _⟩ := (numD_ok hnn).2.2.2
  have h1 := many_len hlex
  have h2 := many_len hnames
  rw [h1, h2, show ((nn.toNat : Nat) : Int) = nn by omega]
theorem many_one {α β : Type} {f : Nat → Rdd α} (m : Nat) (a : Nat) (G : List α × Unit → Nat → Rdd β) : (manyD (one f) (m + 1) () a).bind G = (f a).bind fun x a1 => (manyD (one f) m () a1).bind fun l a2 => G (x :: l.1, ()) a2 := by
  rw [many_succ]
  unfold one
  cases f a <;> rfl
theorem rule_bind {β : Type} (bs : List Int) (a : Nat) (G : S42 → Nat → Rdd β) : (ruleD bs a).bind G = (numD bs a 1 0 1).bind fun t a1 => (nameD bs a1).bind fun s a2 => (patternD bs a2).bind fun e a3 => G ⟨s, decide (t = 1), e⟩ a3 := by
  unfold ruleD
  cases numD bs a 1 0 1 with
  | bad e p => rfl
  | ok t a1 =>
    simp only [Rdd.bind_ok]
    cases nameD bs a1 with
    | bad e p => rfl
    | ok s a2 =>
      simp only [Rdd.bind_ok]
      cases patternD bs a2 <;> rfl
theorem prod_bind {β : Type} (bs : List Int) (nl nn : Nat) (a : Nat) (G : S67 → Nat → Rdd β) : (prodD bs nl nn a).bind G = (numD bs a 1 0 ((nn : Int) - 1)).bind fun l a1 => (numD bs a1 1 0 16).bind fun m a2 => (manyD (one (symD bs nl nn)) m.toNat () a2).bind fun r a3 => G ⟨l, r.1⟩ a3 := by
  unfold prodD
  cases numD bs a 1 0 ((nn : Int) - 1) with
  | bad e p => rfl
  | ok t a1 =>
    simp only [Rdd.bind_ok]
    cases numD bs a1 1 0 16 with
    | bad e p => rfl
    | ok s a2 =>
      simp only [Rdd.bind_ok]
      cases manyD (one (symD bs nl nn)) s.toNat () a2 <;> rfl
theorem sym_bind {β : Type} (bs : List Int) (nl nn : Nat) (a : Nat) (G : S85 → Nat → Rdd β) : (symD bs nl nn a).bind G = (numD bs a 1 0 255).bind fun k a1 => if k < 1 ∨ 3 < k then .bad 180 a else (numD bs a1 1 0 255).bind fun n a2 => if symOk ⟨k, n⟩ nl nn = true then G ⟨k, n⟩ a2 else .bad 180 a := by
  unfold symD
  cases numD bs a 1 0 255 with
  | bad e p => rfl
  | ok k a1 =>
    simp only [Rdd.bind_ok]
    split
    · rfl
    · cases numD bs a1 1 0 255 with
      | bad e p => rfl
      | ok n a2 =>
        simp only [Rdd.bind_ok]
        split <;> rfl
end Go.Pk
namespace Go.Proofs.YtpnkifincadakaaGreatDoor.Wr
open Go.RowKit Go.Pk Go.Proofs.YtpnkifincadakaaGreatDoorW.PrintWords Go.Proofs.YtpnkifincadakaaGreatDoor.PPackSpecs
theorem ES.base {y : Nat} {A : Option Addr} {cap : Nat} {bs : List Int} {st : Rdd Unit} {w w' : World} (h : ES y A cap bs st w) {B : Nat} (k : Below B w w') (hy : y < B) (hA : ∀ p, A = some p → 0 < bs.length → p.block < B) : ES y A cap bs st w' := by
  obtain ⟨t, hb, h3, h4⟩ := h.box
  refine ⟨⟨t, (k.block _ hy).trans hb, h3, h4⟩, fun j x hj => ?_, h.nl, h.cap, h.lim, h.byt, h.ne0⟩
  obtain ⟨p, hA', hp, hc⟩ := h.row j x hj
  refine ⟨p, hA', hp, ?_⟩
  rw [cell_same (k.block _ (by rw [add_block]; exact hA p hA' (by have := (List.getElem?_eq_some_iff.1 hj).1; omega)))]
  exact hc
structure Lp (Y S : Nat) (A : Option Addr) (cap : Nat) (bs : List Int) (st : Rdd Unit) (cs : Array Value) (w1 w : World) : Prop where
  es : ES Y A cap bs st w
  sb : w.heap[S]? = some (.cells cs 28 (0, 0))
  mv : Mv2 Y S w1 w
  sl : S < w1.heap.size
  ys : Y < S
  la : ∀ p, A = some p → 0 < bs.length → p.block < Y
section
variable {Y S : Nat} {A : Option Addr} {cap : Nat} {bs : List Int} {st st' : Rdd Unit} {cs : Array Value} {w1 w w' : World}
theorem Lp.start (h1 : ES Y A cap bs st w) (h2 : w.heap[S]? = some (.cells cs 28 (0, 0))) (h3 : Y < S) (h4 : ∀ p, A = some p → 0 < bs.length → p.block < Y) : Lp Y S A cap bs st cs w w := ⟨h1, h2, Mv2.refl _ _ _, blk_lt h2, h3, h4⟩
theorem Lp.num (h : Lp Y S A cap bs st cs w1 w) (k1 : ES Y A cap bs st' w') (k2 : Mv Y w w') : Lp Y S A cap bs st' cs w1 w' :=
  ⟨k1, k2.blk h.sb (by have := h.ys; omega), h.mv.trans (k2.two S), h.sl, h.ys, h.la⟩
theorem Lp.put (h : Lp Y S A cap bs st cs w1 w) (i : Nat) (u : Value) (cs' : Array Value) (e : cs.setIfInBounds i u = cs') : Lp Y S A cap bs st cs' w1 (w.setCell ⟨S, i, none⟩ u) := by
  have h1 := h.ys
  exact ⟨h.es.put (by show S ≠ Y; omega) (fun p hp hl => by have := h.la p hp hl; show p.block ≠ S; omega) u, blk_put h.sb i u e, h.mv.setP i u, h.sl, h1, h.la⟩
theorem Lp.base (h : Lp Y S A cap bs st cs w1 w) {B : Nat} (k : Below B w w') (hB : w1.heap.size ≤ B) : Lp Y S A cap bs st cs w1 w' := by
  have h1 := h.ys
  have h2 := h.sl
  refine ⟨h.es.base k (by omega) (fun p hp hl => by have := h.la p hp hl; omega), (k.block _ (by omega)).trans h.sb, ⟨fun i hi hne hnp => (k.block i (by omega)).trans (h.mv.keep i hi hne hnp), Nat.le_trans h.mv.size k.size, h.mv.below.trans (k.mono (by omega))⟩, h2, h1, h.la⟩
theorem Lp.cell (h : Lp Y S A cap bs st cs w1 w) (i : Nat) (u : Value) (e : cs[i]? = some u) : w.cell? ⟨S, i, none⟩ = some u := (blk_cell h.sb i).trans e
theorem Lp.frz (h : Lp Y S A cap bs st cs w1 w) : ∀ i, w.frozen? ⟨S, i, none⟩ = false := fun i => blk_frozen h.sb i
end
theorem N_mv1 {α : Type} {d : Kd α} {e g B : Nat} {w w' : World} {v : Value} {xs : List α} (h : Kd.N d e w B (fun k => B ≤ k) v xs) (hm : Mv g w w') (hg : g < w.heap.size) (hB : g < B) : Kd.N d e w' B (fun k => B ≤ k) v xs :=
  Kd.N_step h fun k hk hlt => hm.keep k hlt (by omega)
theorem F_keep {α : Type} {d : Kd α} {Y S B : Nat} {w1 w : World} {A : Option Addr} {n : Nat} {xs : List α} (h : Kd.F d w1 (fun k => S < k ∧ k < B) A n xs) (hm : Mv2 Y S w1 w) (hys : Y < S) : Kd.F d w (fun k => S < k ∧ k < B) A n xs :=
  Kd.F_step h fun k hk hlt => hm.keep k hlt (by omega) (by omega)
theorem F_keep1 {α : Type} {d : Kd α} {Y S B : Nat} {w1 w : World} {A : Option Addr} {n : Nat} {xs : List α} (h : Kd.F d w1 (fun k => S < k ∧ k < B) A n xs) (hm : Mv Y w1 w) (hys : Y < S) : Kd.F d w (fun k => S < k ∧ k < B) A n xs :=
  Kd.F_step h fun k hk hlt => hm.keep k hlt (by omega)
theorem F_keepS {α : Type} {d : Kd α} {S B i : Nat} {w : World} {A : Option Addr} {n : Nat} {xs : List α} (h : Kd.F d w (fun k => S < k ∧ k < B) A n xs) (u : Value) : Kd.F d (w.setCell ⟨S, i, none⟩ u) (fun k => S < k ∧ k < B) A n xs :=
  Kd.F_step h fun k hk hlt => Below.heap_setCell _ _ _ _ (show k ≠ S by omega)
end Go.Proofs.YtpnkifincadakaaGreatDoor.Wr
end
