/- Proved: part 30 of the proof of PackRound (Rd11, Rd12, Rd13, Rd14, Rd15, Rd16, Rd17). Conditions: each theorem states its own. -/
import Derived.Test.YtpnkifincadakaaGreatDoorR7
import Derived.Test.YtpnkifincadakaaGreatDoorR15
import Derived.Test.YtpnkifincadakaaGreatDoorR16
import Derived.Test.YtpnkifincadakaaGreatDoorR29
set_option linter.unusedVariables false
set_option linter.unusedSimpArgs false
section
namespace Go.Proofs.YtpnkifincadakaaGreatDoor.Wr
open Go.RowKit Go.Pk Go.Proofs.YtpnkifincadakaaGreatDoorW.PrintWords Go.Proofs.YtpnkifincadakaaGreatDoor.PPackSpecs
theorem Mv2.one {g P : Nat} {w w1 w3 : World} (h : Mv2 g P w1 w3) (hm : Mv g w w1) (hP : w.heap.size ≤ P) (hg : g < w.heap.size) : Mv g w w3 :=
  ⟨fun k hk hne => (h.keep k (Nat.lt_of_lt_of_le hk hm.size) hne (by omega)).trans (hm.keep k hk hne), Nat.le_trans hm.size h.size, hm.below.trans (by have := h.below; rwa [show min g P = g by omega] at this)⟩
abbrev put8 (w : World) (N : Nat) (s : ByteArray) (t : Bool) (a b d f g : Int) (v : Value) : World := (((((((w.setCell ⟨N, 0, none⟩ (.string s)).setCell ⟨N, 1, none⟩ (.bool t)).setCell ⟨N, 2, none⟩ (.int .i64 a)).setCell ⟨N, 3, none⟩ (.int .i64 b)).setCell ⟨N, 4, none⟩ (.int .i64 d)).setCell ⟨N, 5, none⟩ (.int .i64 f)).setCell ⟨N, 6, none⟩ (.int .i64 g)).setCell ⟨N, 7, none⟩ v
theorem put8_blk {w : World} {N : Nat} (h : w.heap[N]? = some (.cells #[.string ⟨#[]⟩, .bool false, .int .i64 0, .int .i64 0, .int .i64 0, .int .i64 0, .int .i64 0, .slice none 0 0] 42 (0, 0))) (s : ByteArray) (t : Bool) (a b d f g : Int) (v : Value) : (put8 w N s t a b d f g v).heap[N]? = some (.cells #[.string s, .bool t, .int .i64 a, .int .i64 b, .int .i64 d, .int .i64 f, .int .i64 g, v] 42 (0, 0)) :=
  blk_put (cs := #[.string s, .bool t, .int .i64 a, .int .i64 b, .int .i64 d, .int .i64 f, .int .i64 g, .slice none 0 0]) (blk_put (cs := #[.string s, .bool t, .int .i64 a, .int .i64 b, .int .i64 d, .int .i64 f, .int .i64 0, .slice none 0 0]) (blk_put (cs := #[.string s, .bool t, .int .i64 a, .int .i64 b, .int .i64 d, .int .i64 0, .int .i64 0, .slice none 0 0]) (blk_put (cs := #[.string s, .bool t, .int .i64 a, .int .i64 b, .int .i64 0, .int .i64 0, .int .i64 0, .slice none 0 0]) (blk_put (cs := #[.string s, .bool t, .int .i64 a, .int .i64 0, .int .i64 0, .int .i64 0, .int .i64 0, .slice none 0 0]) (blk_put (cs := #[.string s, .bool t, .int .i64 0, .int .i64 0, .int .i64 0, .int .i64 0, .int .i64 0, .slice none 0 0]) (blk_put (cs := #[.string s, .bool false, .int .i64 0, .int .i64 0, .int .i64 0, .int .i64 0, .int .i64 0, .slice none 0 0]) (blk_put h 0 _ rfl) 1 _ rfl) 2 _ rfl) 3 _ rfl) 4 _ rfl) 5 _ rfl) 6 _ rfl) 7 _ rfl
theorem put8_other {w : World} {N k : Nat} (hk : k ≠ N) (s : ByteArray) (t : Bool) (a b d f g : Int) (v : Value) : (put8 w N s t a b d f g v).heap[k]? = w.heap[k]? := by
  unfold put8
  rw [Below.heap_setCell _ _ _ _ (by simpa using hk), Below.heap_setCell _ _ _ _ (by simpa using hk), Below.heap_setCell _ _ _ _ (by simpa using hk), Below.heap_setCell _ _ _ _ (by simpa using hk), Below.heap_setCell _ _ _ _ (by simpa using hk), Below.heap_setCell _ _ _ _ (by simpa using hk), Below.heap_setCell _ _ _ _ (by simpa using hk), Below.heap_setCell _ _ _ _ (by simpa using hk)]
theorem put8_rs {g q cb : Nat} {bs : List Int} {A r n : Nat} {w : World} (h : RS g q cb bs A r n w) {N : Nat} (hg : N ≠ g) (hq : N ≠ q) (s : ByteArray) (t : Bool) (a b d f e : Int) (v : Value) : RS g q cb bs A r n (put8 w N s t a b d f e v) :=
  (((((((h.put (p := ⟨N, 0, none⟩) hg hq _).put (p := ⟨N, 1, none⟩) hg hq _).put (p := ⟨N, 2, none⟩) hg hq _).put (p := ⟨N, 3, none⟩) hg hq _).put (p := ⟨N, 4, none⟩) hg hq _).put (p := ⟨N, 5, none⟩) hg hq _).put (p := ⟨N, 6, none⟩) hg hq _).put (p := ⟨N, 7, none⟩) hg hq _
theorem put8_mv {g : Nat} {w0 w : World} (h : Mv g w0 w) (hg : g < w0.heap.size) {N : Nat} (hN : w0.heap.size ≤ N) (s : ByteArray) (t : Bool) (a b d f e : Int) (v : Value) : Mv g w0 (put8 w N s t a b d f e v) :=
  (((((((h.far hg (p := ⟨N, 0, none⟩) hN _).far hg (p := ⟨N, 1, none⟩) hN _).far hg (p := ⟨N, 2, none⟩) hN _).far hg (p := ⟨N, 3, none⟩) hN _).far hg (p := ⟨N, 4, none⟩) hN _).far hg (p := ⟨N, 5, none⟩) hN _).far hg (p := ⟨N, 6, none⟩) hN _).far hg (p := ⟨N, 7, none⟩) hN _
theorem put8_F {α : Type} {d0 : Kd α} {w : World} {ok : Nat → Prop} {A : Option Addr} {n N : Nat} {xs : List α} (h : Kd.F d0 w ok A n xs) (hk : ∀ k, ok k → k ≠ N) (s : ByteArray) (t : Bool) (a b d f e : Int) (v : Value) : Kd.F d0 (put8 w N s t a b d f e v) ok A n xs :=
  Kd.F_step h fun k hok _ => put8_other (hk k hok) s t a b d f e v
theorem chk_zero {e : S40} (h : chk e = 0) : sizeE e ≤ 4096 ∧ depE e ≤ 64 ∧ rightE e = true := by
  unfold chk at h
  split at h
  · exact absurd h (by decide)
  · split at h
    · exact absurd h (by decide)
    · split at h
      · exact absurd h (by decide)
      · rename_i h1 h2 h3
        exact ⟨by omega, by omega, by cases hr : rightE e with | true => rfl | false => exact absurd hr h3⟩
set_option maxHeartbeats 16000000 in
set_option maxRecDepth 100000 in
theorem rule87 (g q cb : Nat) (bs : List Int) (a r n : Nat) (x : S42) (rest : List Int) (w : World) (h : RS g q cb bs a r n w) (hs : x.f0.size ≤ 64) (hc : chk x.f2 = 0) (hd : bs.drop a = encRule x ++ rest) (hp : rest ≠ []) :
    Calls Tryz.prog 87 #[.pointer (some ⟨g, 0, none⟩)] w fun e w' => ∃ A c, e = .returned (.agg #[.string x.f0, .bool x.f1, .int .i64 x.f2.f0, .int .i64 x.f2.f1, .int .i64 x.f2.f2, .int .i64 x.f2.f3, .int .i64 x.f2.f4, .slice A x.f2.f5.length c]) ∧ x.f2.f5.length ≤ c ∧ Kd.F k40 w' (fun k => w.heap.size ≤ k) A x.f2.f5.length x.f2.f5 ∧ RS g q cb bs (a + (encRule x).length) r n w' ∧ Mv g w w' := by
  obtain ⟨hz1, hz2, hz3⟩ := chk_zero hc
  obtain ⟨b, hb⟩ : ∃ b : Int, b = if x.f1 = true then 1 else 0 := ⟨_, rfl⟩
  have hbb : (b = 1 ∧ x.f1 = true) ∨ (b = 0 ∧ x.f1 = false) := by cases hx : x.f1 <;> simp [hb, hx]
  have hd0 : bs.drop a = b :: (encName x.f0 ++ (encE x.f2 ++ rest)) := by
    rw [hd]
    unfold encRule
    rw [← hb, show b % 256 = b by omega]
    simp
  have hd1 : bs.drop (a + 1) = encName x.f0 ++ (encE x.f2 ++ rest) := by rw [← List.drop_drop, hd0]; rfl
  have hd2 : bs.drop (a + 1 + (encName x.f0).length) = encE x.f2 ++ rest := drop_more hd1
  have hel : (encRule x).length = 1 + (encName x.f0).length + (encE x.f2).length := by simp [encRule]; omega
  have hne2 : encE x.f2 ++ rest ≠ [] := by simp [hp]
  have hll := left_len hd0 (by simp)
  have hpp := List.length_pos_iff.2 hp
  simp only [List.length_cons, List.length_append] at hll
  rw [hel]
  have hgl := h.glt
  have hql := h.qlt
  have hA := below_alloc (Below.refl _ w) (.cells #[.string ⟨#[]⟩, .bool false, .int .i64 0, .int .i64 0, .int .i64 0, .int .i64 0, .int .i64 0, .slice none 0 0] 42)
  have HU := Aside0.mk (upto85 g q cb bs a r n 1 1 b _ (h.below hA) (by omega) (by omega) (by omega) (le1 hd0) (by omega))
  have HNM := Aside0.mk fun w' (h' : RS g q cb bs (a + 1) r n w') => name89 g q cb bs (a + 1) r n x.f0 _ w' h' hs hd1 hne2
  have HRD := Aside0.mk fun P w' (h' : RS g q cb bs (a + 1 + (encName x.f0).length) r n w') (hp' : PS g P 0 w') => read_all (sizeE x.f2) x.f2 (Nat.le_refl _) hz3 g q cb bs _ r n P 0 1 rest w' h' hp' (by omega) (by omega) (by omega) (by omega) hd2 hp
  have HCH := Aside0.mk fun A c w' h' hc' => check75 x.f2 A c w' h' hc'
  rw [hc] at HCH
  have B0 := Aside0.mk (blk_new w (.cells #[.string ⟨#[]⟩, .bool false, .int .i64 0, .int .i64 0, .int .i64 0, .int .i64 0, .int .i64 0, .slice none 0 0] 42))
  have M0 := Aside0.mk (Mv.of_below hA (Nat.le_of_lt hgl))
  have HBB := Aside0.mk hbb
  clear h hd hd0 hd1 hd2 hel hne2 hll hA hz1 hz2 hz3 hc hb hbb
  obtain ⟨x0, x1, x2⟩ := x
  dsimp only at *
  go_enter Tryz.func87, Tryz.ntmps87
  go_wp2_with (go_at_call 85; refine HU.out.mono ?_)
  first | rintro e' w1 rfl k1 k2 | rintro e' w1 ⟨rfl, k1, k2⟩
  have R1 := Aside0.mk k1
  have M1 := Aside0.mk (M0.out.trans k2)
  have B1 := Aside0.mk (k2.blk B0.out (by omega))
  clear k1 k2
  go_wp2_with (go_at_call 89; refine (HNM.out _ R1.out).mono ?_)
  first | rintro e' w2 rfl k1 k2 | rintro e' w2 ⟨rfl, k1, k2⟩
  have c1 : w2.cell? ⟨g, 1, none⟩ = some (.int .i64 (a + 1 + (encName x0).length : Nat)) := (blk_cell k1.box 1).trans rfl
  have hA2 := below_alloc (Below.refl _ w2) (.cells #[.pointer (some ⟨g, 0, none⟩), .int .i64 0] 268)
  have R2 := Aside0.mk (k1.below hA2)
  have M2 := Aside0.mk ((M1.out.trans k2).trans (Mv.of_below hA2 (Nat.le_of_lt k1.glt)))
  have B2 := Aside0.mk ((hA2.block _ (blk_lt (k2.blk B1.out (by omega)))).trans (k2.blk B1.out (by omega)))
  have P2 := Aside0.mk (blk_new w2 (.cells #[.pointer (some ⟨g, 0, none⟩), .int .i64 0] 268))
  have hw2 : w.heap.size < w2.heap.size := blk_lt (k2.blk B1.out (by omega))
  clear k1 k2 hA2
  go_wp2_with (go_at_call 152; refine (HRD.out _ _ R2.out P2.out).mono ?_)
  rintro e' w3 ⟨A, c, rfl, lc, hF, k1, k2, k3⟩
  have B3 := Aside0.mk (k3.blk B2.out (by omega) (by omega))
  have R3 := Aside0.mk k1
  have M3 := Aside0.mk (k3.one M2.out (by omega) hgl)
  have F3 := Aside0.mk hF
  clear k1 k2 k3 hF
  go_wp2_with (go_at_call 75; refine (HCH.out A c _ (Kd.F_now (Kd.F_below F3.out (below_alloc (Below.refl _ _) _))) lc).mono ?_)
  first | rintro e' w4 rfl k4 | rintro e' w4 ⟨rfl, k4⟩
  have hA3 := below_alloc (Below.refl _ w3) (.cells #[.int .i64 x2.f0, .int .i64 x2.f1, .int .i64 x2.f2, .int .i64 x2.f3, .int .i64 x2.f4, .slice A x2.f5.length c] 40)
  have E4 := (k4.block _ (blk_lt (blk_new w3 (.cells #[.int .i64 x2.f0, .int .i64 x2.f1, .int .i64 x2.f2, .int .i64 x2.f3, .int .i64 x2.f4, .slice A x2.f5.length c] 40)))).trans (blk_new w3 (.cells #[.int .i64 x2.f0, .int .i64 x2.f1, .int .i64 x2.f2, .int .i64 x2.f3, .int .i64 x2.f4, .slice A x2.f5.length c] 40))
  have hb34 := below_then hA3 hA3.size k4
  have B4 := (hb34.block _ (blk_lt B3.out)).trans B3.out
  have c0 : w4.cell? ⟨w3.heap.size, 0, none⟩ = some (.int .i64 x2.f0) := (blk_cell E4 0).trans rfl
  have c1 : w4.cell? ⟨w3.heap.size, 1, none⟩ = some (.int .i64 x2.f1) := (blk_cell E4 1).trans rfl
  have c2 : w4.cell? ⟨w3.heap.size, 2, none⟩ = some (.int .i64 x2.f2) := (blk_cell E4 2).trans rfl
  have c3 : w4.cell? ⟨w3.heap.size, 3, none⟩ = some (.int .i64 x2.f3) := (blk_cell E4 3).trans rfl
  have c4 : w4.cell? ⟨w3.heap.size, 4, none⟩ = some (.int .i64 x2.f4) := (blk_cell E4 4).trans rfl
  have c5 : w4.cell? ⟨w3.heap.size, 5, none⟩ = some (.slice A x2.f5.length c) := (blk_cell E4 5).trans rfl
  have f0 : w4.frozen? ⟨w.heap.size, 0, none⟩ = false := blk_frozen B4 0
  have f1 : w4.frozen? ⟨w.heap.size, 1, none⟩ = false := blk_frozen B4 1
  have f2 : w4.frozen? ⟨w.heap.size, 2, none⟩ = false := blk_frozen B4 2
  have f3 : w4.frozen? ⟨w.heap.size, 3, none⟩ = false := blk_frozen B4 3
  have f4 : w4.frozen? ⟨w.heap.size, 4, none⟩ = false := blk_frozen B4 4
  have f5 : w4.frozen? ⟨w.heap.size, 5, none⟩ = false := blk_frozen B4 5
  have f6 : w4.frozen? ⟨w.heap.size, 6, none⟩ = false := blk_frozen B4 6
  have f7 : w4.frozen? ⟨w.heap.size, 7, none⟩ = false := blk_frozen B4 7
  have z0 : w4.cell? ⟨w.heap.size, 0, none⟩ = some (.string ⟨#[]⟩) := (blk_cell B4 0).trans rfl
  have z1 : w4.cell? ⟨w.heap.size, 1, none⟩ = some (.bool false) := (blk_cell B4 1).trans rfl
  have z2 : w4.cell? ⟨w.heap.size, 2, none⟩ = some (.int .i64 0) := (blk_cell B4 2).trans rfl
  have z3 : w4.cell? ⟨w.heap.size, 3, none⟩ = some (.int .i64 0) := (blk_cell B4 3).trans rfl
  have z4 : w4.cell? ⟨w.heap.size, 4, none⟩ = some (.int .i64 0) := (blk_cell B4 4).trans rfl
  have z5 : w4.cell? ⟨w.heap.size, 5, none⟩ = some (.int .i64 0) := (blk_cell B4 5).trans rfl
  have z6 : w4.cell? ⟨w.heap.size, 6, none⟩ = some (.int .i64 0) := (blk_cell B4 6).trans rfl
  have z7 : w4.cell? ⟨w.heap.size, 7, none⟩ = some (.slice none 0 0) := (blk_cell B4 7).trans rfl
  have R4 := Aside0.mk (R3.out.below hb34)
  have M4 := Aside0.mk (M3.out.trans (Mv.of_below hb34 (by have := M3.out.size; omega)))
  have F4 := Aside0.mk (Kd.F_below F3.out hb34)
  have B4 := Aside0.mk B4
  clear hA3 E4 hb34 k4
  rcases HBB.out with ⟨rfl, rfl⟩ | ⟨rfl, rfl⟩
  all_goals
    go_wp2
    refine bodyPost_ret (results_cell_row rfl _ _ w.heap.size 42 #[.string x0, .bool _, .int .i64 x2.f0, .int .i64 x2.f1, .int .i64 x2.f2, .int .i64 x2.f3, .int .i64 x2.f4, .slice A x2.f5.length c] (0, 0) _ rfl (put8_blk B4.out _ _ _ _ _ _ _ _) Tryz.underlying42 rfl (by kernel_rfl)) rfl ?_
    refine ⟨A, c, rfl, lc, ?_, ?_, ?_⟩
    · exact Kd.F_mono (put8_F F4.out (fun k hk e => by simp at hk; omega) _ _ _ _ _ _ _ _) fun k hk => by simp at hk; omega
    · rw [show a + (1 + (encName x0).length + (encE x2).length) = a + 1 + (encName x0).length + (encE x2).length by omega]
      exact put8_rs R4.out (by omega) (by omega) _ _ _ _ _ _ _ _
    · exact put8_mv M4.out hgl (Nat.le_refl _) _ _ _ _ _ _ _ _
end Go.Proofs.YtpnkifincadakaaGreatDoor.Wr
end
section
namespace Go.Proofs.YtpnkifincadakaaGreatDoor.Wr
open Go.RowKit Go.Pk Go.Proofs.YtpnkifincadakaaGreatDoorW.PrintWords Go.Proofs.YtpnkifincadakaaGreatDoor.PPackSpecs
set_option maxHeartbeats 8000000 in
set_option maxRecDepth 100000 in
theorem list86 (g q cb : Nat) (bs : List Int) (a r n : Nat) (xs : List S42) (rest : List Int) (w : World) (h : RS g q cb bs a r n w) (hx : ∀ x, x ∈ xs → x.f0.size ≤ 64 ∧ chk x.f2 = 0) (hl : xs.length ≤ 64) (hd : bs.drop a = xs.flatMap encRule ++ rest) (hp : rest ≠ []) :
    Calls Tryz.prog 86 #[.int .i64 xs.length, .func (.func 87) #[.pointer (some ⟨g, 0, none⟩)] #[]] w fun e w' => ∃ A c, e = .returned (.slice A xs.length c) ∧ xs.length ≤ c ∧ Kd.F k42 w' (fun k => w.heap.size ≤ k) A xs.length xs ∧ RS g q cb bs (a + (xs.flatMap encRule).length) r n w' ∧ Mv g w w' := by
  have H := Aside0.mk h
  have HX := Aside0.mk hx
  have HD := Aside0.mk hd
  have hgl := h.glt
  clear h hx hd
  go_enter Tryz.func86, Tryz.ntmps86
  go_wp2
  go_loopw [5, 7] (fun v i wr => ∃ k : Nat, k ≤ xs.length ∧ i = .int .i64 k ∧ Aside0 (Kd.N k42 42 wr w.heap.size (fun k => w.heap.size ≤ k) v (xs.take k)) ∧ Aside0 (RS g q cb bs (a + ((xs.take k).flatMap encRule).length) r n wr ∧ bs.drop (a + ((xs.take k).flatMap encRule).length) = (xs.drop k).flatMap encRule ++ rest) ∧ Aside0 (Mv g w wr)) (fun _ i _ => xs.length - (intOf i).toNat)
  case atStart => exact ⟨0, Nat.zero_le _, rfl, ⟨Kd.N_nil _ _ _ _ _⟩, ⟨H.out, by simpa using HD.out⟩, ⟨Mv.refl _ _⟩⟩
  case round =>
    obtain ⟨k, hk, rfl, hN, hR, hM⟩ := hrel
    by_cases hlt : k < xs.length
    · have hdk := hR.out.2
      rw [flat_take encRule xs k hlt, List.append_assoc] at hdk
      have hrest : (xs.drop (k + 1)).flatMap encRule ++ rest ≠ [] := by simp [hp]
      have HS := Aside0.mk (rule87 g q cb bs _ r n xs[k] _ wr hR.out.1 (HX.out _ (List.getElem_mem hlt)).1 (HX.out _ (List.getElem_mem hlt)).2 hdk hrest)
      have hsn := flat_snoc' encRule xs k hlt
      have hdn := drop_more hdk
      have HT : Aside0 (xs.take (k + 1) = xs.take k ++ [xs[k]]) := ⟨List.take_succ_eq_append_getElem hlt⟩
      rw [Nat.add_assoc] at hdn
      have HSN := Aside0.mk hsn
      have HDN := Aside0.mk hdn
      have hlen : (xs.take k).length = k := by rw [List.length_take]; omega
      have HLEN := Aside0.mk hlen
      clear hdk hrest hsn hdn hlen
      generalize xs[k] = x at *
      go_wp2_with fail
      refine HS.out.mono ?_
      first | rintro e w5 A1 c1 rfl l1 g1 h1 h2 | rintro e w5 ⟨A1, c1, rfl, l1, g1, h1, h2⟩
      have HR5 := Aside0.mk h1
      have HM5 := Aside0.mk (hM.out.trans h2)
      have HN5 := Aside0.mk (N_mv hN.out h2 hgl)
      have hsz := h2.size
      clear h1 h2
      go_wp2_with (at_builtin; refine Kd.N_append k42 (w0 := w5) w.heap.size rfl (.tmp 9) (.tmp 12) 24 42 (.agg #[.string ⟨#[]⟩, .bool false, .int .i64 0, .int .i64 0, .int .i64 0, .int .i64 0, .int .i64 0, .slice none 0 0]) 88 rfl Tryz.underlying24 info42 rfl (by decide) (by omega) u5 (xs.take k) x [.string x.f0, .bool x.f1, .int .i64 x.f2.f0, .int .i64 x.f2.f1, .int .i64 x.f2.f2, .int .i64 x.f2.f3, .int .i64 x.f2.f4, .slice A1 x.f2.f5.length c1] (fun k => w.heap.size ≤ k) (fun k => wr.heap.size ≤ k) rfl rfl (k42_mkF _ _ x l1 g1) ?o1 ?o2 HN5.out (Below.refl _ _) ?o3 ?o4 ?_)
      case o1 => exact fun k hk => ⟨Nat.le_trans hM.out.size hk, fun e => absurd (Kd.N_lt hN.out k e.symm) (by omega)⟩
      case o2 => exact fun k hk => Nat.le_trans HM5.out.size hk
      case o3 => exact HM5.out.size
      case o4 => rw [HLEN.out]; omega
      intro v1 w6 hN6 hB6 _ _
      have HN6 := Aside0.mk hN6
      have HR6 := Aside0.mk (HR5.out.base H.out hB6 HM5.out.size)
      have HM6 := Aside0.mk (HM5.out.base hB6 hgl)
      clear hN6 hB6
      go_wp2
      go_roundw
      case rel => exact ⟨k + 1, by omega, by go_num, ⟨by rw [HT.out]; exact HN6.out⟩, ⟨by rw [HSN.out, ← Nat.add_assoc]; exact HR6.out, by rw [HSN.out]; exact HDN.out⟩, HM6⟩
      case measure => simp [intOf]; omega
    · obtain rfl : k = xs.length := by omega
      rw [List.take_length] at hN hR
      obtain ⟨A, c, rfl, lc, _⟩ := Kd.N_reads hN.out
      have HF := Aside0.mk (Kd.N_F hN.out)
      go_wp2
      go_ret
      exact ⟨A, c, rfl, by omega, HF.out, hR.out.1, hM.out⟩
end Go.Proofs.YtpnkifincadakaaGreatDoor.Wr
end
section
namespace Go.Proofs.YtpnkifincadakaaGreatDoor.Wr
open Go.RowKit Go.Pk Go.Am Go.Proofs.YtpnkifincadakaaGreatDoorW.PrintWords Go.Proofs.YtpnkifincadakaaGreatDoor.PPackSpecs
theorem le4 {bs : List Int} {a : Nat} {x : Int} (hd : bs.drop a = b4 x) (h : 0 ≤ x ∧ x < 4294967296) : leN ((bs.drop a).take 4) = x := by
  rw [hd]
  simp only [b4, List.take_succ_cons, List.take_zero, leN]
  omega
set_option maxHeartbeats 8000000 in
set_option maxRecDepth 100000 in
theorem sealed92 (g q cb : Nat) (bs : List Int) (a r n : Nat) (w : World) (h : RS g q cb bs a r n w) (hT : TabVar w) (hd : bs.drop a = b4 (crc (bs.take a) : Nat)) :
    Calls Tryz.prog 92 #[.pointer (some ⟨g, 0, none⟩)] w fun e w' => e = .returned (.tuple #[]) ∧ RS g q cb bs (a + 4) r n w' ∧ Mv g w w' := by
  have hl := left_len hd (by simp [b4])
  have hl4 : (b4 (crc (bs.take a) : Nat)).length = 4 := rfl
  rw [hl4] at hl
  have hby : Bytes (bs.take a) := fun b hb => h.byt b (List.mem_of_mem_take hb)
  have hcl := crc_lt (bs.take a)
  have hcb := h.cap.1
  have hcm := h.cap.2
  have hca : ¬ cb = a := by omega
  have HS := Aside0.mk fun m => sum_any (some ⟨q, 0, none⟩) a cb (bs.take a) (w.drewN m) hT (by rw [List.length_take]; omega) (by omega) hby (fun j x hj => ⟨⟨q, 0, none⟩, rfl, by
    obtain ⟨hjl, rfl⟩ := List.getElem?_eq_some_iff.1 hj
    rw [List.length_take] at hjl
    rw [add_plain]
    have := h.byte j (by omega)
    rw [List.getElem_take]
    exact this⟩)
  have HN := Aside0.mk fun w' (h' : RS g q cb bs a r n w') => number151 g q cb bs a r n 4 w' h' (by omega) (by omega) (by omega)
  rw [le4 hd (by omega)] at HN
  generalize crc (bs.take a) = s at *
  have H := Aside0.mk h
  have c0 : w.cell? ⟨g, 0, none⟩ = some (.slice (some ⟨q, 0, none⟩) bs.length cb) := (blk_cell h.box 0).trans rfl
  have c1 : w.cell? ⟨g, 1, none⟩ = some (.int .i64 a) := (blk_cell h.box 1).trans rfl
  clear h hd hby hT hl4
  go_enter Tryz.func92, Tryz.ntmps92
  go_wp2_with fail
  go_quiet ((go_at_call 80; exact Calls.quiet_of_same ((HS.out _).mono fun _ _ h => ⟨h.1, h.2.symm⟩)))
  obtain ⟨nq0, rfl⟩ : ∃ k, k = nq := ⟨_, rfl⟩
  have R0 := Aside0.mk (H.out.below (pw_below_drewN (Below.refl _ w) nq0))
  have M0 := Aside0.mk (Mv.of_below (pw_below_drewN (Below.refl _ w) nq0) (Nat.le_of_lt H.out.glt))
  go_wp2_with (go_at_call 151; refine (HN.out _ R0.out).mono ?_)
  first | rintro e' w1 rfl k1 k2 | rintro e' w1 ⟨rfl, k1, k2⟩
  have R1 := Aside0.mk k1
  have M1 := Aside0.mk (M0.out.trans k2)
  have d0 : w1.cell? ⟨g, 0, none⟩ = some (.slice (some ⟨q, 0, none⟩) bs.length cb) := (blk_cell k1.box 0).trans rfl
  have d1 : w1.cell? ⟨g, 1, none⟩ = some (.int .i64 (a + 4 : Nat)) := (blk_cell k1.box 1).trans rfl
  clear k1 k2
  have hbl : decide (((a + 4 : Nat) : Int) < (bs.length : Int)) = false := decide_eq_false (by omega)
  go_wp2_with fail
  go_quiet (fail)
  obtain ⟨nq1, rfl⟩ : ∃ k, k = nq := ⟨_, rfl⟩
  go_wp2
  go_end0
  exact ⟨rfl, R1.out.below (pw_below_drewN (Below.refl _ _) nq1), M1.out.trans (Mv.of_below (pw_below_drewN (Below.refl _ _) nq1) (Nat.le_of_lt R1.out.glt))⟩
end Go.Proofs.YtpnkifincadakaaGreatDoor.Wr
end
section
namespace Go.Proofs.YtpnkifincadakaaGreatDoor.Wr
open Go.RowKit Go.Pk Go.Am Go.Proofs.YtpnkifincadakaaGreatDoorW.PrintWords Go.Proofs.YtpnkifincadakaaGreatDoor.PPackSpecs
structure Sk (g q cb : Nat) (bs : List Int) (a r n : Nat) (w0 : World) (cs : Array Value) (w : World) : Prop where
  rs : RS g q cb bs a r n w
  res : w.heap[w0.heap.size]? = some (.cells cs 28 (0, 0))
  mv : Mv g w0 w
  tab : TabVar w
  lg : 0 < g ∧ g < w0.heap.size
  lq : q < w0.heap.size
theorem Sk.num {g q cb : Nat} {bs : List Int} {a r n : Nat} {w0 : World} {cs : Array Value} {w w' : World} {a' : Nat} (h : Sk g q cb bs a r n w0 cs w) (hr : RS g q cb bs a' r n w') (hm : Mv g w w') : Sk g q cb bs a' r n w0 cs w' := by
  have h1 := h.lg
  exact ⟨hr, hm.blk h.res (by omega), h.mv.trans hm, tab_below h.tab h1.1 hm.below, h1, h.lq⟩
theorem Sk.put {g q cb : Nat} {bs : List Int} {a r n : Nat} {w0 : World} {cs : Array Value} {w : World} (h : Sk g q cb bs a r n w0 cs w) (i : Nat) (u : Value) (cs' : Array Value) (e : cs.setIfInBounds i u = cs') : Sk g q cb bs a r n w0 cs' (w.setCell ⟨w0.heap.size, i, none⟩ u) := by
  have h1 := h.lg
  have h2 := h.lq
  exact ⟨h.rs.put (by show w0.heap.size ≠ g; omega) (by show w0.heap.size ≠ q; omega) u, blk_put h.res i u e, h.mv.far h1.2 (Nat.le_refl _) u, tab_below h.tab h1.1 ((Below.refl g w).setCell (by show g ≤ w0.heap.size; omega) u), h1, h2⟩
theorem Sk.set {g q cb : Nat} {bs : List Int} {a r n : Nat} {w0 : World} {cs : Array Value} {w : World} (h : Sk g q cb bs a r n w0 cs w) (j : Nat) (v : Value) (r' n' : Nat)
    (e : (#[.slice (some ⟨q, 0, none⟩) bs.length cb, .int .i64 a, .int .i64 r, .int .i64 n] : Array Value).setIfInBounds j v = #[.slice (some ⟨q, 0, none⟩) bs.length cb, .int .i64 a, .int .i64 r', .int .i64 n']) : Sk g q cb bs a r' n' w0 cs (w.setCell ⟨g, j, none⟩ v) := by
  have h1 := h.lg
  obtain ⟨k1, k2⟩ := h.rs.set j v a r' n' h.rs.pos e
  exact ⟨k1, k2.blk h.res (by omega), h.mv.trans k2, tab_below h.tab h1.1 k2.below, h1, h.lq⟩
theorem Sk.at {g q cb : Nat} {bs : List Int} {a r n : Nat} {w0 : World} {cs : Array Value} {w : World} (h : Sk g q cb bs a r n w0 cs w) :
    w.cell? ⟨g, 2, none⟩ = some (.int .i64 r) ∧ w.cell? ⟨g, 3, none⟩ = some (.int .i64 n) ∧ (∀ i, w.frozen? ⟨g, i, none⟩ = false) ∧ ∀ i, w.frozen? ⟨w0.heap.size, i, none⟩ = false :=
  ⟨(blk_cell h.rs.box 2).trans rfl, (blk_cell h.rs.box 3).trans rfl, fun i => blk_frozen h.rs.box i, fun i => blk_frozen h.res i⟩
theorem Sk.cell {g q cb : Nat} {bs : List Int} {a r n : Nat} {w0 : World} {cs : Array Value} {w : World} (h : Sk g q cb bs a r n w0 cs w) (i : Nat) (u : Value) (e : cs[i]? = some u) : w.cell? ⟨w0.heap.size, i, none⟩ = some u := (blk_cell h.res i).trans e
theorem Sk.lt {g q cb : Nat} {bs : List Int} {a r n : Nat} {w0 : World} {cs : Array Value} {w : World} (h : Sk g q cb bs a r n w0 cs w) : w0.heap.size < w.heap.size := blk_lt h.res
theorem F_mv {α : Type} {d : Kd α} {g N : Nat} {w w' : World} {A : Option Addr} {n : Nat} {xs : List α} (h : Kd.F d w (fun k => N < k) A n xs) (hm : Mv g w w') (hg : g < N) : Kd.F d w' (fun k => N < k) A n xs := Kd.F_step h fun k hk hlt => hm.keep k hlt (by omega)
theorem F_putN {α : Type} {d : Kd α} {N b i : Nat} {w : World} {A : Option Addr} {n : Nat} {xs : List α} (h : Kd.F d w (fun k => N < k) A n xs) (hb : b ≤ N) (u : Value) : Kd.F d (w.setCell ⟨b, i, none⟩ u) (fun k => N < k) A n xs := Kd.F_far (p := ⟨b, i, none⟩) h (fun k hk e => by have e : k = b := e; omega) u
structure Good (lex : List S42) (names : List ByteArray) (start : Int) (prods : List S67) : Prop where
  l0 : lex.length ≤ 64
  l1 : names.length ≤ 128
  l3 : prods.length ≤ 512
  x0 : ∀ x, x ∈ lex → x.f0.size ≤ 64 ∧ chk x.f2 = 0
  x1 : ∀ x, x ∈ names → x.size ≤ 64
  st : 0 ≤ start ∧ start < names.length
  x3 : ∀ x, x ∈ prods → (0 ≤ x.f0 ∧ x.f0 < (names.length : Int)) ∧ x.f1.length ≤ 16 ∧ ∀ y, y ∈ x.f1 → symOk y lex.length names.length = true
theorem magic_at (a : Nat) (bs t : List Int) (hd : bs.drop a = magic ++ t) : ∀ i (hi : i < (⟨#[103, 114, 97, 102, 116, 115, 112, 101]⟩ : ByteArray).size), bs[a + i]? = some (((⟨#[103, 114, 97, 102, 116, 115, 112, 101]⟩ : ByteArray)[i]'hi).toNat : Int) := fun i hi => by
  have h : bs[a + i]? = (magic ++ t)[i]? := by rw [← hd, List.getElem?_drop]
  rw [h]
  have hi : i < 8 := hi
  match i, hi with
  | 0, _ => rfl
  | 1, _ => rfl
  | 2, _ => rfl
  | 3, _ => rfl
  | 4, _ => rfl
  | 5, _ => rfl
  | 6, _ => rfl
  | 7, _ => rfl
end Go.Proofs.YtpnkifincadakaaGreatDoor.Wr
end
section
namespace Go.Proofs.YtpnkifincadakaaGreatDoor.Wr
open Go.RowKit Go.Pk Go.Am Go.Proofs.YtpnkifincadakaaGreatDoorW.PrintWords Go.Proofs.YtpnkifincadakaaGreatDoor.PPackSpecs
def ReadIt (N : Nat) (lex : List S42) (names : List ByteArray) (start : Int) (prods : List S67) (v : Value) (w' : World) : Prop :=
  ∃ A0 c0 A1 c1 A3 c3, v = .agg #[.slice A0 lex.length c0, .slice A1 names.length c1, .int .i64 start, .slice A3 prods.length c3] ∧ (lex.length ≤ c0 ∧ names.length ≤ c1 ∧ prods.length ≤ c3) ∧ Kd.F k42 w' (fun k => N < k) A0 lex.length lex ∧ Kd.F Kd.string w' (fun k => N < k) A1 names.length names ∧ Kd.F k67 w' (fun k => N < k) A3 prods.length prods
set_option maxHeartbeats 16000000 in
set_option maxRecDepth 100000 in
theorem spec42 (g q cb : Nat) (bs : List Int) (lex : List S42) (names : List ByteArray) (start : Int) (prods : List S67) (w : World) (h : RS g q cb bs 0 0 0 w) (hT : TabVar w) (hg : 0 < g) (G : Good lex names start prods) (hbs : bs = summed (encSpec lex names start prods)) :
    Calls Tryz.prog 42 #[.pointer (some ⟨g, 0, none⟩)] w fun e w' => ∃ v, e = .returned v ∧ ReadIt w.heap.size lex names start prods v w' ∧ Mv g w w' := by
  obtain ⟨l0, l1, l3, x0, x1, ⟨st0, st1⟩, x3⟩ := G
  have d0 : bs.drop 0 = magic ++ ((lex.length : Int) :: (lex.flatMap encRule ++ ((names.length : Int) :: (names.flatMap encName ++ (start :: (b2 prods.length ++ (prods.flatMap encProd ++ b4 (crc (encSpec lex names start prods) : Nat)))))))) := by
    rw [List.drop_zero, hbs, summed]
    conv => lhs; arg 1; rw [encSpec]
    rw [show (lex.length : Int) % 256 = lex.length by omega, show (names.length : Int) % 256 = names.length by omega, show start % 256 = start by omega]
    simp only [List.append_assoc, List.cons_append, List.nil_append]
  have hC : b4 (crc (encSpec lex names start prods) : Nat) ≠ [] := by simp [b4]
  have d1 := drop_more d0
  rw [show 0 + magic.length = 8 from rfl] at d1
  have d2 : bs.drop 9 = lex.flatMap encRule ++ ((names.length : Int) :: (names.flatMap encName ++ (start :: (b2 prods.length ++ (prods.flatMap encProd ++ b4 (crc (encSpec lex names start prods) : Nat)))))) := by rw [show 9 = 8 + 1 from rfl, ← List.drop_drop, d1]; rfl
  have d3 := drop_more d2
  have d4 : bs.drop (9 + (lex.flatMap encRule).length + 1) = names.flatMap encName ++ (start :: (b2 prods.length ++ (prods.flatMap encProd ++ b4 (crc (encSpec lex names start prods) : Nat)))) := by rw [← List.drop_drop, d3]; rfl
  have d5 := drop_more d4
  have d6 : bs.drop (9 + (lex.flatMap encRule).length + 1 + (names.flatMap encName).length + 1) = b2 prods.length ++ (prods.flatMap encProd ++ b4 (crc (encSpec lex names start prods) : Nat)) := by rw [← List.drop_drop, d5]; rfl
  have d7 := drop_more d6
  rw [show (b2 (prods.length : Int)).length = 2 from rfl] at d7
  have d8 := drop_more d7
  have hl := left_len d8 hC
  have hl2 : bs.length = (encSpec lex names start prods).length + 4 := by rw [hbs, summed, List.length_append]; rfl
  rw [show (b4 ((crc (encSpec lex names start prods) : Nat) : Int)).length = 4 from rfl] at hl
  have d9 : bs.drop (9 + (lex.flatMap encRule).length + 1 + (names.flatMap encName).length + 1 + 2 + (prods.flatMap encProd).length) = b4 (crc (bs.take (9 + (lex.flatMap encRule).length + 1 + (names.flatMap encName).length + 1 + 2 + (prods.flatMap encProd).length)) : Nat) := by
    rw [d8, show 9 + (lex.flatMap encRule).length + 1 + (names.flatMap encName).length + 1 + 2 + (prods.flatMap encProd).length = (encSpec lex names start prods).length by omega]
    rw [hbs, summed, List.take_left']
    rfl
  have hA := below_alloc (Below.refl _ w) (.cells #[.slice none 0 0, .slice none 0 0, .int .i64 0, .slice none 0 0] 28)
  have K0 : Sk g q cb bs 0 0 0 w #[.slice none 0 0, .slice none 0 0, .int .i64 0, .slice none 0 0] (w.alloc (.cells #[.slice none 0 0, .slice none 0 0, .int .i64 0, .slice none 0 0] 28)) :=
    ⟨h.below hA, blk_new _ _, Mv.of_below hA (Nat.le_of_lt h.glt), tab_below hT (Nat.lt_of_le_of_lt (Nat.zero_le _) h.glt) hA, ⟨hg, h.glt⟩, h.qlt⟩
  have HMG := Aside0.mk (magic84 g q cb bs 0 0 0 ⟨#[103, 114, 97, 102, 116, 115, 112, 101]⟩ _ K0.rs (by decide) (by show 0 + 8 < bs.length; omega) (magic_at 0 bs _ d0))
  have HU1 := Aside0.mk fun w' (h' : RS g q cb bs 8 0 0 w') => upto85 g q cb bs 8 0 0 1 64 lex.length w' h' (by omega) (by omega) (by omega) (le1 d1) (by omega)
  have HL0 := Aside0.mk fun w' (h' : RS g q cb bs 9 lex.length 0 w') => list86 g q cb bs 9 lex.length 0 lex _ w' h' x0 l0 d2 (by simp)
  have HU2 := Aside0.mk fun w' (h' : RS g q cb bs (9 + (lex.flatMap encRule).length) lex.length 0 w') => upto85 g q cb bs _ lex.length 0 1 128 names.length w' h' (by omega) (by omega) (by omega) (le1 d3) (by omega)
  have HL1 := Aside0.mk fun w' (h' : RS g q cb bs (9 + (lex.flatMap encRule).length + 1) lex.length names.length w') => list88 g q cb bs _ lex.length names.length names _ w' h' x1 l1 d4 (by simp)
  have HU3 := Aside0.mk fun w' (h' : RS g q cb bs (9 + (lex.flatMap encRule).length + 1 + (names.flatMap encName).length) lex.length names.length w') => upto85 g q cb bs _ lex.length names.length 1 ((names.length : Int) - 1) start w' h' (by omega) (by omega) (by omega) (le1 d5) (by omega)
  have HU4 := Aside0.mk fun w' (h' : RS g q cb bs (9 + (lex.flatMap encRule).length + 1 + (names.flatMap encName).length + 1) lex.length names.length w') => upto85 g q cb bs _ lex.length names.length 2 512 prods.length w' h' (by omega) (by omega) (by omega) (le2 d6 (by omega)) (by omega)
  have HL3 := Aside0.mk fun w' (h' : RS g q cb bs (9 + (lex.flatMap encRule).length + 1 + (names.flatMap encName).length + 1 + 2) lex.length names.length w') => list90 g q cb bs _ lex.length names.length prods _ w' h' (by omega) (by omega) x3 l3 d7 hC
  have HSE := Aside0.mk fun w' (h' : RS g q cb bs (9 + (lex.flatMap encRule).length + 1 + (names.flatMap encName).length + 1 + 2 + (prods.flatMap encProd).length) lex.length names.length w') (hT' : TabVar w') => sealed92 g q cb bs _ lex.length names.length w' h' hT' d9
  have HK0 := Aside0.mk K0
  have hgl := h.glt
  clear d0 d1 d2 d3 d4 d5 d6 d7 d8 d9 hbs hC hl hl2 x0 x1 x3 h hT K0 hA
  generalize lex.flatMap encRule = R at *
  generalize names.flatMap encName = S at *
  generalize prods.flatMap encProd = T at *
  go_enter Tryz.func42, Tryz.ntmps42
  go_wp2_with (go_at_call 84; refine HMG.out.mono ?_)
  first | rintro e' w1 rfl k1 k2 | rintro e' w1 ⟨rfl, k1, k2⟩
  have K1 : Sk g q cb bs 8 0 0 w _ w1 := HK0.out.num k1 k2
  have HK1 := Aside0.mk K1
  clear k1 k2 K1
  go_wp2_with (go_at_call 85; refine (HU1.out _ HK1.out.rs).mono ?_)
  first | rintro e' w2 rfl k1 k2 | rintro e' w2 ⟨rfl, k1, k2⟩
  have K2 := HK1.out.num k1 k2
  obtain ⟨p2, p3, pf, pr⟩ := K2.at
  have K3 := K2.set 2 (.int .i64 lex.length) lex.length 0 rfl
  obtain ⟨q2, q3, qf, qr⟩ := K3.at
  have HK3 := Aside0.mk K3
  clear k1 k2 K2 K3
  go_wp2_with (go_at_call 86; refine (HL0.out _ HK3.out.rs).mono ?_)
  first | rintro e' w4 A0 c0 rfl m0 f0 k1 k2 | rintro e' w4 ⟨A0, c0, rfl, m0, f0, k1, k2⟩
  have K4 := HK3.out.num k1 k2
  have F0 := Kd.F_mono f0 (ok' := fun k => w.heap.size < k) (fun k hk => Nat.lt_of_lt_of_le HK3.out.lt hk)
  obtain ⟨p2, p3, pf, pr⟩ := K4.at
  have z0 := K4.cell 0 _ rfl
  have K5 := K4.put 0 (.slice A0 lex.length c0) _ rfl
  have F0 := Aside0.mk (F_putN (i := 0) F0 (Nat.le_refl _) (.slice A0 lex.length c0))
  obtain ⟨q2, q3, qf, qr⟩ := K5.at
  have HK5 := Aside0.mk K5
  clear k1 k2 K4 K5 f0
  go_wp2_with (go_at_call 85; refine (HU2.out _ HK5.out.rs).mono ?_)
  first | rintro e' w6 rfl k1 k2 | rintro e' w6 ⟨rfl, k1, k2⟩
  have K6 := HK5.out.num k1 k2
  have F0 := Aside0.mk (F_mv F0.out k2 hgl)
  obtain ⟨p2, p3, pf, pr⟩ := K6.at
  have K7 := K6.set 3 (.int .i64 names.length) lex.length names.length rfl
  have F0 := Aside0.mk (F_putN (i := 3) F0.out (Nat.le_of_lt hgl) (.int .i64 names.length))
  obtain ⟨q2, q3, qf, qr⟩ := K7.at
  have HK7 := Aside0.mk K7
  clear k1 k2 K6 K7
  go_wp2_with (go_at_call 88; refine (HL1.out _ HK7.out.rs).mono ?_)
  first | rintro e' w8 A1 c1 rfl m1 f1 k1 k2 | rintro e' w8 ⟨A1, c1, rfl, m1, f1, k1, k2⟩
  have K8 := HK7.out.num k1 k2
  have F0 := F_mv F0.out k2 hgl
  have F1 := Kd.F_mono f1 (ok' := fun k => w.heap.size < k) (fun k hk => Nat.lt_of_lt_of_le HK7.out.lt hk)
  obtain ⟨p2, p3, pf, pr⟩ := K8.at
  have z1 := K8.cell 1 _ rfl
  have K9 := K8.put 1 (.slice A1 names.length c1) _ rfl
  have F0 := Aside0.mk (F_putN (i := 1) F0 (Nat.le_refl _) (.slice A1 names.length c1))
  have F1 := Aside0.mk (F_putN (i := 1) F1 (Nat.le_refl _) (.slice A1 names.length c1))
  obtain ⟨q2, q3, qf, qr⟩ := K9.at
  have HK9 := Aside0.mk K9
  clear k1 k2 K8 K9 f1
  go_wp2_with (go_at_call 85; refine (HU3.out _ HK9.out.rs).mono ?_)
  first | rintro e' w10 rfl k1 k2 | rintro e' w10 ⟨rfl, k1, k2⟩
  have K10 := HK9.out.num k1 k2
  have F0 := F_mv F0.out k2 hgl
  have F1 := F_mv F1.out k2 hgl
  obtain ⟨p2, p3, pf, pr⟩ := K10.at
  have z2 := K10.cell 2 _ rfl
  have K11 := K10.put 2 (.int .i64 start) _ rfl
  have F0 := Aside0.mk (F_putN (i := 2) F0 (Nat.le_refl _) (.int .i64 start))
  have F1 := Aside0.mk (F_putN (i := 2) F1 (Nat.le_refl _) (.int .i64 start))
  obtain ⟨q2, q3, qf, qr⟩ := K11.at
  have HK11 := Aside0.mk K11
  clear k1 k2 K10 K11
  go_wp2_with (go_at_call 85; refine (HU4.out _ HK11.out.rs).mono ?_)
  first | rintro e' w12 rfl k1 k2 | rintro e' w12 ⟨rfl, k1, k2⟩
  have HK12 := Aside0.mk (HK11.out.num k1 k2)
  have F0 := Aside0.mk (F_mv F0.out k2 hgl)
  have F1 := Aside0.mk (F_mv F1.out k2 hgl)
  clear k1 k2
  go_wp2_with (go_at_call 90; refine (HL3.out _ HK12.out.rs).mono ?_)
  first | rintro e' w13 A3 c3 rfl m3 f3 k1 k2 | rintro e' w13 ⟨A3, c3, rfl, m3, f3, k1, k2⟩
  have K13 := HK12.out.num k1 k2
  have F0 := F_mv F0.out k2 hgl
  have F1 := F_mv F1.out k2 hgl
  have F3 := Kd.F_mono f3 (ok' := fun k => w.heap.size < k) (fun k hk => Nat.lt_of_lt_of_le HK12.out.lt hk)
  obtain ⟨p2, p3, pf, pr⟩ := K13.at
  have z3 := K13.cell 3 _ rfl
  have K14 := K13.put 3 (.slice A3 prods.length c3) _ rfl
  have F0 := Aside0.mk (F_putN (i := 3) F0 (Nat.le_refl _) (.slice A3 prods.length c3))
  have F1 := Aside0.mk (F_putN (i := 3) F1 (Nat.le_refl _) (.slice A3 prods.length c3))
  have F3 := Aside0.mk (F_putN (i := 3) F3 (Nat.le_refl _) (.slice A3 prods.length c3))
  have HK14 := Aside0.mk K14
  clear k1 k2 K13 K14 f3
  go_wp2_with (go_at_call 92; refine (HSE.out _ HK14.out.rs HK14.out.tab).mono ?_)
  first | rintro e' w15 rfl k1 k2 | rintro e' w15 ⟨rfl, k1, k2⟩
  have K15 := HK14.out.num k1 k2
  have F0 := Aside0.mk (F_mv F0.out k2 hgl)
  have F1 := Aside0.mk (F_mv F1.out k2 hgl)
  have F3 := Aside0.mk (F_mv F3.out k2 hgl)
  obtain ⟨p2, p3, pf, pr⟩ := K15.at
  have z0 := K15.cell 0 _ rfl
  have z1 := K15.cell 1 _ rfl
  have z2 := K15.cell 2 _ rfl
  have z3 := K15.cell 3 _ rfl
  have HK15 := Aside0.mk K15
  clear k1 k2 K15
  go_wp2
  have K16 := (((HK15.out.put 0 (.slice A0 lex.length c0) _ rfl).put 1 (.slice A1 names.length c1) _ rfl).put 2 (.int .i64 start) _ rfl).put 3 (.slice A3 prods.length c3) _ rfl
  refine bodyPost_ret (results_cell_row rfl _ _ w.heap.size 28 #[.slice A0 lex.length c0, .slice A1 names.length c1, .int .i64 start, .slice A3 prods.length c3] (0, 0) _ rfl K16.res Tryz.underlying28 rfl (by kernel_rfl)) rfl ?_
  exact ⟨_, rfl, ⟨A0, c0, A1, c1, A3, c3, rfl, ⟨m0, m1, m3⟩, F_putN (i := 3) (F_putN (i := 2) (F_putN (i := 1) (F_putN (i := 0) F0.out (Nat.le_refl _) _) (Nat.le_refl _) _) (Nat.le_refl _) _) (Nat.le_refl _) _, F_putN (i := 3) (F_putN (i := 2) (F_putN (i := 1) (F_putN (i := 0) F1.out (Nat.le_refl _) _) (Nat.le_refl _) _) (Nat.le_refl _) _) (Nat.le_refl _) _, F_putN (i := 3) (F_putN (i := 2) (F_putN (i := 1) (F_putN (i := 0) F3.out (Nat.le_refl _) _) (Nat.le_refl _) _) (Nat.le_refl _) _) (Nat.le_refl _) _⟩, K16.mv⟩
end Go.Proofs.YtpnkifincadakaaGreatDoor.Wr
end
section
namespace Go.Proofs.YtpnkifincadakaaGreatDoor.Wr
open Go.RowKit Go.Pk Go.Am Go.Proofs.YtpnkifincadakaaGreatDoorW.PrintWords Go.Proofs.YtpnkifincadakaaGreatDoor.PPackSpecs
abbrev put4 (w : World) (N : Nat) (a b d f : Value) : World := (((w.setCell ⟨N, 0, none⟩ a).setCell ⟨N, 1, none⟩ b).setCell ⟨N, 2, none⟩ d).setCell ⟨N, 3, none⟩ f
theorem put4_blk {w : World} {N : Nat} (h : w.heap[N]? = some (.cells #[.slice none 0 0, .slice none 0 0, .int .i64 0, .slice none 0 0] 28 (0, 0))) (a b d f : Value) : (put4 w N a b d f).heap[N]? = some (.cells #[a, b, d, f] 28 (0, 0)) :=
  blk_put (cs := #[a, b, d, .slice none 0 0]) (blk_put (cs := #[a, b, .int .i64 0, .slice none 0 0]) (blk_put (cs := #[a, .slice none 0 0, .int .i64 0, .slice none 0 0]) (blk_put h 0 _ rfl) 1 _ rfl) 2 _ rfl) 3 _ rfl
theorem put4_other {w : World} {N k : Nat} (hk : k ≠ N) (a b d f : Value) : (put4 w N a b d f).heap[k]? = w.heap[k]? := by
  unfold put4
  rw [Below.heap_setCell _ _ _ _ (by simpa using hk), Below.heap_setCell _ _ _ _ (by simpa using hk), Below.heap_setCell _ _ _ _ (by simpa using hk), Below.heap_setCell _ _ _ _ (by simpa using hk)]
theorem put4_F {α : Type} {d0 : Kd α} {w : World} {M N : Nat} {A : Option Addr} {n : Nat} {xs : List α} (h : Kd.F d0 w (fun k => M < k) A n xs) (hk : N ≤ M) (a b d f : Value) : Kd.F d0 (put4 w N a b d f) (fun k => M < k) A n xs :=
  Kd.F_step h fun k hok _ => put4_other (by omega) a b d f
theorem put4_below {w w1 : World} {N B : Nat} (h : Below B w w1) (hN : B ≤ N) (a b d f : Value) : Below B w (put4 w1 N a b d f) := (((h.setCell (p := ⟨N, 0, none⟩) hN a).setCell (p := ⟨N, 1, none⟩) hN b).setCell (p := ⟨N, 2, none⟩) hN d).setCell (p := ⟨N, 3, none⟩) hN f
set_option maxHeartbeats 8000000 in
set_option maxRecDepth 100000 in
theorem clo41 (g q cb : Nat) (bs : List Int) (lex : List S42) (names : List ByteArray) (start : Int) (prods : List S67) (Rb Sb : Nat) (w : World) (h : RS g q cb bs 0 0 0 w) (hT : TabVar w) (hg : 0 < g) (G : Good lex names start prods) (hbs : bs = summed (encSpec lex names start prods))
    (hr : w.heap[Rb]? = some (.cells #[.pointer (some ⟨g, 0, none⟩)] 88 (0, 0))) (hs : w.heap[Sb]? = some (.cells #[.slice none 0 0, .slice none 0 0, .int .i64 0, .slice none 0 0] 28 (0, 0))) (hne : Sb ≠ g) :
    Calls Tryz.prog 41 #[.pointer (some ⟨Rb, 0, none⟩), .pointer (some ⟨Sb, 0, none⟩)] w fun e w' => e = .returned (.tuple #[]) ∧ ∃ A0 c0 A1 c1 A3 c3, w'.heap[Sb]? = some (.cells #[.slice A0 lex.length c0, .slice A1 names.length c1, .int .i64 start, .slice A3 prods.length c3] 28 (0, 0)) ∧ ReadIt w.heap.size lex names start prods (.agg #[.slice A0 lex.length c0, .slice A1 names.length c1, .int .i64 start, .slice A3 prods.length c3]) w' ∧ Mv2 g Sb w w' := by
  have HS := Aside0.mk (spec42 g q cb bs lex names start prods w h hT hg G hbs)
  have HSb := Aside0.mk hs
  have hSl : Sb < w.heap.size := blk_lt hs
  have c0 : w.cell? ⟨Rb, 0, none⟩ = some (.pointer (some ⟨g, 0, none⟩)) := (blk_cell hr 0).trans rfl
  clear h hT G hbs hr hs
  go_enter Tryz.func41, Tryz.ntmps41
  go_wp2_with (go_at_call 42; refine HS.out.mono ?_)
  rintro e' w1 ⟨v, rfl, ⟨A0, c0', A1, c1', A3, c3', rfl, hc, F0, F1, F3⟩, k2⟩
  have B1 := k2.blk HSb.out hne
  have f0 : ∀ i, w1.frozen? ⟨Sb, i, none⟩ = false := fun i => blk_frozen B1 i
  have z0 : w1.cell? ⟨Sb, 0, none⟩ = some (.slice none 0 0) := (blk_cell B1 0).trans rfl
  have z1 : w1.cell? ⟨Sb, 1, none⟩ = some (.slice none 0 0) := (blk_cell B1 1).trans rfl
  have z2 : w1.cell? ⟨Sb, 2, none⟩ = some (.int .i64 0) := (blk_cell B1 2).trans rfl
  have z3 : w1.cell? ⟨Sb, 3, none⟩ = some (.slice none 0 0) := (blk_cell B1 3).trans rfl
  have HB := Aside0.mk B1
  have G0 := Aside0.mk F0
  have G1 := Aside0.mk F1
  have G3 := Aside0.mk F3
  have HC := Aside0.mk hc
  have HM := Aside0.mk ((((k2.two Sb).setP 0 (.slice A0 lex.length c0')).setP 1 (.slice A1 names.length c1')).setP 2 (.int .i64 start) |>.setP 3 (.slice A3 prods.length c3'))
  clear k2 B1 F0 F1 F3 hc
  go_wp2
  go_end0
  exact ⟨rfl, A0, c0', A1, c1', A3, c3', put4_blk HB.out _ _ _ _, ⟨A0, c0', A1, c1', A3, c3', rfl, HC.out, put4_F G0.out (Nat.le_of_lt hSl) _ _ _ _, put4_F G1.out (Nat.le_of_lt hSl) _ _ _ _, put4_F G3.out (Nat.le_of_lt hSl) _ _ _ _⟩, HM.out⟩
set_option maxHeartbeats 8000000 in
set_option maxRecDepth 100000 in
theorem readSpec14 (q cb : Nat) (bs : List Int) (lex : List S42) (names : List ByteArray) (start : Int) (prods : List S67) (w : World)
    (hrow : ∃ cells, w.heap[q]? = some (.cells cells 5 (0, 0)) ∧ ∀ (i : Nat) (b : Int), bs[i]? = some b → cells[i]? = some (.int .u8 b)) (hcap : bs.length ≤ cb ∧ cb ≤ 9223372036854775807) (hby : ∀ b, b ∈ bs → 0 ≤ b ∧ b < 256) (hT : TabVar w) (hlen : bs.length ≤ 67108864)
    (G : Good lex names start prods) (hbs : bs = summed (encSpec lex names start prods)) :
    Calls Tryz.prog 14 #[.slice (some ⟨q, 0, none⟩) bs.length cb] w fun e w' => ∃ v, e = .returned (.tuple #[v, .int .i64 0, .int .i64 0]) ∧ ReadIt w.heap.size lex names start prods v w' ∧ Below w.heap.size w w' := by
  obtain ⟨cells, hq, hrd⟩ := hrow
  have hql : q < w.heap.size := blk_lt hq
  have a1 := below_alloc (Below.refl _ w) (.cells #[.slice none 0 0, .slice none 0 0, .int .i64 0, .slice none 0 0] 28)
  have a2 := below_alloc a1 (.cells #[.slice none 0 0, .slice none 0 0, .int .i64 0, .slice none 0 0] 28)
  have a3 := below_alloc a2 (.cells #[.slice (some ⟨q, 0, none⟩) bs.length cb, .int .i64 0, .int .i64 0, .int .i64 0] 90)
  have a4 := below_alloc a3 (.cells #[.pointer (some ⟨w.heap.size + 1 + 1, 0, none⟩)] 88)
  have a5 := below_alloc a4 (.cells #[.int .i64 0, .int .i64 0] 92)
  have b1 := blk_alloc (blk_alloc (blk_alloc (blk_alloc (blk_new w (.cells #[.slice none 0 0, .slice none 0 0, .int .i64 0, .slice none 0 0] 28)) (.cells #[.slice none 0 0, .slice none 0 0, .int .i64 0, .slice none 0 0] 28)) (.cells #[.slice (some ⟨q, 0, none⟩) bs.length cb, .int .i64 0, .int .i64 0, .int .i64 0] 90)) (.cells #[.pointer (some ⟨w.heap.size + 1 + 1, 0, none⟩)] 88)) (.cells #[.int .i64 0, .int .i64 0] 92)
  have b2 := blk_alloc (blk_alloc (blk_alloc (blk_new (w.alloc (.cells #[.slice none 0 0, .slice none 0 0, .int .i64 0, .slice none 0 0] 28)) (.cells #[.slice none 0 0, .slice none 0 0, .int .i64 0, .slice none 0 0] 28)) (.cells #[.slice (some ⟨q, 0, none⟩) bs.length cb, .int .i64 0, .int .i64 0, .int .i64 0] 90)) (.cells #[.pointer (some ⟨w.heap.size + 1 + 1, 0, none⟩)] 88)) (.cells #[.int .i64 0, .int .i64 0] 92)
  have b3 := blk_alloc (blk_alloc (blk_new ((w.alloc (.cells #[.slice none 0 0, .slice none 0 0, .int .i64 0, .slice none 0 0] 28)).alloc (.cells #[.slice none 0 0, .slice none 0 0, .int .i64 0, .slice none 0 0] 28)) (.cells #[.slice (some ⟨q, 0, none⟩) bs.length cb, .int .i64 0, .int .i64 0, .int .i64 0] 90)) (.cells #[.pointer (some ⟨w.heap.size + 1 + 1, 0, none⟩)] 88)) (.cells #[.int .i64 0, .int .i64 0] 92)
  have b4 := blk_alloc (blk_new (((w.alloc (.cells #[.slice none 0 0, .slice none 0 0, .int .i64 0, .slice none 0 0] 28)).alloc (.cells #[.slice none 0 0, .slice none 0 0, .int .i64 0, .slice none 0 0] 28)).alloc (.cells #[.slice (some ⟨q, 0, none⟩) bs.length cb, .int .i64 0, .int .i64 0, .int .i64 0] 90)) (.cells #[.pointer (some ⟨w.heap.size + 1 + 1, 0, none⟩)] 88)) (.cells #[.int .i64 0, .int .i64 0] 92)
  have b5 := blk_new ((((w.alloc (.cells #[.slice none 0 0, .slice none 0 0, .int .i64 0, .slice none 0 0] 28)).alloc (.cells #[.slice none 0 0, .slice none 0 0, .int .i64 0, .slice none 0 0] 28)).alloc (.cells #[.slice (some ⟨q, 0, none⟩) bs.length cb, .int .i64 0, .int .i64 0, .int .i64 0] 90)).alloc (.cells #[.pointer (some ⟨w.heap.size + 1 + 1, 0, none⟩)] 88)) (.cells #[.int .i64 0, .int .i64 0] 92)
  simp only [World.size_alloc] at b1 b2 b3 b4 b5
  have hrs : RS (w.heap.size + 1 + 1) q cb bs 0 0 0 (((((w.alloc (.cells #[.slice none 0 0, .slice none 0 0, .int .i64 0, .slice none 0 0] 28)).alloc (.cells #[.slice none 0 0, .slice none 0 0, .int .i64 0, .slice none 0 0] 28)).alloc (.cells #[.slice (some ⟨q, 0, none⟩) bs.length cb, .int .i64 0, .int .i64 0, .int .i64 0] 90)).alloc (.cells #[.pointer (some ⟨w.heap.size + 1 + 1, 0, none⟩)] 88)).alloc (.cells #[.int .i64 0, .int .i64 0] 92)) :=
    ⟨b3, ⟨cells, (a5.block _ hql).trans hq, hrd⟩, hcap, Nat.zero_le _, hby⟩
  have hc := clo41 (w.heap.size + 1 + 1) q cb bs lex names start prods (w.heap.size + 1 + 1 + 1) (w.heap.size + 1) _ hrs (tab_below hT (by omega) a5) (by omega) G hbs b4 b2 (by omega)
  have HT : Calls Tryz.prog 40 #[.func (.func 41) #[] #[.pointer (some ⟨w.heap.size + 1 + 1 + 1, 0, none⟩), .pointer (some ⟨w.heap.size + 1, 0, none⟩)]] ((((w.alloc (.cells #[.slice none 0 0, .slice none 0 0, .int .i64 0, .slice none 0 0] 28)).alloc (.cells #[.slice none 0 0, .slice none 0 0, .int .i64 0, .slice none 0 0] 28)).alloc (.cells #[.slice (some ⟨q, 0, none⟩) bs.length cb, .int .i64 0, .int .i64 0, .int .i64 0] 90)).alloc (.cells #[.pointer (some ⟨w.heap.size + 1 + 1, 0, none⟩)] 88)) fun e w' =>
      e = .returned (.agg #[.int .i64 0, .int .i64 0]) ∧ ∃ A0 c0 A1 c1 A3 c3, w'.heap[w.heap.size]? = some (.cells #[.slice none 0 0, .slice none 0 0, .int .i64 0, .slice none 0 0] 28 (0, 0)) ∧ w'.heap[w.heap.size + 1]? = some (.cells #[.slice A0 lex.length c0, .slice A1 names.length c1, .int .i64 start, .slice A3 prods.length c3] 28 (0, 0)) ∧ ReadIt (w.heap.size + 1 + 1 + 1 + 1) lex names start prods (.agg #[.slice A0 lex.length c0, .slice A1 names.length c1, .int .i64 start, .slice A3 prods.length c3]) w' ∧ Below w.heap.size w w' := by
    refine (tried_run Tryz.func41 rfl #[] #[.pointer (some ⟨w.heap.size + 1 + 1 + 1, 0, none⟩), .pointer (some ⟨w.heap.size + 1, 0, none⟩)] _ (fun w1 => ∃ A0 c0 A1 c1 A3 c3, w1.heap[w.heap.size]? = some (.cells #[.slice none 0 0, .slice none 0 0, .int .i64 0, .slice none 0 0] 28 (0, 0)) ∧ w1.heap[w.heap.size + 1]? = some (.cells #[.slice A0 lex.length c0, .slice A1 names.length c1, .int .i64 start, .slice A3 prods.length c3] 28 (0, 0)) ∧ ReadIt (w.heap.size + 1 + 1 + 1 + 1) lex names start prods (.agg #[.slice A0 lex.length c0, .slice A1 names.length c1, .int .i64 start, .slice A3 prods.length c3]) w1 ∧ Below w.heap.size w w1) ?_).mono ?_
    · rw [Array.empty_append]
      refine hc.mono ?_
      rintro e w' ⟨rfl, A0, c0, A1, c1, A3, c3, h1, ⟨A0', c0', A1', c1', A3', c3', he, hk, g0, g1, g3⟩, hm⟩
      simp only [World.size_alloc] at g0 g1 g3
      refine ⟨⟨A0, c0, A1, c1, A3, c3, hm.blk b1 (by omega) (by omega), h1, ⟨A0', c0', A1', c1', A3', c3', he, hk, Kd.F_mono g0 fun k hk => by omega, Kd.F_mono g1 fun k hk => by omega, Kd.F_mono g3 fun k hk => by omega⟩, a5.trans (hm.below.mono (by omega))⟩, ?_⟩
      simp only [World.size_alloc]
      exact hm.blk b5 (by omega) (by omega)
    · rintro e w' h
      match e, h with
      | .returned v, ⟨hv, w1, ⟨A0, c0, A1, c1, A3, c3, h0, h1, ⟨A0', c0', A1', c1', A3', c3', he, hk, g0, g1, g3⟩, hb⟩, _, hw⟩ =>
        simp only [World.size_alloc] at hw
        subst hw hv
        have ho : ∀ k, k ≠ w.heap.size + 1 + 1 + 1 + 1 → ((w1.setCell ⟨w.heap.size + 1 + 1 + 1 + 1, 0, none⟩ (.int .i64 0)).setCell ⟨w.heap.size + 1 + 1 + 1 + 1, 1, none⟩ (.int .i64 0)).heap[k]? = w1.heap[k]? := fun k hk => by
          rw [Below.heap_setCell _ _ _ _ (by simpa using hk), Below.heap_setCell _ _ _ _ (by simpa using hk)]
        refine ⟨rfl, A0, c0, A1, c1, A3, c3, (ho _ (by omega)).trans h0, (ho _ (by omega)).trans h1, ⟨A0', c0', A1', c1', A3', c3', he, hk, Kd.F_step g0 fun k hk _ => ho k (by omega), Kd.F_step g1 fun k hk _ => ho k (by omega), Kd.F_step g3 fun k hk _ => ho k (by omega)⟩, (hb.setCell (by show w.heap.size ≤ w.heap.size + 1 + 1 + 1 + 1; omega) _).setCell (by show w.heap.size ≤ w.heap.size + 1 + 1 + 1 + 1; omega) _⟩
  have hl' : decide ((67108864 : Int) < (bs.length : Int)) = false := decide_eq_false (by omega)
  have HTT := Aside0.mk HT
  clear HT hc hrs a1 a2 a3 a4 a5 b1 b2 b3 b4 b5 hq hrd hT G hbs hby
  go_enter Tryz.func14, Tryz.ntmps14
  go_wp2_with (go_at_call 40; refine HTT.out.mono ?_)
  rintro e w1 ⟨rfl, A0, c0, A1, c1, A3, c3, h0, h1, ⟨A0', c0', A1', c1', A3', c3', he, hk, g0, g1, g3⟩, hb⟩
  have hsz : w.heap.size + 1 < w1.heap.size := blk_lt h1
  have hA := below_alloc (Below.refl _ w1) (.cells #[.int .i64 0, .int .i64 0] 92)
  have h0 := (hA.block _ (blk_lt h0)).trans h0
  have h1 := (hA.block _ (blk_lt h1)).trans h1
  have z0 := (blk_cell h0 0).trans (show _ = some (.slice none 0 0) from rfl)
  have z1 := (blk_cell h0 1).trans (show _ = some (.slice none 0 0) from rfl)
  have z2 := (blk_cell h0 2).trans (show _ = some (.int .i64 0) from rfl)
  have z3 := (blk_cell h0 3).trans (show _ = some (.slice none 0 0) from rfl)
  have f0 : ∀ i, (w1.alloc (.cells #[.int .i64 0, .int .i64 0] 92)).frozen? ⟨w.heap.size, i, none⟩ = false := fun i => blk_frozen h0 i
  have s0 := (blk_cell h1 0).trans (show _ = some (.slice A0 lex.length c0) from rfl)
  have s1 := (blk_cell h1 1).trans (show _ = some (.slice A1 names.length c1) from rfl)
  have s2 := (blk_cell h1 2).trans (show _ = some (.int .i64 start) from rfl)
  have s3 := (blk_cell h1 3).trans (show _ = some (.slice A3 prods.length c3) from rfl)
  have HBK := Aside0.mk (put4_blk h0 (.slice A0 lex.length c0) (.slice A1 names.length c1) (.int .i64 start) (.slice A3 prods.length c3))
  have G0 := Aside0.mk (put4_F (N := w.heap.size) (Kd.F_below g0 hA) (by omega) (.slice A0 lex.length c0) (.slice A1 names.length c1) (.int .i64 start) (.slice A3 prods.length c3))
  have G1 := Aside0.mk (put4_F (N := w.heap.size) (Kd.F_below g1 hA) (by omega) (.slice A0 lex.length c0) (.slice A1 names.length c1) (.int .i64 start) (.slice A3 prods.length c3))
  have G3 := Aside0.mk (put4_F (N := w.heap.size) (Kd.F_below g3 hA) (by omega) (.slice A0 lex.length c0) (.slice A1 names.length c1) (.int .i64 start) (.slice A3 prods.length c3))
  have HBL := Aside0.mk (put4_below (N := w.heap.size) (below_then hb hb.size hA) (Nat.le_refl _) (.slice A0 lex.length c0) (.slice A1 names.length c1) (.int .i64 start) (.slice A3 prods.length c3))
  have HE := Aside0.mk he
  have HK := Aside0.mk hk
  clear he hk g0 g1 g3 hA hb h0 h1
  go_wp2
  have e0 := (blk_cell HBK.out 0).trans (show _ = some (.slice A0 lex.length c0) from rfl)
  have e1 := (blk_cell HBK.out 1).trans (show _ = some (.slice A1 names.length c1) from rfl)
  have e2 := (blk_cell HBK.out 2).trans (show _ = some (.int .i64 start) from rfl)
  have e3 := (blk_cell HBK.out 3).trans (show _ = some (.slice A3 prods.length c3) from rfl)
  refine bodyPost_ret (v := .tuple #[.agg #[.slice A0 lex.length c0, .slice A1 names.length c1, .int .i64 start, .slice A3 prods.length c3], .int .i64 0, .int .i64 0]) (by simp [results, Tryz.results14, go_sem, e0, e1, e2, e3]) rfl ?_
  exact ⟨_, rfl, ⟨A0', c0', A1', c1', A3', c3', HE.out, HK.out, Kd.F_mono G0.out fun k hk => by omega, Kd.F_mono G1.out fun k hk => by omega, Kd.F_mono G3.out fun k hk => by omega⟩, HBL.out⟩
end Go.Proofs.YtpnkifincadakaaGreatDoor.Wr
end
section
namespace Go.Proofs.YtpnkifincadakaaGreatDoor.Wr
open Go.RowKit Go.Pk Go.Am Go.Proofs.YtpnkifincadakaaGreatDoorW.PrintWords Go.Proofs.YtpnkifincadakaaGreatDoor.PPackSpecs
set_option maxHeartbeats 8000000 in
set_option maxRecDepth 100000 in
theorem bytes13 (A : Option Addr) (c : Nat) (bs : List Int) (w : World) (hp : 0 < bs.length) (hm : bs.length ≤ 140737488350000)
    (hr : ∀ j x, bs[j]? = some x → ∃ ad, A = some ad ∧ w.cell? (ad.add j) = some (.int .u8 x)) :
    Calls Tryz.prog 13 #[.slice A bs.length c] w fun e w' => ∃ q cb, e = .returned (.slice (some ⟨q, 0, none⟩) bs.length cb) ∧ (∃ cells, w'.heap[q]? = some (.cells cells 5 (0, 0)) ∧ ∀ (i : Nat) (b : Int), bs[i]? = some b → cells[i]? = some (.int .u8 b)) ∧ (bs.length ≤ cb ∧ cb ≤ 9223372036854775807) ∧ Below w.heap.size w w' := by
  obtain ⟨i0, hi, hz0, hz1, hz2⟩ := info_parts infoB
  obtain ⟨ad, rfl, _⟩ := hr 0 _ (List.getElem?_eq_getElem hp)
  have hA := below_alloc (Below.refl _ w) (.cells #[] 5)
  have hnews : ∀ j u, (nums .u8 bs)[j]? = some u → (w.alloc (.cells #[] 5)).cell? (ad.add j) = some u := fun j u hj => by
    unfold nums at hj
    rw [List.getElem?_map] at hj
    obtain ⟨x, hx, rfl⟩ := Option.map_eq_some_iff.1 hj
    obtain ⟨ad', e, h⟩ := hr j x hx
    cases e
    exact pw_cell_below hA h
  have HN := Aside0.mk hnews
  clear hnews hr
  have h0 := World.ownsRow_lit (base := w.heap.size) (e := 5) (size := 1) w #[] 0 (Nat.le_refl _) (by simp) (by simp)
  go_enter Tryz.func13, Tryz.ntmps13
  go_wp2_with (at_builtin; refine wpList_append_own _ rfl _ _ 30 rfl w.heap.size 5 i0 (.int .u8 0) 1 1 Tryz.underlying30 hi hz0 hz1 hz2 rfl (by decide) _ 0 [] rfl h0 ad bs.length c (nums .u8 bs) rfl (by rw [nums_length]; omega) HN.out (one_nums bs) (by unfold maxLen; omega) (by omega) (by simp) ?_)
  intro v1 w1 hown1 hgrow1 _
  have hb1 : Below w.heap.size w w1 := hA.grown hgrow1 (by simp) (fun k hk => own_base h0 k hk)
  obtain ⟨ao, co, rfl⟩ := own_slice hown1
  have hown1a := hown1.alloc (.cells #[.int .u8 165] 5)
  have hbb := below_alloc hb1 (.cells #[.int .u8 165] 5)
  clear HN
  go_wp2_with (at_builtin; refine wpList_append_own _ rfl _ _ 30 rfl w.heap.size 5 i0 (.int .u8 0) 1 1 Tryz.underlying30 hi hz0 hz1 hz2 rfl (by decide) _ bs.length (nums .u8 bs) rfl hown1a ⟨w1.heap.size, 0, none⟩ 1 1 [.int .u8 165] rfl rfl (World.news_of_block (blk_new w1 (.cells #[.int .u8 165] 5))) (by simp [Value.oneCell']) (by unfold maxLen; omega) (by omega) hbb.size ?_)
  intro v3 w3 hown3 hgrow3 _
  have hend : Below w.heap.size w w3 := hbb.grown hgrow3 hbb.size (fun k hk => own_base hown1a k hk)
  rcases hown3.2 with ⟨_, hz⟩ | ⟨q, cap, cur, rfl, hB, hh, h1, h2, h3, h4⟩
  · omega
  have hcap : bs.length ≤ cap := by omega
  have hcur : ∀ (i : Nat) (b : Int), bs[i]? = some b → cur[i]? = some (.int .u8 b) := fun i b hib => by
    have hil := (List.getElem?_eq_some_iff.1 hib).1
    have h5 : (cur.toList.take ((bs.length + 1) * 1))[i]? = some (.int .u8 b) := by
      rw [h4, List.getElem?_append_left (by rw [nums_length]; exact hil)]
      unfold nums
      rw [List.getElem?_map, hib]
      rfl
    rw [List.getElem?_take, if_pos (by omega)] at h5
    simpa using h5
  have HC := Aside0.mk hcur
  have HH := Aside0.mk hh
  have HE := Aside0.mk hend
  have hcm : cap ≤ 9223372036854775807 := by unfold maxLen at h2; omega
  clear hown3 hgrow3 hcur hh hend h3 h4 hown1 hown1a hgrow1 hb1 hbb hA h0 hi hz0 hz1 hz2
  go_wp2
  go_ret
  exact ⟨q, cap, rfl, ⟨cur, HH.out, HC.out⟩, ⟨hcap, hcm⟩, HE.out⟩
end Go.Proofs.YtpnkifincadakaaGreatDoor.Wr
end
