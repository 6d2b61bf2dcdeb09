/- Proved: part 29 of the proof of PackRound (Rd6, Rd7, Rd8, Rd9, Rd10). Conditions: each theorem states its own. -/
import Derived.Test.YtpnkifincadakaaGreatDoorR15
import Derived.Test.YtpnkifincadakaaGreatDoorR28
set_option linter.unusedVariables false
set_option linter.unusedSimpArgs false
section
namespace Go.Proofs.YtpnkifincadakaaGreatDoor.Wr
open Go.RowKit Go.Pk Go.Proofs.YtpnkifincadakaaGreatDoorW.PrintWords Go.Proofs.YtpnkifincadakaaGreatDoor.PPackSpecs
theorem RS.base {g q cb : Nat} {bs : List Int} {a r n a' r' n' : Nat} {w0 w w1 : World} (h : RS g q cb bs a r n w) (h0 : RS g q cb bs a' r' n' w0) (hb : Below w0.heap.size w w1) (hs : w0.heap.size ≤ w.heap.size) : RS g q cb bs a r n w1 := by
  obtain ⟨cells, hc, hr⟩ := h.row
  exact ⟨(hb.block _ h0.glt).trans h.box, ⟨cells, (hb.block _ h0.qlt).trans hc, hr⟩, h.cap, h.pos, h.byt⟩
theorem Mv.base {g : Nat} {w w5 w1 : World} (h : Mv g w w5) (hb : Below w.heap.size w5 w1) (hg : g < w.heap.size) : Mv g w w1 :=
  ⟨fun k hk hne => (hb.block k hk).trans (h.keep k hk hne), Nat.le_trans h.size hb.size, h.below.trans (hb.mono (Nat.le_of_lt hg))⟩
theorem N_mv {α : Type} {d : Kd α} {e g B : Nat} {w w' : World} {v : Value} {xs : List α} (h : Kd.N d e w B (fun k => B ≤ k) v xs) (hm : Mv g w w') (hg : g < B) : Kd.N d e w' B (fun k => B ≤ k) v xs :=
  Kd.N_step h fun k hk hlt => hm.keep k hlt (by omega)
theorem flat_take {α : Type} (f : α → List Int) (xs : List α) (k : Nat) (h : k < xs.length) : (xs.drop k).flatMap f = f xs[k] ++ (xs.drop (k + 1)).flatMap f := by rw [List.drop_eq_getElem_cons h, List.flatMap_cons]
theorem flat_snoc' {α : Type} (f : α → List Int) (xs : List α) (k : Nat) (h : k < xs.length) : ((xs.take (k + 1)).flatMap f).length = ((xs.take k).flatMap f).length + (f xs[k]).length := by
  rw [List.take_succ_eq_append_getElem h, List.flatMap_append, List.length_append]
  simp
set_option maxHeartbeats 8000000 in
set_option maxRecDepth 100000 in
theorem list153 (g q cb : Nat) (bs : List Int) (a r n : Nat) (xs : List S85) (rest : List Int) (w : World) (h : RS g q cb bs a r n w) (hr : r ≤ 256) (hn : n ≤ 256) (hx : ∀ x, x ∈ xs → symOk x r n = true) (hl : xs.length ≤ 512) (hd : bs.drop a = xs.flatMap encSym ++ rest) (hp : rest ≠ []) :
    Calls Tryz.prog 153 #[.int .i64 xs.length, .func (.func 154) #[.pointer (some ⟨g, 0, none⟩)] #[]] w fun e w' => ∃ A c, e = .returned (.slice A xs.length c) ∧ xs.length ≤ c ∧ Kd.F k85 w' (fun k => w.heap.size ≤ k) A xs.length xs ∧ RS g q cb bs (a + (xs.flatMap encSym).length) r n w' ∧ Mv g w w' := by
  have H := Aside0.mk h
  have HX := Aside0.mk hx
  have HD := Aside0.mk hd
  have hgl := h.glt
  clear h hx hd
  go_enter Tryz.func153, Tryz.ntmps153
  go_wp2
  go_loopw [5, 7] (fun v i wr => ∃ k : Nat, k ≤ xs.length ∧ i = .int .i64 k ∧ Aside0 (Kd.N k85 85 wr w.heap.size (fun k => w.heap.size ≤ k) v (xs.take k)) ∧ Aside0 (RS g q cb bs (a + ((xs.take k).flatMap encSym).length) r n wr ∧ bs.drop (a + ((xs.take k).flatMap encSym).length) = (xs.drop k).flatMap encSym ++ rest) ∧ Aside0 (Mv g w wr)) (fun _ i _ => xs.length - (intOf i).toNat)
  case atStart => exact ⟨0, Nat.zero_le _, rfl, ⟨Kd.N_nil _ _ _ _ _⟩, ⟨H.out, by simpa using HD.out⟩, ⟨Mv.refl _ _⟩⟩
  case round =>
    obtain ⟨k, hk, rfl, hN, hR, hM⟩ := hrel
    by_cases hlt : k < xs.length
    · have hdk := hR.out.2
      rw [flat_take encSym xs k hlt, List.append_assoc] at hdk
      have hrest : (xs.drop (k + 1)).flatMap encSym ++ rest ≠ [] := by simp [hp]
      have HS := Aside0.mk (symbol154 g q cb bs _ r n xs[k] _ wr hR.out.1 hr hn (HX.out _ (List.getElem_mem hlt)) hdk hrest)
      have hsn := flat_snoc' encSym xs k hlt
      have hdn := drop_more hdk
      have HT : Aside0 (xs.take (k + 1) = xs.take k ++ [xs[k]]) := ⟨List.take_succ_eq_append_getElem hlt⟩
      rw [Nat.add_assoc] at hdn
      rw [show (encSym xs[k]).length = 2 from rfl] at hsn hdn
      have HSN := Aside0.mk hsn
      have HDN := Aside0.mk hdn
      have hlen : (xs.take k).length = k := by rw [List.length_take]; omega
      have HLEN := Aside0.mk hlen
      clear hdk hrest hsn hdn hlen
      generalize xs[k] = x at *
      go_wp2_with fail
      refine HS.out.mono ?_
      first | rintro e w5 rfl h1 h2 | rintro e w5 ⟨rfl, h1, h2⟩
      have HR5 := Aside0.mk h1
      have HM5 := Aside0.mk (hM.out.trans h2)
      have HN5 := Aside0.mk (N_mv hN.out h2 hgl)
      clear h1 h2
      go_wp2_with (at_builtin; refine Kd.N_append k85 (w0 := w5) w.heap.size rfl (.tmp 9) (.tmp 12) 65 85 (.agg #[.int .i64 0, .int .i64 0]) 16 rfl Tryz.underlying65 info85 rfl (by decide) (by omega) u5 (xs.take k) x [.int .i64 x.f0, .int .i64 x.f1] (fun k => w.heap.size ≤ k) (fun k => w5.heap.size ≤ k) rfl rfl (k85_mkF _ _ x) ?o1 ?o2 HN5.out (Below.refl _ _) ?o3 ?o4 ?_)
      case o1 => exact fun k hk => ⟨Nat.le_trans HM5.out.size hk, fun e => absurd (Kd.N_lt HN5.out k e.symm) (by omega)⟩
      case o2 => exact fun k hk => Nat.le_trans HM5.out.size hk
      case o3 => exact HM5.out.size
      case o4 => rw [HLEN.out]; omega
      intro v1 w6 hN6 hB6 _ _
      have HN6 := Aside0.mk hN6
      have HR6 := Aside0.mk (HR5.out.base H.out hB6 HM5.out.size)
      have HM6 := Aside0.mk (HM5.out.base hB6 hgl)
      clear hN6 hB6
      go_wp2
      go_roundw
      case rel => exact ⟨k + 1, by omega, by go_num, ⟨by rw [HT.out]; exact HN6.out⟩, ⟨by rw [HSN.out, ← Nat.add_assoc]; exact HR6.out, by rw [HSN.out]; exact HDN.out⟩, HM6⟩
      case measure => simp [intOf]; omega
    · obtain rfl : k = xs.length := by omega
      rw [List.take_length] at hN hR
      obtain ⟨A, c, rfl, lc, _⟩ := Kd.N_reads hN.out
      have HF := Aside0.mk (Kd.N_F hN.out)
      go_wp2
      go_ret
      exact ⟨A, c, rfl, by omega, HF.out, hR.out.1, hM.out⟩
set_option maxHeartbeats 8000000 in
set_option maxRecDepth 100000 in
theorem production91 (g q cb : Nat) (bs : List Int) (a r n : Nat) (x : S67) (rest : List Int) (w : World) (h : RS g q cb bs a r n w) (hr : r ≤ 256) (hn : n ≤ 256) (hx0 : 0 ≤ x.f0 ∧ x.f0 < n) (hl : x.f1.length ≤ 16) (hx : ∀ y, y ∈ x.f1 → symOk y r n = true) (hd : bs.drop a = encProd x ++ rest) (hp : rest ≠ []) :
    Calls Tryz.prog 91 #[.pointer (some ⟨g, 0, none⟩)] w fun e w' => ∃ A c, e = .returned (.agg #[.int .i64 x.f0, .slice A x.f1.length c]) ∧ x.f1.length ≤ c ∧ Kd.F k85 w' (fun k => w.heap.size ≤ k) A x.f1.length x.f1 ∧ RS g q cb bs (a + (encProd x).length) r n w' ∧ Mv g w w' := by
  obtain ⟨x0, l⟩ := x
  dsimp only at *
  have hd0 : bs.drop a = x0 :: ((l.length : Int) :: (l.flatMap encSym ++ rest)) := by
    rw [hd]
    simp only [encProd, List.cons_append, List.nil_append]
    rw [show x0 % 256 = x0 by omega, show (l.length : Int) % 256 = (l.length : Int) by omega]
  have hd1 : bs.drop (a + 1) = (l.length : Int) :: (l.flatMap encSym ++ rest) := by rw [← List.drop_drop, hd0]; rfl
  have hd2 : bs.drop (a + 1 + 1) = l.flatMap encSym ++ rest := by rw [← List.drop_drop, hd1]; rfl
  have hlen := left_len hd0 (by simp)
  have hpp := List.length_pos_iff.2 hp
  simp only [List.length_cons, List.length_append] at hlen
  have hel : (encProd ⟨x0, l⟩).length = 2 + (l.flatMap encSym).length := by simp [encProd]; omega
  rw [hel]
  have H := Aside0.mk h
  have hgl := h.glt
  have hneg : w.heap.size ≠ g := by omega
  have c3 : w.cell? ⟨g, 3, none⟩ = some (.int .i64 n) := (blk_cell h.box 3).trans rfl
  have H0 := Aside0.mk (h.alloc (.cells #[.int .i64 0, .slice none 0 0] 67))
  have M0 := Aside0.mk ((Mv.refl g w).alloc (Nat.le_of_lt hgl) (.cells #[.int .i64 0, .slice none 0 0] 67))
  have B0 := Aside0.mk (blk_new w (.cells #[.int .i64 0, .slice none 0 0] 67))
  have HU1 := Aside0.mk (upto85 g q cb bs a r n 1 ((n : Int) - 1) x0 _ H0.out (by omega) (by omega) (by omega) (le1 hd0) (by omega))
  have HU2 := Aside0.mk fun w' (h' : RS g q cb bs (a + 1) r n w') => upto85 g q cb bs (a + 1) r n 1 16 l.length w' h' (by omega) (by omega) (by omega) (le1 hd1) (by omega)
  have HL := Aside0.mk fun w' (h' : RS g q cb bs (a + 1 + 1) r n w') => list153 g q cb bs (a + 1 + 1) r n l rest w' h' hr hn hx (by omega) hd2 hp
  clear h hd hd0 hd1 hd2 hx hel
  go_enter Tryz.func91, Tryz.ntmps91
  go_wp2_with (go_at_call 85; refine HU1.out.mono ?_)
  first | rintro e w1 rfl h1 h2 | rintro e w1 ⟨rfl, h1, h2⟩
  have HR1 := Aside0.mk h1
  have HM1 := Aside0.mk (M0.out.trans h2)
  have B1 := Aside0.mk (h2.blk B0.out hneg)
  clear h1 h2
  go_wp2_with (go_at_call 85; refine (HU2.out _ HR1.out).mono ?_)
  first | rintro e w2 rfl h1 h2 | rintro e w2 ⟨rfl, h1, h2⟩
  have HR2 := Aside0.mk h1
  have HM2 := Aside0.mk (HM1.out.trans h2)
  have B2 := Aside0.mk (h2.blk B1.out hneg)
  clear h1 h2
  go_wp2_with (go_at_call 153; refine (HL.out _ HR2.out).mono ?_)
  first | rintro e w3 A c rfl lc hF h1 h2 | rintro e w3 ⟨A, c, rfl, lc, hF, h1, h2⟩
  have HR3 := Aside0.mk h1
  have HM3 := Aside0.mk (HM2.out.trans h2)
  have B3 := h2.blk B2.out hneg
  have HF3 := Aside0.mk hF
  have f0 : w3.frozen? ⟨w.heap.size, 0, none⟩ = false := blk_frozen B3 0
  have f1 : w3.frozen? ⟨w.heap.size, 1, none⟩ = false := blk_frozen B3 1
  have z0 : w3.cell? ⟨w.heap.size, 0, none⟩ = some (.int .i64 0) := (blk_cell B3 0).trans rfl
  have z1 : w3.cell? ⟨w.heap.size, 1, none⟩ = some (.slice none 0 0) := (blk_cell B3 1).trans rfl
  have B3 := Aside0.mk B3
  clear h1 h2 hF
  go_wp2
  refine bodyPost_ret (results_cell_row rfl _ _ w.heap.size 67 #[.int .i64 x0, .slice A l.length c] (0, 0) _ rfl (blk_put (cs := #[.int .i64 x0, .slice none 0 0]) (blk_put (cs := #[.int .i64 0, .slice none 0 0]) B3.out 0 _ rfl) 1 _ rfl) Tryz.underlying67 rfl (by kernel_rfl)) rfl ?_
  have hsz : w.heap.size < w2.heap.size := blk_lt B2.out
  refine ⟨A, c, rfl, lc, ?_, ?_, ?_⟩
  · exact Kd.F_mono (Kd.F_far (p := ⟨w.heap.size, 1, none⟩) (Kd.F_far (p := ⟨w.heap.size, 0, none⟩) HF3.out (fun k hk e => by have e : k = w.heap.size := e; omega) _) (fun k hk e => by have e : k = w.heap.size := e; omega) _) fun k hk => by omega
  · rw [show a + (2 + (l.flatMap encSym).length) = a + 1 + 1 + (l.flatMap encSym).length by omega]
    exact (HR3.out.far H.out (by exact Nat.le_refl _) _).far H.out (by exact Nat.le_refl _) _
  · exact (HM3.out.far hgl (by exact Nat.le_refl _) _).far hgl (by exact Nat.le_refl _) _
end Go.Proofs.YtpnkifincadakaaGreatDoor.Wr
end
section
namespace Go.Proofs.YtpnkifincadakaaGreatDoor.Wr
open Go.RowKit Go.Pk Go.Proofs.YtpnkifincadakaaGreatDoorW.PrintWords Go.Proofs.YtpnkifincadakaaGreatDoor.PPackSpecs
theorem str_mkF (W : World) (ok : Nat → Prop) (x : ByteArray) : Kd.FK Kd.string W ok x [.string x] := fun _ _ => rfl
set_option maxHeartbeats 8000000 in
set_option maxRecDepth 100000 in
theorem list88 (g q cb : Nat) (bs : List Int) (a r n : Nat) (xs : List ByteArray) (rest : List Int) (w : World) (h : RS g q cb bs a r n w) (hx : ∀ x, x ∈ xs → x.size ≤ 64) (hl : xs.length ≤ 128) (hd : bs.drop a = xs.flatMap encName ++ rest) (hp : rest ≠ []) :
    Calls Tryz.prog 88 #[.int .i64 xs.length, .func (.func 89) #[.pointer (some ⟨g, 0, none⟩)] #[]] w fun e w' => ∃ A c, e = .returned (.slice A xs.length c) ∧ xs.length ≤ c ∧ Kd.F Kd.string w' (fun k => w.heap.size ≤ k) A xs.length xs ∧ RS g q cb bs (a + (xs.flatMap encName).length) r n w' ∧ Mv g w w' := by
  have H := Aside0.mk h
  have HX := Aside0.mk hx
  have HD := Aside0.mk hd
  have hgl := h.glt
  clear h hx hd
  go_enter Tryz.func88, Tryz.ntmps88
  go_wp2
  go_loopw [5, 7] (fun v i wr => ∃ k : Nat, k ≤ xs.length ∧ i = .int .i64 k ∧ Aside0 (Kd.N Kd.string 9 wr w.heap.size (fun k => w.heap.size ≤ k) v (xs.take k)) ∧ Aside0 (RS g q cb bs (a + ((xs.take k).flatMap encName).length) r n wr ∧ bs.drop (a + ((xs.take k).flatMap encName).length) = (xs.drop k).flatMap encName ++ rest) ∧ Aside0 (Mv g w wr)) (fun _ i _ => xs.length - (intOf i).toNat)
  case atStart => exact ⟨0, Nat.zero_le _, rfl, ⟨Kd.N_nil _ _ _ _ _⟩, ⟨H.out, by simpa using HD.out⟩, ⟨Mv.refl _ _⟩⟩
  case round =>
    obtain ⟨k, hk, rfl, hN, hR, hM⟩ := hrel
    by_cases hlt : k < xs.length
    · have hdk := hR.out.2
      rw [flat_take encName xs k hlt, List.append_assoc] at hdk
      have hrest : (xs.drop (k + 1)).flatMap encName ++ rest ≠ [] := by simp [hp]
      have HS := Aside0.mk (name89 g q cb bs _ r n xs[k] _ wr hR.out.1 (HX.out _ (List.getElem_mem hlt)) hdk hrest)
      have hsn := flat_snoc' encName xs k hlt
      have hdn := drop_more hdk
      have HT : Aside0 (xs.take (k + 1) = xs.take k ++ [xs[k]]) := ⟨List.take_succ_eq_append_getElem hlt⟩
      rw [Nat.add_assoc] at hdn
      have HSN := Aside0.mk hsn
      have HDN := Aside0.mk hdn
      have hlen : (xs.take k).length = k := by rw [List.length_take]; omega
      have HLEN := Aside0.mk hlen
      clear hdk hrest hsn hdn hlen
      generalize xs[k] = x at *
      go_wp2_with fail
      refine HS.out.mono ?_
      first | rintro e w5 rfl h1 h2 | rintro e w5 ⟨rfl, h1, h2⟩
      have HR5 := Aside0.mk h1
      have HM5 := Aside0.mk (hM.out.trans h2)
      have HN5 := Aside0.mk (N_mv hN.out h2 hgl)
      have hsz := h2.size
      clear h1 h2
      go_wp2_with (at_builtin; refine Kd.N_append Kd.string (w0 := w5) w.heap.size rfl (.tmp 9) (.tmp 12) 25 9 (.string ⟨#[]⟩) 16 rfl Tryz.underlying25 info9 rfl (by decide) (by omega) u5 (xs.take k) x [.string x] (fun k => w.heap.size ≤ k) (fun k => wr.heap.size ≤ k) rfl rfl (str_mkF _ _ x) ?o1 ?o2 HN5.out (Below.refl _ _) ?o3 ?o4 ?_)
      case o1 => exact fun k hk => ⟨Nat.le_trans hM.out.size hk, fun e => absurd (Kd.N_lt hN.out k e.symm) (by omega)⟩
      case o2 => exact fun k hk => Nat.le_trans HM5.out.size hk
      case o3 => exact HM5.out.size
      case o4 => rw [HLEN.out]; omega
      intro v1 w6 hN6 hB6 _ _
      have HN6 := Aside0.mk hN6
      have HR6 := Aside0.mk (HR5.out.base H.out hB6 HM5.out.size)
      have HM6 := Aside0.mk (HM5.out.base hB6 hgl)
      clear hN6 hB6
      go_wp2
      go_roundw
      case rel => exact ⟨k + 1, by omega, by go_num, ⟨by rw [HT.out]; exact HN6.out⟩, ⟨by rw [HSN.out, ← Nat.add_assoc]; exact HR6.out, by rw [HSN.out]; exact HDN.out⟩, HM6⟩
      case measure => simp [intOf]; omega
    · obtain rfl : k = xs.length := by omega
      rw [List.take_length] at hN hR
      obtain ⟨A, c, rfl, lc, _⟩ := Kd.N_reads hN.out
      have HF := Aside0.mk (Kd.N_F hN.out)
      go_wp2
      go_ret
      exact ⟨A, c, rfl, by omega, HF.out, hR.out.1, hM.out⟩
set_option maxHeartbeats 8000000 in
set_option maxRecDepth 100000 in
theorem list90 (g q cb : Nat) (bs : List Int) (a r n : Nat) (xs : List S67) (rest : List Int) (w : World) (h : RS g q cb bs a r n w) (hr : r ≤ 256) (hn : n ≤ 256) (hx : ∀ x, x ∈ xs → (0 ≤ x.f0 ∧ x.f0 < n) ∧ x.f1.length ≤ 16 ∧ ∀ y, y ∈ x.f1 → symOk y r n = true) (hl : xs.length ≤ 512) (hd : bs.drop a = xs.flatMap encProd ++ rest) (hp : rest ≠ []) :
    Calls Tryz.prog 90 #[.int .i64 xs.length, .func (.func 91) #[.pointer (some ⟨g, 0, none⟩)] #[]] w fun e w' => ∃ A c, e = .returned (.slice A xs.length c) ∧ xs.length ≤ c ∧ Kd.F k67 w' (fun k => w.heap.size ≤ k) A xs.length xs ∧ RS g q cb bs (a + (xs.flatMap encProd).length) r n w' ∧ Mv g w w' := by
  have H := Aside0.mk h
  have HX := Aside0.mk hx
  have HD := Aside0.mk hd
  have hgl := h.glt
  clear h hx hd
  go_enter Tryz.func90, Tryz.ntmps90
  go_wp2
  go_loopw [5, 7] (fun v i wr => ∃ k : Nat, k ≤ xs.length ∧ i = .int .i64 k ∧ Aside0 (Kd.N k67 67 wr w.heap.size (fun k => w.heap.size ≤ k) v (xs.take k)) ∧ Aside0 (RS g q cb bs (a + ((xs.take k).flatMap encProd).length) r n wr ∧ bs.drop (a + ((xs.take k).flatMap encProd).length) = (xs.drop k).flatMap encProd ++ rest) ∧ Aside0 (Mv g w wr)) (fun _ i _ => xs.length - (intOf i).toNat)
  case atStart => exact ⟨0, Nat.zero_le _, rfl, ⟨Kd.N_nil _ _ _ _ _⟩, ⟨H.out, by simpa using HD.out⟩, ⟨Mv.refl _ _⟩⟩
  case round =>
    obtain ⟨k, hk, rfl, hN, hR, hM⟩ := hrel
    by_cases hlt : k < xs.length
    · have hdk := hR.out.2
      rw [flat_take encProd xs k hlt, List.append_assoc] at hdk
      have hrest : (xs.drop (k + 1)).flatMap encProd ++ rest ≠ [] := by simp [hp]
      have HS := Aside0.mk (production91 g q cb bs _ r n xs[k] _ wr hR.out.1 hr hn (HX.out _ (List.getElem_mem hlt)).1 (HX.out _ (List.getElem_mem hlt)).2.1 (HX.out _ (List.getElem_mem hlt)).2.2 hdk hrest)
      have hsn := flat_snoc' encProd xs k hlt
      have hdn := drop_more hdk
      have HT : Aside0 (xs.take (k + 1) = xs.take k ++ [xs[k]]) := ⟨List.take_succ_eq_append_getElem hlt⟩
      rw [Nat.add_assoc] at hdn
      have HSN := Aside0.mk hsn
      have HDN := Aside0.mk hdn
      have hlen : (xs.take k).length = k := by rw [List.length_take]; omega
      have HLEN := Aside0.mk hlen
      clear hdk hrest hsn hdn hlen
      generalize xs[k] = x at *
      go_wp2_with fail
      refine HS.out.mono ?_
      first | rintro e w5 A1 c1 rfl l1 g1 h1 h2 | rintro e w5 ⟨A1, c1, rfl, l1, g1, h1, h2⟩
      have HR5 := Aside0.mk h1
      have HM5 := Aside0.mk (hM.out.trans h2)
      have HN5 := Aside0.mk (N_mv hN.out h2 hgl)
      have hsz := h2.size
      clear h1 h2
      go_wp2_with (at_builtin; refine Kd.N_append k67 (w0 := w5) w.heap.size rfl (.tmp 9) (.tmp 12) 26 67 (.agg #[.int .i64 0, .slice none 0 0]) 32 rfl Tryz.underlying26 info67 rfl (by decide) (by omega) u5 (xs.take k) x [.int .i64 x.f0, .slice A1 x.f1.length c1] (fun k => w.heap.size ≤ k) (fun k => wr.heap.size ≤ k) rfl rfl (k67_mkF _ _ x l1 g1) ?o1 ?o2 HN5.out (Below.refl _ _) ?o3 ?o4 ?_)
      case o1 => exact fun k hk => ⟨Nat.le_trans hM.out.size hk, fun e => absurd (Kd.N_lt hN.out k e.symm) (by omega)⟩
      case o2 => exact fun k hk => Nat.le_trans HM5.out.size hk
      case o3 => exact HM5.out.size
      case o4 => rw [HLEN.out]; omega
      intro v1 w6 hN6 hB6 _ _
      have HN6 := Aside0.mk hN6
      have HR6 := Aside0.mk (HR5.out.base H.out hB6 HM5.out.size)
      have HM6 := Aside0.mk (HM5.out.base hB6 hgl)
      clear hN6 hB6
      go_wp2
      go_roundw
      case rel => exact ⟨k + 1, by omega, by go_num, ⟨by rw [HT.out]; exact HN6.out⟩, ⟨by rw [HSN.out, ← Nat.add_assoc]; exact HR6.out, by rw [HSN.out]; exact HDN.out⟩, HM6⟩
      case measure => simp [intOf]; omega
    · obtain rfl : k = xs.length := by omega
      rw [List.take_length] at hN hR
      obtain ⟨A, c, rfl, lc, _⟩ := Kd.N_reads hN.out
      have HF := Aside0.mk (Kd.N_F hN.out)
      go_wp2
      go_ret
      exact ⟨A, c, rfl, by omega, HF.out, hR.out.1, hM.out⟩
end Go.Proofs.YtpnkifincadakaaGreatDoor.Wr
end
section
namespace Go.Proofs.YtpnkifincadakaaGreatDoor.Wr
open Go.RowKit Go.Pk Go.Proofs.YtpnkifincadakaaGreatDoorW.PrintWords Go.Proofs.YtpnkifincadakaaGreatDoor.PPackSpecs
structure Mv2 (g P : Nat) (w w' : World) : Prop where
  keep : ∀ k, k < w.heap.size → k ≠ g → k ≠ P → w'.heap[k]? = w.heap[k]?
  size : w.heap.size ≤ w'.heap.size
  below : Below (min g P) w w'
theorem Mv2.refl (g P : Nat) (w : World) : Mv2 g P w w := ⟨fun _ _ _ _ => rfl, Nat.le_refl _, Below.refl _ _⟩
theorem Mv2.trans {g P : Nat} {a b c : World} (h : Mv2 g P a b) (k : Mv2 g P b c) : Mv2 g P a c := ⟨fun i hi hne hnp => (k.keep i (Nat.lt_of_lt_of_le hi h.size) hne hnp).trans (h.keep i hi hne hnp), Nat.le_trans h.size k.size, h.below.trans k.below⟩
theorem Mv.two {g : Nat} {w w' : World} (h : Mv g w w') (P : Nat) : Mv2 g P w w' := ⟨fun k hk hne _ => h.keep k hk hne, h.size, h.below.mono (by omega)⟩
theorem Mv2.blk {g P k : Nat} {w w' : World} {o : Obj} (h : Mv2 g P w w') (hb : w.heap[k]? = some o) (hne : k ≠ g) (hnp : k ≠ P) : w'.heap[k]? = some o := (h.keep k (blk_lt hb) hne hnp).trans hb
theorem Mv2.far {g P : Nat} {w w' : World} (h : Mv2 g P w w') (hg : g < w.heap.size) {p : Addr} (hp : w.heap.size ≤ p.block) (u : Value) : Mv2 g P w (w'.setCell p u) :=
  ⟨fun k hk hne hnp => by rw [Below.heap_setCell _ _ _ _ (by omega)]; exact h.keep k hk hne hnp, by simpa using h.size, h.below.setCell (by omega) u⟩
theorem Mv2.base {g P : Nat} {w w5 w1 : World} (h : Mv2 g P w w5) (hb : Below w.heap.size w5 w1) (hg : g < w.heap.size) : Mv2 g P w w1 :=
  ⟨fun k hk hne hnp => (hb.block k hk).trans (h.keep k hk hne hnp), Nat.le_trans h.size hb.size, h.below.trans (hb.mono (by omega))⟩
theorem Mv2.setP {g P : Nat} {w w' : World} (h : Mv2 g P w w') (j : Nat) (u : Value) : Mv2 g P w (w'.setCell ⟨P, j, none⟩ u) :=
  ⟨fun k hk hne hnp => by rw [Below.heap_setCell _ _ _ _ (by simpa using hnp)]; exact h.keep k hk hne hnp, by simpa using h.size, h.below.setCell (by show min g P ≤ P; omega) u⟩
theorem Mv2.alloc {g P : Nat} {w w' : World} (h : Mv2 g P w w') (hg : g < w.heap.size) (o : Obj) : Mv2 g P w (w'.alloc o) := h.base ((Below.refl w.heap.size w').alloc h.size o) hg
def PS (g P : Nat) (cnt : Int) (w : World) : Prop := w.heap[P]? = some (.cells #[.pointer (some ⟨g, 0, none⟩), .int .i64 cnt] 268 (0, 0))
theorem PS.ne_q {g P q cb : Nat} {cnt : Int} {bs : List Int} {a r n : Nat} {w : World} (h : PS g P cnt w) (k : RS g q cb bs a r n w) : q ≠ P := fun e => by
  obtain ⟨cells, hc, _⟩ := k.row
  rw [e, h] at hc
  injection hc with hc
  injection hc with _ hc
  exact absurd hc (by decide)
theorem PS.ne_g {g P q cb : Nat} {cnt : Int} {bs : List Int} {a r n : Nat} {w : World} (h : PS g P cnt w) (k : RS g q cb bs a r n w) : P ≠ g := fun e => by
  have hc := k.box
  rw [← e, h] at hc
  injection hc with hc
  injection hc with _ hc
  exact absurd hc (by decide)
theorem RS.put {g q cb : Nat} {bs : List Int} {a r n : Nat} {w : World} (h : RS g q cb bs a r n w) {p : Addr} (hg : p.block ≠ g) (hq : p.block ≠ q) (u : Value) : RS g q cb bs a r n (w.setCell p u) := by
  obtain ⟨cells, hc, hr⟩ := h.row
  refine ⟨?_, ⟨cells, ?_, hr⟩, h.cap, h.pos, h.byt⟩
  · rw [Below.heap_setCell _ _ _ _ (fun e => hg e.symm)]; exact h.box
  · rw [Below.heap_setCell _ _ _ _ (fun e => hq e.symm)]; exact hc
structure Rk (g q cb : Nat) (bs : List Int) (a r n P : Nat) (cnt deep : Int) (w0 : World) (E : Nat) (cs : Array Value) (w : World) : Prop where
  rs : RS g q cb bs a r n w
  ps : PS g P cnt w
  bp : w.heap[w0.heap.size]? = some (.cells #[.pointer (some ⟨P, 0, none⟩)] 266 (0, 0))
  bd : w.heap[w0.heap.size + 1]? = some (.cells #[.int .i64 deep] 3 (0, 0))
  br : w.heap[w0.heap.size + 2]? = some (.cells #[.int .i64 0, .int .i64 0, .int .i64 0, .int .i64 0, .int .i64 0, .slice none 0 0] 40 (0, 0))
  be : w.heap[E]? = some (.cells cs 40 (0, 0))
  mv : Mv2 g P w0 w
  le : w0.heap.size + 3 ≤ E
  lg : g < w0.heap.size
  lp : P < w0.heap.size
  lq : q < w0.heap.size
theorem Rk.num {g q cb : Nat} {bs : List Int} {a r n P : Nat} {cnt deep : Int} {w0 : World} {E : Nat} {cs : Array Value} {w w' : World} {a' : Nat} (h : Rk g q cb bs a r n P cnt deep w0 E cs w) (hr : RS g q cb bs a' r n w') (hm : Mv g w w') : Rk g q cb bs a' r n P cnt deep w0 E cs w' := by
  have h1 := h.lg
  have h2 := h.le
  have h3 := h.ps.ne_g h.rs
  exact ⟨hr, hm.blk h.ps h3, hm.blk h.bp (by omega), hm.blk h.bd (by omega), hm.blk h.br (by omega), hm.blk h.be (by omega), h.mv.trans (hm.two P), h2, h1, h.lp, h.lq⟩
theorem Rk.put {g q cb : Nat} {bs : List Int} {a r n P : Nat} {cnt deep : Int} {w0 : World} {E : Nat} {cs : Array Value} {w : World} (h : Rk g q cb bs a r n P cnt deep w0 E cs w) (i : Nat) (u : Value) (cs' : Array Value) (e : cs.setIfInBounds i u = cs') : Rk g q cb bs a r n P cnt deep w0 E cs' (w.setCell ⟨E, i, none⟩ u) := by
  have h1 := h.lg
  have h2 := h.le
  have h3 := h.lp
  have h4 := h.lq
  have far : ∀ {k : Nat} {o : Obj}, w.heap[k]? = some o → k ≠ E → (w.setCell ⟨E, i, none⟩ u).heap[k]? = some o := fun hb hne => by rw [Below.heap_setCell _ _ _ _ (by simpa using hne)]; exact hb
  exact ⟨h.rs.put (by show E ≠ g; omega) (by show E ≠ q; omega) u, far h.ps (by omega), far h.bp (by omega), far h.bd (by omega), far h.br (by omega), blk_put h.be i u e, h.mv.far h1 (by show w0.heap.size ≤ E; omega) u, h2, h1, h3, h4⟩
theorem Rk.cellE {g q cb : Nat} {bs : List Int} {a r n P : Nat} {cnt deep : Int} {w0 : World} {E : Nat} {cs : Array Value} {w : World} (h : Rk g q cb bs a r n P cnt deep w0 E cs w) (i : Nat) (u : Value) (e : cs[i]? = some u) : w.cell? ⟨E, i, none⟩ = some u := (blk_cell h.be i).trans e
theorem Rk.at {g q cb : Nat} {bs : List Int} {a r n P : Nat} {cnt deep : Int} {w0 : World} {E : Nat} {cs : Array Value} {w : World} (h : Rk g q cb bs a r n P cnt deep w0 E cs w) :
    w.cell? ⟨w0.heap.size, 0, none⟩ = some (.pointer (some ⟨P, 0, none⟩)) ∧ w.cell? ⟨P, 0, none⟩ = some (.pointer (some ⟨g, 0, none⟩)) ∧ ∀ i, w.frozen? ⟨E, i, none⟩ = false :=
  ⟨(blk_cell h.bp 0).trans rfl, (blk_cell h.ps 0).trans rfl, fun i => blk_frozen h.be i⟩
end Go.Proofs.YtpnkifincadakaaGreatDoor.Wr
end
section
namespace Go.Proofs.YtpnkifincadakaaGreatDoor.Wr
open Go.RowKit Go.Pk Go.Proofs.YtpnkifincadakaaGreatDoorW.PrintWords Go.Proofs.YtpnkifincadakaaGreatDoor.PPackSpecs
abbrev put6 (w : World) (N : Nat) (a b d f g : Int) (v : Value) : World := (((((w.setCell ⟨N, 0, none⟩ (.int .i64 a)).setCell ⟨N, 1, none⟩ (.int .i64 b)).setCell ⟨N, 2, none⟩ (.int .i64 d)).setCell ⟨N, 3, none⟩ (.int .i64 f)).setCell ⟨N, 4, none⟩ (.int .i64 g)).setCell ⟨N, 5, none⟩ v
theorem put6_blk {w : World} {N : Nat} (h : w.heap[N]? = some (.cells #[.int .i64 0, .int .i64 0, .int .i64 0, .int .i64 0, .int .i64 0, .slice none 0 0] 40 (0, 0))) (a b d f g : Int) (v : Value) : (put6 w N a b d f g v).heap[N]? = some (.cells #[.int .i64 a, .int .i64 b, .int .i64 d, .int .i64 f, .int .i64 g, v] 40 (0, 0)) :=
  blk_put (cs := #[.int .i64 a, .int .i64 b, .int .i64 d, .int .i64 f, .int .i64 g, .slice none 0 0]) (blk_put (cs := #[.int .i64 a, .int .i64 b, .int .i64 d, .int .i64 f, .int .i64 0, .slice none 0 0]) (blk_put (cs := #[.int .i64 a, .int .i64 b, .int .i64 d, .int .i64 0, .int .i64 0, .slice none 0 0]) (blk_put (cs := #[.int .i64 a, .int .i64 b, .int .i64 0, .int .i64 0, .int .i64 0, .slice none 0 0]) (blk_put (cs := #[.int .i64 a, .int .i64 0, .int .i64 0, .int .i64 0, .int .i64 0, .slice none 0 0]) (blk_put h 0 _ rfl) 1 _ rfl) 2 _ rfl) 3 _ rfl) 4 _ rfl) 5 _ rfl
theorem put6_other {w : World} {N k : Nat} (hk : k ≠ N) (a b d f g : Int) (v : Value) : (put6 w N a b d f g v).heap[k]? = w.heap[k]? := by
  unfold put6
  rw [Below.heap_setCell _ _ _ _ (by simpa using hk), Below.heap_setCell _ _ _ _ (by simpa using hk), Below.heap_setCell _ _ _ _ (by simpa using hk), Below.heap_setCell _ _ _ _ (by simpa using hk), Below.heap_setCell _ _ _ _ (by simpa using hk), Below.heap_setCell _ _ _ _ (by simpa using hk)]
theorem put6_rs {g q cb : Nat} {bs : List Int} {A r n : Nat} {w : World} (h : RS g q cb bs A r n w) {N : Nat} (hg : N ≠ g) (hq : N ≠ q) (a b d f e : Int) (v : Value) : RS g q cb bs A r n (put6 w N a b d f e v) :=
  (((((h.put (p := ⟨N, 0, none⟩) hg hq _).put (p := ⟨N, 1, none⟩) hg hq _).put (p := ⟨N, 2, none⟩) hg hq _).put (p := ⟨N, 3, none⟩) hg hq _).put (p := ⟨N, 4, none⟩) hg hq _).put (p := ⟨N, 5, none⟩) hg hq _
theorem put6_mv {g P : Nat} {w0 w : World} (h : Mv2 g P w0 w) (hg : g < w0.heap.size) {N : Nat} (hN : w0.heap.size ≤ N) (a b d f e : Int) (v : Value) : Mv2 g P w0 (put6 w N a b d f e v) :=
  (((((h.far hg (p := ⟨N, 0, none⟩) hN _).far hg (p := ⟨N, 1, none⟩) hN _).far hg (p := ⟨N, 2, none⟩) hN _).far hg (p := ⟨N, 3, none⟩) hN _).far hg (p := ⟨N, 4, none⟩) hN _).far hg (p := ⟨N, 5, none⟩) hN _
theorem put6_F {α : Type} {d0 : Kd α} {w : World} {ok : Nat → Prop} {A : Option Addr} {n N : Nat} {xs : List α} (h : Kd.F d0 w ok A n xs) (hk : ∀ k, ok k → k ≠ N) (a b d f e : Int) (v : Value) : Kd.F d0 (put6 w N a b d f e v) ok A n xs :=
  Kd.F_step h fun k hok _ => put6_other (hk k hok) a b d f e v
def Got (g q cb : Nat) (bs : List Int) (a r n P : Nat) (cnt : Int) (w : World) (e : S40) (e' : Ending) (w' : World) : Prop :=
  ∃ A c, e' = .returned (.agg #[.int .i64 e.f0, .int .i64 e.f1, .int .i64 e.f2, .int .i64 e.f3, .int .i64 e.f4, .slice A e.f5.length c]) ∧ e.f5.length ≤ c ∧ Kd.F k40 w' (fun k => w.heap.size ≤ k) A e.f5.length e.f5 ∧ RS g q cb bs (a + (encE e).length) r n w' ∧ PS g P (cnt + sizeE e) w' ∧ Mv2 g P w w'
def ReadOk (nn : Nat) : Prop := ∀ (e : S40), sizeE e ≤ nn → rightE e = true → ∀ (g q cb : Nat) (bs : List Int) (a r n P : Nat) (cnt deep : Int) (rest : List Int) (w : World), RS g q cb bs a r n w → PS g P cnt w → 0 ≤ cnt → cnt + sizeE e ≤ 4096 → 1 ≤ deep → deep + depE e ≤ 65 → bs.drop a = encE e ++ rest → rest ≠ [] →
    Calls Tryz.prog 152 #[.pointer (some ⟨P, 0, none⟩), .int .i64 deep] w (Got g q cb bs a r n P cnt w e)
set_option maxHeartbeats 8000000 in
set_option maxRecDepth 100000 in
theorem clo221 (nn : Nat) (IH : ReadOk nn) (e : S40) (hn : sizeE e ≤ nn) (hr : rightE e = true) (g q cb : Nat) (bs : List Int) (a r n P : Nat) (cnt deep : Int) (rest : List Int) (N M : Nat) (w : World) (h : RS g q cb bs a r n w) (hp : PS g P cnt w) (h0 : 0 ≤ cnt) (h1 : cnt + sizeE e ≤ 4096) (h2 : 1 ≤ deep) (h3 : deep + 1 + depE e ≤ 65) (hd : bs.drop a = encE e ++ rest) (hne : rest ≠ [])
    (hbp : w.heap[N]? = some (.cells #[.pointer (some ⟨P, 0, none⟩)] 266 (0, 0))) (hbd : w.heap[M]? = some (.cells #[.int .i64 deep] 3 (0, 0))) :
    Calls Tryz.prog 221 #[.pointer (some ⟨N, 0, none⟩), .pointer (some ⟨M, 0, none⟩)] w (Got g q cb bs a r n P cnt w e) := by
  have hgl := h.glt
  have H := Aside0.mk h
  have hdp := depE_pos e
  have c0 : w.cell? ⟨N, 0, none⟩ = some (.pointer (some ⟨P, 0, none⟩)) := (blk_cell hbp 0).trans rfl
  have c1 : w.cell? ⟨M, 0, none⟩ = some (.int .i64 deep) := (blk_cell hbd 0).trans rfl
  have B0 := Aside0.mk (blk_new w (.cells #[.int .i64 0, .int .i64 0, .int .i64 0, .int .i64 0, .int .i64 0, .slice none 0 0] 40))
  have hA := below_alloc (Below.refl _ w) (.cells #[.int .i64 0, .int .i64 0, .int .i64 0, .int .i64 0, .int .i64 0, .slice none 0 0] 40)
  have c0 := pw_cell_below hA c0
  have c1 := pw_cell_below hA c1
  have hPlt : P < w.heap.size := blk_lt hp
  have HS := Aside0.mk (IH e hn hr g q cb bs a r n P cnt (deep + 1) rest (w.alloc (.cells #[.int .i64 0, .int .i64 0, .int .i64 0, .int .i64 0, .int .i64 0, .slice none 0 0] 40)) (h.below hA) ((hA.block _ hPlt).trans hp) h0 h1 (by omega) h3 hd hne)
  have M0 := Aside0.mk ((Mv.of_below hA (Nat.le_of_lt hgl)).two P)
  clear hp h hd IH hn hr hne hA hbp hbd
  have hd2 : deep ≤ 64 := by omega
  go_enter Tryz.func221, Tryz.ntmps221
  go_wp2_with (go_at_call 152; refine HS.out.mono ?_)
  rintro e' w1 ⟨A, c, rfl, lc, hF, k1, k2, k3⟩
  have B1 := k3.blk B0.out (by omega) (by omega)
  have f0 : w1.frozen? ⟨w.heap.size, 0, none⟩ = false := blk_frozen B1 0
  have f1 : w1.frozen? ⟨w.heap.size, 1, none⟩ = false := blk_frozen B1 1
  have f2 : w1.frozen? ⟨w.heap.size, 2, none⟩ = false := blk_frozen B1 2
  have f3 : w1.frozen? ⟨w.heap.size, 3, none⟩ = false := blk_frozen B1 3
  have f4 : w1.frozen? ⟨w.heap.size, 4, none⟩ = false := blk_frozen B1 4
  have f5 : w1.frozen? ⟨w.heap.size, 5, none⟩ = false := blk_frozen B1 5
  have z0 : w1.cell? ⟨w.heap.size, 0, none⟩ = some (.int .i64 0) := (blk_cell B1 0).trans rfl
  have z1 : w1.cell? ⟨w.heap.size, 1, none⟩ = some (.int .i64 0) := (blk_cell B1 1).trans rfl
  have z2 : w1.cell? ⟨w.heap.size, 2, none⟩ = some (.int .i64 0) := (blk_cell B1 2).trans rfl
  have z3 : w1.cell? ⟨w.heap.size, 3, none⟩ = some (.int .i64 0) := (blk_cell B1 3).trans rfl
  have z4 : w1.cell? ⟨w.heap.size, 4, none⟩ = some (.int .i64 0) := (blk_cell B1 4).trans rfl
  have z5 : w1.cell? ⟨w.heap.size, 5, none⟩ = some (.slice none 0 0) := (blk_cell B1 5).trans rfl
  have B1 := Aside0.mk B1
  have F1 := Aside0.mk hF
  have R1 := Aside0.mk k1
  have P1 := Aside0.mk k2
  have M1 := Aside0.mk (M0.out.trans k3)
  clear k1 k2 k3 hF
  go_wp2
  have hne1 := P1.out.ne_g R1.out
  have hq := H.out.qlt
  refine bodyPost_ret (results_cell_row rfl _ _ w.heap.size 40 #[.int .i64 e.f0, .int .i64 e.f1, .int .i64 e.f2, .int .i64 e.f3, .int .i64 e.f4, .slice A e.f5.length c] (0, 0) _ rfl (put6_blk B1.out _ _ _ _ _ _) Tryz.underlying40 rfl (by kernel_rfl)) rfl ?_
  refine ⟨A, c, rfl, lc, ?_, ?_, ?_, ?_⟩
  · exact Kd.F_mono (put6_F F1.out (fun k hk e => by simp at hk; omega) _ _ _ _ _ _) fun k hk => by simp at hk; omega
  · exact put6_rs R1.out (by omega) (by omega) _ _ _ _ _ _
  · exact (put6_other (by omega) _ _ _ _ _ _).trans P1.out
  · exact put6_mv M1.out hgl (Nat.le_refl _) _ _ _ _ _ _
theorem N_mv2 {α : Type} {d : Kd α} {e g P B : Nat} {w w' : World} {v : Value} {xs : List α} (h : Kd.N d e w B (fun k => B ≤ k) v xs) (hm : Mv2 g P w w') (hg : g < B) (hP : P < B) : Kd.N d e w' B (fun k => B ≤ k) v xs :=
  Kd.N_step h fun k hk hlt => hm.keep k hlt (by omega) (by omega)
theorem sizeL_take_succ {xs : List S40} {k : Nat} (h : k < xs.length) : sizeL (xs.take (k + 1)) = sizeL (xs.take k) + sizeE xs[k] := by
  rw [List.take_succ_eq_append_getElem h, sizeL_append]
  simp [sizeL]
theorem sizeL_take_le (xs : List S40) (k : Nat) : sizeL (xs.take k) ≤ sizeL xs := by
  conv => rhs; rw [← List.take_append_drop k xs, sizeL_append]
  omega
theorem rightL_mem : ∀ {l : List S40}, rightL l = true → ∀ x, x ∈ l → rightE x = true
  | y :: r, h, x, hx => by
    simp only [rightL, Bool.and_eq_true] at h
    rcases List.mem_cons.1 hx with rfl | hx
    · exact h.1
    · exact rightL_mem h.2 x hx
theorem depL_mem : ∀ {l : List S40} (x : S40), x ∈ l → depE x ≤ depL l
  | y :: r, x, hx => by
    simp only [depL]
    rcases List.mem_cons.1 hx with rfl | hx
    · omega
    · have := depL_mem x hx; omega
set_option maxHeartbeats 8000000 in
set_option maxRecDepth 100000 in
theorem list220 (nn : Nat) (IH : ReadOk nn) (xs : List S40) (hx : ∀ x, x ∈ xs → sizeE x ≤ nn) (hr : rightL xs = true) (g q cb : Nat) (bs : List Int) (a r n P : Nat) (cnt deep : Int) (rest : List Int) (N M : Nat) (w : World) (h : RS g q cb bs a r n w) (hp : PS g P cnt w) (h0 : 0 ≤ cnt) (h1 : cnt + sizeL xs ≤ 4096) (h2 : 1 ≤ deep) (h3 : deep + 1 + depL xs ≤ 65) (hd : bs.drop a = xs.flatMap encE ++ rest) (hne : rest ≠ [])
    (hbp : w.heap[N]? = some (.cells #[.pointer (some ⟨P, 0, none⟩)] 266 (0, 0))) (hbd : w.heap[M]? = some (.cells #[.int .i64 deep] 3 (0, 0))) (hN : N ≠ g ∧ N ≠ P ∧ M ≠ g ∧ M ≠ P) :
    Calls Tryz.prog 220 #[.int .i64 xs.length, .func (.func 221) #[] #[.pointer (some ⟨N, 0, none⟩), .pointer (some ⟨M, 0, none⟩)]] w fun e w' => ∃ A c, e = .returned (.slice A xs.length c) ∧ xs.length ≤ c ∧ Kd.F k40 w' (fun k => w.heap.size ≤ k) A xs.length xs ∧ RS g q cb bs (a + (xs.flatMap encE).length) r n w' ∧ PS g P (cnt + sizeL xs) w' ∧ Mv2 g P w w' := by
  have H := Aside0.mk h
  have HX := Aside0.mk fun x hm => And.intro (hx x hm) (rightL_mem hr x hm)
  have HD := Aside0.mk hd
  have HP := Aside0.mk hp
  have HBP := Aside0.mk hbp
  have HBD := Aside0.mk hbd
  have HNE := Aside0.mk hN
  have hgl := h.glt
  have hPl : P < w.heap.size := blk_lt hp
  have hll := length_le_sizeL xs
  have hl : xs.length ≤ 4096 := by omega
  clear hll
  have HI := Aside0.mk IH
  have H1 := Aside0.mk h1
  have H3 := Aside0.mk h3
  clear h hx hd hp hbp hbd hr IH h1 h3 hN
  go_enter Tryz.func220, Tryz.ntmps220
  go_wp2
  go_loopw [5, 7] (fun v i wr => ∃ k : Nat, k ≤ xs.length ∧ i = .int .i64 k ∧ Aside0 (Kd.N k40 40 wr w.heap.size (fun k => w.heap.size ≤ k) v (xs.take k)) ∧ Aside0 (RS g q cb bs (a + ((xs.take k).flatMap encE).length) r n wr ∧ bs.drop (a + ((xs.take k).flatMap encE).length) = (xs.drop k).flatMap encE ++ rest ∧ PS g P (cnt + sizeL (xs.take k)) wr) ∧ Aside0 (Mv2 g P w wr)) (fun _ i _ => xs.length - (intOf i).toNat)
  case atStart => exact ⟨0, Nat.zero_le _, rfl, ⟨Kd.N_nil _ _ _ _ _⟩, ⟨H.out, by simpa using HD.out, by simpa [sizeL] using HP.out⟩, ⟨Mv2.refl _ _ _⟩⟩
  case round =>
    obtain ⟨k, hk, rfl, hN, hR, hM⟩ := hrel
    by_cases hlt : k < xs.length
    · have hdk := hR.out.2.1
      rw [flat_take encE xs k hlt, List.append_assoc] at hdk
      have hrest : (xs.drop (k + 1)).flatMap encE ++ rest ≠ [] := by simp [hne]
      have hmem := List.getElem_mem hlt
      have hst := sizeL_take_succ hlt
      have hsl := sizeL_take_le xs (k + 1)
      have hdm := depL_mem _ hmem
      have HS := Aside0.mk (clo221 nn HI.out xs[k] (HX.out _ hmem).1 (HX.out _ hmem).2 g q cb bs _ r n P _ deep _ N M wr hR.out.1 hR.out.2.2 (by omega) (by have := H1.out; omega) h2 (by have := H3.out; omega) hdk hrest (hM.out.blk HBP.out HNE.out.1 HNE.out.2.1) (hM.out.blk HBD.out HNE.out.2.2.1 HNE.out.2.2.2))
      have hsn := flat_snoc' encE xs k hlt
      have hdn := drop_more hdk
      have HT : Aside0 (xs.take (k + 1) = xs.take k ++ [xs[k]]) := ⟨List.take_succ_eq_append_getElem hlt⟩
      rw [Nat.add_assoc] at hdn
      have HSN := Aside0.mk hsn
      have HDN := Aside0.mk hdn
      have HST := Aside0.mk hst
      have hlen : (xs.take k).length = k := by rw [List.length_take]; omega
      have HLEN := Aside0.mk hlen
      clear hdk hrest hsn hdn hlen hmem hst hsl hdm
      generalize xs[k] = x at *
      go_wp2_with fail
      refine HS.out.mono ?_
      rintro e w5 ⟨A1, c1, rfl, l1, g1, h1, h4, h5⟩
      have HR5 := Aside0.mk h1
      have HP5 := Aside0.mk h4
      have HM5 := Aside0.mk (hM.out.trans h5)
      have HN5 := Aside0.mk (N_mv2 hN.out h5 hgl hPl)
      have hsz := h5.size
      clear h1 h4 h5
      go_wp2_with (at_builtin; refine Kd.N_append k40 (w0 := w5) w.heap.size rfl (.tmp 9) (.tmp 12) 38 40 (.agg #[.int .i64 0, .int .i64 0, .int .i64 0, .int .i64 0, .int .i64 0, .slice none 0 0]) 64 rfl Tryz.underlying38 info40 rfl (by decide) (by omega) u5 (xs.take k) x [.int .i64 x.f0, .int .i64 x.f1, .int .i64 x.f2, .int .i64 x.f3, .int .i64 x.f4, .slice A1 x.f5.length c1] (fun k => w.heap.size ≤ k) (fun k => wr.heap.size ≤ k) rfl rfl (k40_mkF _ _ x l1 g1) ?o1 ?o2 HN5.out (Below.refl _ _) ?o3 ?o4 ?_)
      case o1 => exact fun k hk => ⟨Nat.le_trans hM.out.size hk, fun e => absurd (Kd.N_lt hN.out k e.symm) (by omega)⟩
      case o2 => exact fun k hk => Nat.le_trans HM5.out.size hk
      case o3 => exact HM5.out.size
      case o4 => rw [HLEN.out]; omega
      intro v1 w6 hN6 hB6 _ _
      have HN6 := Aside0.mk hN6
      have HR6 := Aside0.mk (HR5.out.base H.out hB6 HM5.out.size)
      have HP6 := Aside0.mk ((hB6.block _ hPl).trans HP5.out)
      have HM6 := Aside0.mk (HM5.out.base hB6 hgl)
      clear hN6 hB6
      go_wp2
      go_roundw
      case rel => exact ⟨k + 1, by omega, by go_num, ⟨by rw [HT.out]; exact HN6.out⟩, ⟨by rw [HSN.out, ← Nat.add_assoc]; exact HR6.out, by rw [HSN.out]; exact HDN.out, by rw [HST.out]; unfold PS; rw [HP6.out, Int.natCast_add, ← Int.add_assoc]⟩, HM6⟩
      case measure => simp [intOf]; omega
    · obtain rfl : k = xs.length := by omega
      rw [List.take_length] at hN hR
      obtain ⟨A, c, rfl, lc, _⟩ := Kd.N_reads hN.out
      have HF := Aside0.mk (Kd.N_F hN.out)
      go_wp2
      go_ret
      exact ⟨A, c, rfl, by omega, HF.out, hR.out.1, hR.out.2.2, hM.out⟩
end Go.Proofs.YtpnkifincadakaaGreatDoor.Wr
end
section
namespace Go.Proofs.YtpnkifincadakaaGreatDoor.Wr
open Go.RowKit Go.Pk Go.Proofs.YtpnkifincadakaaGreatDoorW.PrintWords Go.Proofs.YtpnkifincadakaaGreatDoor.PPackSpecs
theorem le2 {bs rest : List Int} {a : Nat} {x y : Int} (hd : bs.drop a = b2 x ++ rest) (h : x % 65536 = y) : leN ((bs.drop a).take 2) = y := by
  rw [hd]
  simp only [b2, List.cons_append, List.nil_append, List.take_succ_cons, List.take_zero, leN]
  omega
set_option maxHeartbeats 16000000 in
set_option maxRecDepth 100000 in
theorem read_step (nn : Nat) (IH : ReadOk nn) : ReadOk (nn + 1) := by
  intro e hn hr g q cb bs a r n P cnt deep rest w h hp h0 h1 h2 h3 hd hne
  have hdp := depE_eq e
  have hsz := sizeE_eq e
  rw [hsz] at hn h1
  rw [hdp] at h3
  have hee := encE_eq e
  rw [hee, encL_flat] at hd
  rw [rightE_eq, Bool.and_eq_true] at hr
  obtain ⟨ho, hrl⟩ := hr
  have hk := ownOk_kind ho
  have hgl := h.glt
  have hPl : P < w.heap.size := blk_lt hp
  have hql := h.qlt
  have hPg := hp.ne_g h
  have hPq := hp.ne_q h
  have hc1 : cnt ≤ 4095 := by omega
  have hA1 := below_alloc (Below.refl _ w) (.cells #[.pointer (some ⟨P, 0, none⟩)] 266)
  have hA2 := below_alloc hA1 (.cells #[.int .i64 deep] 3)
  have hA3 := below_alloc hA2 (.cells #[.int .i64 0, .int .i64 0, .int .i64 0, .int .i64 0, .int .i64 0, .slice none 0 0] 40)
  have hR0 := h.below hA3
  have hb1 := blk_alloc (blk_alloc (blk_new w (.cells #[.pointer (some ⟨P, 0, none⟩)] 266)) (.cells #[.int .i64 deep] 3)) (.cells #[.int .i64 0, .int .i64 0, .int .i64 0, .int .i64 0, .int .i64 0, .slice none 0 0] 40)
  have hb2 := blk_alloc (blk_new (w.alloc (.cells #[.pointer (some ⟨P, 0, none⟩)] 266)) (.cells #[.int .i64 deep] 3)) (.cells #[.int .i64 0, .int .i64 0, .int .i64 0, .int .i64 0, .int .i64 0, .slice none 0 0] 40)
  have hb3 := blk_new ((w.alloc (.cells #[.pointer (some ⟨P, 0, none⟩)] 266)).alloc (.cells #[.int .i64 deep] 3)) (.cells #[.int .i64 0, .int .i64 0, .int .i64 0, .int .i64 0, .int .i64 0, .slice none 0 0] 40)
  rw [World.size_alloc] at hb2
  rw [World.size_alloc, World.size_alloc] at hb3
  have hP0 := (hA3.block _ hPl).trans hp
  have hhd : ∃ t, headE e = e.f0 :: t := ⟨_, by unfold headE b1; rw [show e.f0 % 256 = e.f0 by omega]; rfl⟩
  obtain ⟨t, hht⟩ := hhd
  have hd0 : bs.drop a = e.f0 :: (t ++ (e.f5.flatMap encE ++ rest)) := by rw [hd, hht]; simp
  have hlen := left_len hd0 (by simp)
  have hpp := List.length_pos_iff.2 hne
  simp only [List.length_cons, List.length_append] at hlen
  have HNUM := Aside0.mk (number151 g q cb bs a r n 1 _ hR0 (by omega) (by omega) (by omega))
  rw [le1 hd0] at HNUM
  have q1 : decide (e.f0 < 1) = false := decide_eq_false (by omega)
  have q2 : decide (4 < e.f0) = false := decide_eq_false (by omega)
  have q3 : decide (64 < deep) = false := decide_eq_false (by omega)
  have q4 : decide (4096 < cnt + 1) = false := decide_eq_false (by omega)
  have p0 : (((w.alloc (.cells #[.pointer (some ⟨P, 0, none⟩)] 266)).alloc (.cells #[.int .i64 deep] 3)).alloc (.cells #[.int .i64 0, .int .i64 0, .int .i64 0, .int .i64 0, .int .i64 0, .slice none 0 0] 40)).cell? ⟨P, 0, none⟩ = some (.pointer (some ⟨g, 0, none⟩)) := (blk_cell hP0 0).trans rfl
  have HE := Aside0.mk (And.intro hee hd)
  have HO := Aside0.mk ho
  have HRL := Aside0.mk hrl
  have HN := Aside0.mk hn
  have H1 := Aside0.mk h1
  have H3 := Aside0.mk h3
  have HSZ := Aside0.mk hsz
  have HK := Aside0.mk hk
  have B1 := Aside0.mk hb1
  have B2 := Aside0.mk hb2
  have B3 := Aside0.mk hb3
  have BP := Aside0.mk hP0
  have M0 := Aside0.mk (Mv.of_below hA3 (Nat.le_of_lt hgl))
  have H := Aside0.mk h
  clear hdp hsz hn h1 h3 hee hd ho hrl hk hA1 hA2 hA3 hR0 hb1 hb2 hb3 hP0 h hp hht hd0 hlen
  go_enter Tryz.func152, Tryz.ntmps152
  go_wp2_with (go_at_call 151; refine HNUM.out.mono ?_)
  first | rintro e' w1 rfl k1 k2 | rintro e' w1 ⟨rfl, k1, k2⟩
  have C1 := k2.blk B1.out (by omega)
  have C2 := k2.blk B2.out (by omega)
  have C3 := k2.blk B3.out (by omega)
  have CP := k2.blk BP.out hPg
  have r0 : w1.cell? ⟨w.heap.size, 0, none⟩ = some (.pointer (some ⟨P, 0, none⟩)) := (blk_cell C1 0).trans rfl
  have r1 : w1.cell? ⟨w.heap.size + 1, 0, none⟩ = some (.int .i64 deep) := (blk_cell C2 0).trans rfl
  have r2 : w1.cell? ⟨P, 1, none⟩ = some (.int .i64 cnt) := (blk_cell CP 1).trans rfl
  have r3 : w1.frozen? ⟨P, 1, none⟩ = false := blk_frozen CP 1
  have far : ∀ {k : Nat} {o : Obj}, w1.heap[k]? = some o → k ≠ P → (w1.setCell ⟨P, 1, none⟩ (.int .i64 (cnt + 1))).heap[k]? = some o := fun hb hne => by rw [Below.heap_setCell _ _ _ _ (by simpa using hne)]; exact hb
  have hbe := blk_new (w1.setCell ⟨P, 1, none⟩ (.int .i64 (cnt + 1))) (.cells #[.int .i64 e.f0, .int .i64 0, .int .i64 0, .int .i64 0, .int .i64 0, .slice none 0 0] 40)
  rw [show (w1.setCell ⟨P, 1, none⟩ (.int .i64 (cnt + 1))).heap.size = w1.heap.size by simp] at hbe
  have hle : w.heap.size + 3 ≤ w1.heap.size := by have := k2.size; simp at this; omega
  have K0 : Rk g q cb bs (a + 1) r n P (cnt + 1) deep w w1.heap.size #[.int .i64 e.f0, .int .i64 0, .int .i64 0, .int .i64 0, .int .i64 0, .slice none 0 0] ((w1.setCell ⟨P, 1, none⟩ (.int .i64 (cnt + 1))).alloc (.cells #[.int .i64 e.f0, .int .i64 0, .int .i64 0, .int .i64 0, .int .i64 0, .slice none 0 0] 40)) :=
    ⟨(k1.put (p := ⟨P, 1, none⟩) hPg (fun e => hPq e.symm) _).alloc _, blk_alloc (blk_put (cs := #[.pointer (some ⟨g, 0, none⟩), .int .i64 cnt]) CP 1 _ rfl) _, blk_alloc (far C1 (by omega)) _, blk_alloc (far C2 (by omega)) _, blk_alloc (far C3 (by omega)) _, hbe, ((((M0.out.trans k2).two P).setP 1 _).alloc hgl _), hle, hgl, hPl, hql⟩
  have HK0 := Aside0.mk K0
  clear K0 hbe far k1 k2 C1 C2 C3 CP
  go_upto_block 0 with (fail)
  obtain ⟨w2, hw2⟩ : ∃ w2, w2 = (w1.setCell ⟨P, 1, none⟩ (.int .i64 (cnt + 1))).alloc (.cells #[.int .i64 e.f0, .int .i64 0, .int .i64 0, .int .i64 0, .int .i64 0, .slice none 0 0] 40) := ⟨_, rfl⟩
  rw [← hw2] at HK0 ⊢
  clear hw2 r0 r1 r2 r3
  go_cut [8, 9] (fun p o wx => p = .int .i64 e.f5.length ∧ o = .bool true ∧ Aside0 (Rk g q cb bs (a + (headE e).length) r n P (cnt + 1) deep w w1.heap.size #[.int .i64 e.f0, .int .i64 e.f1, .int .i64 e.f2, .int .i64 e.f3, .int .i64 e.f4, .slice none 0 0] wx))
  case first =>
    have hR : e.f5.flatMap encE ++ rest ≠ [] := by simp [hne]
    have hL : e.f5.length ≤ 4096 := by have := length_le_sizeL e.f5; have := H1.out; omega
    have hlenR := List.length_pos_iff.2 hR
    have T : (e.f0 = 1 ∧ (0 ≤ e.f1 ∧ e.f1 ≤ e.f2 ∧ e.f2 ≤ 255) ∧ e.f3 = 0 ∧ e.f4 = 0 ∧ e.f5.length = 0 ∧ (headE e).length = 3 ∧ bs.drop (a + 1) = e.f1 :: e.f2 :: (e.f5.flatMap encE ++ rest)) ∨
        ((e.f0 = 2 ∧ e.f5.length = 0 ∨ e.f0 = 2 ∧ 1 < e.f5.length ∨ e.f0 = 3 ∧ 1 < e.f5.length) ∧ e.f1 = 0 ∧ e.f2 = 0 ∧ e.f3 = 0 ∧ e.f4 = 0 ∧ (headE e).length = 3 ∧ bs.drop (a + 1) = b2 e.f5.length ++ (e.f5.flatMap encE ++ rest)) ∨
        (e.f0 = 4 ∧ e.f1 = 0 ∧ e.f2 = 0 ∧ e.f5.length = 1 ∧ (0 ≤ e.f3 ∧ e.f3 ≤ 1000) ∧ (e.f4 = -1 ∨ e.f3 ≤ e.f4 ∧ e.f4 ≤ 1000) ∧ (headE e).length = 5 ∧ bs.drop (a + 1) = b2 e.f3 ++ (b2 e.f4 ++ (e.f5.flatMap encE ++ rest))) := by
      have ho := HO.out
      have hd := HE.out.2
      have hd1 : ∀ t, headE e = (e.f0 % 256) :: t → bs.drop (a + 1) = t ++ (e.f5.flatMap encE ++ rest) := fun t ht => by
        rw [← List.drop_drop, hd, ht]
        simp
      unfold ownOk at ho
      rcases HK.out with h | h | h | h
      · rw [if_pos h, decide_eq_true_eq] at ho
        have hh : headE e = (e.f0 % 256) :: [e.f1, e.f2] := by
          unfold headE b1
          rw [if_pos h, show e.f1 % 256 = e.f1 by omega, show e.f2 % 256 = e.f2 by omega]
          rfl
        exact .inl ⟨h, by omega, by omega, by omega, by omega, by rw [hh]; rfl, hd1 _ hh⟩
      · rw [if_neg (by omega), if_pos h, decide_eq_true_eq] at ho
        have hh : headE e = (e.f0 % 256) :: b2 e.f5.length := by
          unfold headE b1
          rw [if_neg (by omega), if_neg (by omega)]
          rfl
        exact .inr (.inl ⟨by omega, by omega, by omega, by omega, by omega, by rw [hh]; rfl, hd1 _ hh⟩)
      · rw [if_neg (by omega), if_neg (by omega), if_pos h, decide_eq_true_eq] at ho
        have hh : headE e = (e.f0 % 256) :: b2 e.f5.length := by
          unfold headE b1
          rw [if_neg (by omega), if_neg (by omega)]
          rfl
        exact .inr (.inl ⟨by omega, by omega, by omega, by omega, by omega, by rw [hh]; rfl, hd1 _ hh⟩)
      · rw [if_neg (by omega), if_neg (by omega), if_neg (by omega), if_pos h, decide_eq_true_eq] at ho
        have hh : headE e = (e.f0 % 256) :: (b2 e.f3 ++ b2 e.f4) := by
          unfold headE b1
          rw [if_neg (by omega), if_pos h]
          rfl
        exact .inr (.inr ⟨h, by omega, by omega, by omega, by omega, by omega, by rw [hh]; rfl, by rw [hd1 _ hh, List.append_assoc]⟩)
    clear HE HO HRL HN H1 H3 HSZ HK hne hpp q1 q2 IH
    generalize e.f5.flatMap encE ++ rest = R at *
    generalize (headE e).length = hl at *
    generalize e.f5.length = L at *
    generalize e.f0 = x0 at *
    generalize e.f1 = x1 at *
    generalize e.f2 = x2 at *
    generalize e.f3 = x3 at *
    generalize e.f4 = x4 at *
    rcases T with ⟨rfl, ⟨g1, g2, g3⟩, rfl, rfl, rfl, rfl, hd1⟩ | ⟨hx, rfl, rfl, rfl, rfl, rfl, hd1⟩ | ⟨rfl, rfl, rfl, rfl, ⟨g1, g2⟩, hx, rfl, hd1⟩
    · have hd2 : bs.drop (a + 1 + 1) = x2 :: R := by rw [← List.drop_drop, hd1]; rfl
      have hll := left_len hd1 (by simp)
      simp only [List.length_cons] at hll
      have HN1 := Aside0.mk (number151 g q cb bs (a + 1) r n 1 w2 HK0.out.rs (by omega) (by omega) (by omega))
      rw [le1 hd1] at HN1
      have HN2 := Aside0.mk fun w' (h : RS g q cb bs (a + 1 + 1) r n w') => number151 g q cb bs (a + 1 + 1) r n 1 w' h (by omega) (by omega) (by omega)
      rw [le1 hd2] at HN2
      obtain ⟨t0, t1, _⟩ := HK0.out.at
      clear hd1 hd2
      go_wp2_with (go_at_call 151; refine HN1.out.mono ?_)
      first | rintro e' w3 rfl k1 k2 | rintro e' w3 ⟨rfl, k1, k2⟩
      have K3 := HK0.out.num k1 k2
      obtain ⟨_, _, t2⟩ := K3.at
      have t3 := K3.cellE 1 _ rfl
      have K4 := K3.put 1 (.int .i64 x1) _ rfl
      obtain ⟨t4, t5, _⟩ := K4.at
      have K4 := Aside0.mk K4
      clear K3 k1 k2
      go_wp2_with (go_at_call 151; refine (HN2.out _ K4.out.rs).mono ?_)
      first | rintro e' w5 rfl k1 k2 | rintro e' w5 ⟨rfl, k1, k2⟩
      have K5 := K4.out.num k1 k2
      obtain ⟨_, _, t6⟩ := K5.at
      have t7 := K5.cellE 2 _ rfl
      have K6 := K5.put 2 (.int .i64 x2) _ rfl
      have t8 := K6.cellE 1 _ rfl
      have t9 := K6.cellE 2 _ rfl
      have K6 := Aside0.mk K6
      clear K5 k1 k2
      go_wp2_with fail
      go_meet
      exact ⟨rfl, rfl, K6⟩
    · have hll := left_len hd1 (by simp [b2])
      simp only [List.length_append, b2, List.length_cons, List.length_nil] at hll
      have HN1 := Aside0.mk (number151 g q cb bs (a + 1) r n 2 w2 HK0.out.rs (by omega) (by omega) (by omega))
      rw [le2 hd1 (show (L : Int) % 65536 = L by omega)] at HN1
      obtain ⟨t0, t1, _⟩ := HK0.out.at
      clear hd1
      rcases hx with ⟨rfl, rfl⟩ | ⟨rfl, gl⟩ | ⟨rfl, gl⟩
      all_goals
        go_wp2_with (go_at_call 151; refine HN1.out.mono ?_)
        first | rintro e' w3 rfl k1 k2 | rintro e' w3 ⟨rfl, k1, k2⟩
        have K3 := Aside0.mk (HK0.out.num k1 k2)
        clear k1 k2
        go_wp2_with fail
        go_meet
        exact ⟨rfl, rfl, K3⟩
    · have hd2 : bs.drop (a + 1 + 2) = b2 x4 ++ R := drop_more hd1
      have hll := left_len hd1 (by simp [b2])
      simp only [List.length_append, b2, List.length_cons, List.length_nil] at hll
      have HN1 := Aside0.mk (number151 g q cb bs (a + 1) r n 2 w2 HK0.out.rs (by omega) (by omega) (by omega))
      rw [le2 hd1 (show x3 % 65536 = x3 by omega)] at HN1
      obtain ⟨y, hy⟩ : ∃ y, y = x4 % 65536 := ⟨_, rfl⟩
      have HN2 := Aside0.mk fun w' (h : RS g q cb bs (a + 1 + 2) r n w') => number151 g q cb bs (a + 1 + 2) r n 2 w' h (by omega) (by omega) (by omega)
      rw [le2 hd2 hy.symm] at HN2
      obtain ⟨t0, t1, _⟩ := HK0.out.at
      clear hd1 hd2
      rcases hx with rfl | ⟨gx, gy⟩
      · obtain rfl : y = 65535 := by omega
        clear hy
        go_wp2_with (go_at_call 151; refine HN1.out.mono ?_)
        first | rintro e' w3 rfl k1 k2 | rintro e' w3 ⟨rfl, k1, k2⟩
        have K3 := HK0.out.num k1 k2
        obtain ⟨_, _, t2⟩ := K3.at
        have t3 := K3.cellE 3 _ rfl
        have K4 := K3.put 3 (.int .i64 x3) _ rfl
        obtain ⟨t4, t5, _⟩ := K4.at
        have K4 := Aside0.mk K4
        clear K3 k1 k2
        go_wp2_with (go_at_call 151; refine (HN2.out _ K4.out.rs).mono ?_)
        first | rintro e' w5 rfl k1 k2 | rintro e' w5 ⟨rfl, k1, k2⟩
        have K5 := K4.out.num k1 k2
        obtain ⟨_, _, t6⟩ := K5.at
        have t7 := K5.cellE 4 _ rfl
        have K6 := K5.put 4 (.int .i64 65535) _ rfl
        obtain ⟨_, _, u6⟩ := K6.at
        have t8 := K6.cellE 3 _ rfl
        have t9 := K6.cellE 4 _ rfl
        have K7 := K6.put 4 (.int .i64 (-1)) _ rfl
        have v8 := K7.cellE 3 _ rfl
        have v9 := K7.cellE 4 _ rfl
        have K7 := Aside0.mk K7
        clear K5 K6 k1 k2
        go_wp2_with fail
        go_meet
        exact ⟨rfl, rfl, K7⟩
      · obtain rfl : y = x4 := by omega
        clear hy
        obtain ⟨z1, z2⟩ := bf (show y ≠ 65535 by omega)
        have z3 : decide (y < 0) = false := decide_eq_false (by omega)
        go_wp2_with (go_at_call 151; refine HN1.out.mono ?_)
        first | rintro e' w3 rfl k1 k2 | rintro e' w3 ⟨rfl, k1, k2⟩
        have K3 := HK0.out.num k1 k2
        obtain ⟨_, _, t2⟩ := K3.at
        have t3 := K3.cellE 3 _ rfl
        have K4 := K3.put 3 (.int .i64 x3) _ rfl
        obtain ⟨t4, t5, _⟩ := K4.at
        have K4 := Aside0.mk K4
        clear K3 k1 k2
        go_wp2_with (go_at_call 151; refine (HN2.out _ K4.out.rs).mono ?_)
        first | rintro e' w5 rfl k1 k2 | rintro e' w5 ⟨rfl, k1, k2⟩
        have K5 := K4.out.num k1 k2
        obtain ⟨_, _, t6⟩ := K5.at
        have t7 := K5.cellE 4 _ rfl
        have K6 := K5.put 4 (.int .i64 y) _ rfl
        have t8 := K6.cellE 3 _ rfl
        have t9 := K6.cellE 4 _ rfl
        have K6 := Aside0.mk K6
        clear K5 k1 k2
        go_wp2_with fail
        go_meet
        exact ⟨rfl, rfl, K6⟩
  case rest =>
    obtain ⟨rfl, rfl, hK⟩ := hcut
    have hee := HE.out
    have hdr : bs.drop (a + (headE e).length) = e.f5.flatMap encE ++ rest := drop_more (by rw [hee.2, List.append_assoc])
    have hL := list220 nn IH e.f5 (fun x hx => by have := mem_size _ _ hx; have := HN.out; omega) HRL.out g q cb bs _ r n P (cnt + 1) deep rest w.heap.size (w.heap.size + 1) wc hK.out.rs hK.out.ps (by omega) (by have := H1.out; omega) h2 (by have := H3.out; omega) hdr hne hK.out.bp hK.out.bd ⟨by omega, by omega, by omega, by omega⟩
    have HL := Aside0.mk hL
    have hlE := hK.out.le
    have hEl : w1.heap.size < wc.heap.size := blk_lt hK.out.be
    clear hee hdr hL
    go_wp2_with (go_at_call 220; refine HL.out.mono ?_)
    rintro e' w4 ⟨A, c, rfl, lc, hF, j1, j2, j3⟩
    have E4 := j3.blk hK.out.be (by omega) (by omega)
    have R4 := j3.blk hK.out.br (by omega) (by omega)
    have c0 : w4.cell? ⟨w1.heap.size, 0, none⟩ = some (.int .i64 e.f0) := (blk_cell E4 0).trans rfl
    have c1 : w4.cell? ⟨w1.heap.size, 1, none⟩ = some (.int .i64 e.f1) := (blk_cell E4 1).trans rfl
    have c2 : w4.cell? ⟨w1.heap.size, 2, none⟩ = some (.int .i64 e.f2) := (blk_cell E4 2).trans rfl
    have c3 : w4.cell? ⟨w1.heap.size, 3, none⟩ = some (.int .i64 e.f3) := (blk_cell E4 3).trans rfl
    have c4 : w4.cell? ⟨w1.heap.size, 4, none⟩ = some (.int .i64 e.f4) := (blk_cell E4 4).trans rfl
    have c5 : w4.cell? ⟨w1.heap.size, 5, none⟩ = some (.slice none 0 0) := (blk_cell E4 5).trans rfl
    have d5 : w4.frozen? ⟨w1.heap.size, 5, none⟩ = false := blk_frozen E4 5
    have R5 : (w4.setCell ⟨w1.heap.size, 5, none⟩ (.slice A e.f5.length c)).heap[w.heap.size + 1 + 1]? = some (.cells #[.int .i64 0, .int .i64 0, .int .i64 0, .int .i64 0, .int .i64 0, .slice none 0 0] 40 (0, 0)) := by
      rw [Below.heap_setCell _ _ _ _ (by show w.heap.size + 1 + 1 ≠ w1.heap.size; omega)]; exact R4
    have f0 : (w4.setCell ⟨w1.heap.size, 5, none⟩ (.slice A e.f5.length c)).frozen? ⟨w.heap.size + 1 + 1, 0, none⟩ = false := blk_frozen R5 0
    have f1 : (w4.setCell ⟨w1.heap.size, 5, none⟩ (.slice A e.f5.length c)).frozen? ⟨w.heap.size + 1 + 1, 1, none⟩ = false := blk_frozen R5 1
    have f2 : (w4.setCell ⟨w1.heap.size, 5, none⟩ (.slice A e.f5.length c)).frozen? ⟨w.heap.size + 1 + 1, 2, none⟩ = false := blk_frozen R5 2
    have f3 : (w4.setCell ⟨w1.heap.size, 5, none⟩ (.slice A e.f5.length c)).frozen? ⟨w.heap.size + 1 + 1, 3, none⟩ = false := blk_frozen R5 3
    have f4 : (w4.setCell ⟨w1.heap.size, 5, none⟩ (.slice A e.f5.length c)).frozen? ⟨w.heap.size + 1 + 1, 4, none⟩ = false := blk_frozen R5 4
    have f5 : (w4.setCell ⟨w1.heap.size, 5, none⟩ (.slice A e.f5.length c)).frozen? ⟨w.heap.size + 1 + 1, 5, none⟩ = false := blk_frozen R5 5
    have z0 : (w4.setCell ⟨w1.heap.size, 5, none⟩ (.slice A e.f5.length c)).cell? ⟨w.heap.size + 1 + 1, 0, none⟩ = some (.int .i64 0) := (blk_cell R5 0).trans rfl
    have z1 : (w4.setCell ⟨w1.heap.size, 5, none⟩ (.slice A e.f5.length c)).cell? ⟨w.heap.size + 1 + 1, 1, none⟩ = some (.int .i64 0) := (blk_cell R5 1).trans rfl
    have z2 : (w4.setCell ⟨w1.heap.size, 5, none⟩ (.slice A e.f5.length c)).cell? ⟨w.heap.size + 1 + 1, 2, none⟩ = some (.int .i64 0) := (blk_cell R5 2).trans rfl
    have z3 : (w4.setCell ⟨w1.heap.size, 5, none⟩ (.slice A e.f5.length c)).cell? ⟨w.heap.size + 1 + 1, 3, none⟩ = some (.int .i64 0) := (blk_cell R5 3).trans rfl
    have z4 : (w4.setCell ⟨w1.heap.size, 5, none⟩ (.slice A e.f5.length c)).cell? ⟨w.heap.size + 1 + 1, 4, none⟩ = some (.int .i64 0) := (blk_cell R5 4).trans rfl
    have z5 : (w4.setCell ⟨w1.heap.size, 5, none⟩ (.slice A e.f5.length c)).cell? ⟨w.heap.size + 1 + 1, 5, none⟩ = some (.slice none 0 0) := (blk_cell R5 5).trans rfl
    have F4 := Aside0.mk hF
    have J1 := Aside0.mk j1
    have J2 := Aside0.mk j2
    have J3 := Aside0.mk (hK.out.mv.trans j3)
    have R5 := Aside0.mk R5
    clear j1 j2 j3 hF E4 R4
    go_wp2
    refine bodyPost_ret (results_cell_row rfl _ _ (w.heap.size + 1 + 1) 40 #[.int .i64 e.f0, .int .i64 e.f1, .int .i64 e.f2, .int .i64 e.f3, .int .i64 e.f4, .slice A e.f5.length c] (0, 0) _ rfl (put6_blk R5.out _ _ _ _ _ _) Tryz.underlying40 rfl (by kernel_rfl)) rfl ?_
    refine ⟨A, c, rfl, lc, ?_, ?_, ?_, ?_⟩
    · exact Kd.F_mono (put6_F (Kd.F_far (p := ⟨w1.heap.size, 5, none⟩) F4.out (fun k hk e => by have e : k = w1.heap.size := e; omega) _) (fun k hk e => by omega) _ _ _ _ _ _) fun k hk => by omega
    · rw [HE.out.1, encL_flat, List.length_append, ← Nat.add_assoc]
      exact put6_rs (J1.out.put (p := ⟨w1.heap.size, 5, none⟩) (by show w1.heap.size ≠ g; omega) (by show w1.heap.size ≠ q; omega) _) (by omega) (by omega) _ _ _ _ _ _
    · rw [HSZ.out]
      refine (put6_other (by omega) _ _ _ _ _ _).trans ?_
      rw [Below.heap_setCell _ _ _ _ (by show P ≠ w1.heap.size; omega), J2.out, Int.natCast_add, ← Int.add_assoc]
      rfl
    · exact put6_mv (J3.out.far hgl (p := ⟨w1.heap.size, 5, none⟩) (by show w.heap.size ≤ w1.heap.size; omega) _) hgl (by omega) _ _ _ _ _ _
theorem read_all : ∀ nn, ReadOk nn
  | 0 => fun e h => by have := sizeE_pos e; omega
  | nn + 1 => read_step nn (read_all nn)
end Go.Proofs.YtpnkifincadakaaGreatDoor.Wr
end
