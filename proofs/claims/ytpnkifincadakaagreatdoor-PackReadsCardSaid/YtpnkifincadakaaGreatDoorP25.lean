/- Proved: part 25 of the proof of PackReads (Ey4, Re4, Re5, Re7, Re8, Re9, Re10). Conditions: each theorem states its own. -/
import Derived.Test.YtpnkifincadakaaGreatDoorP23
import Derived.Test.YtpnkifincadakaaGreatDoorP24
set_option linter.unusedVariables false
set_option linter.unusedSimpArgs false
section
namespace Go.Pk
theorem at_agree {α : Type} {dec : Nat → Rdd α} {a : Nat} {x : α} {st' : Rdd Unit} (h : At st' (dec a) (fun a' => .ok x a')) : Agree dec (.ok () a) x st' := by
  simp only [Agree]
  cases st' with
  | ok u a' => have h' : dec a = .ok x a' := h; rw [h']; exact ⟨rfl, rfl⟩
  | bad e p => have h' : dec a = .bad e p := h; rw [h']
end Go.Pk
namespace Go.Proofs.YtpnkifincadakaaGreatDoor.Wr
open Go.RowKit Go.Pk Go.Proofs.YtpnkifincadakaaGreatDoorW.PrintWords Go.Proofs.YtpnkifincadakaaGreatDoor.PPackSpecs
def CS (C : Nat) (cnt : Int) (w : World) : Prop := w.heap[C]? = some (.cells #[.int .i64 cnt] 3 (0, 0))
theorem Mv.cs {y C : Nat} {cnt : Int} {w w' : World} (h : Mv y w w') (k : CS C cnt w) (hne : C ≠ y) : CS C cnt w' := h.blk k hne
structure Va (y : Nat) (A : Option Addr) (cap : Nat) (bs : List Int) (st : Rdd Unit) (C : Nat) (cnt : Int) (w0 : World) (w : World) : Prop where
  es : ES y A cap bs st w
  cs : CS C cnt w
  br : w.heap[w0.heap.size]? = some (.cells #[.int .i64 0, .int .i64 0, .int .i64 0, .int .i64 0, .int .i64 0, .slice none 0 0] 40 (0, 0))
  mv : Mv2 y C w0 w
  ly : y < w0.heap.size
  lc : C < w0.heap.size
  la : ∀ p, A = some p → 0 < bs.length → p.block < w0.heap.size ∧ p.block ≠ C
  ne : C ≠ y
section
variable {y : Nat} {A : Option Addr} {cap : Nat} {bs : List Int} {st st' : Rdd Unit} {C : Nat} {cnt : Int} {w0 w w' : World}
theorem Va.num (h : Va y A cap bs st C cnt w0 w) (k1 : ES y A cap bs st' w') (k2 : Mv y w w') : Va y A cap bs st' C cnt w0 w' := by
  have h1 := h.ly
  exact ⟨k1, k2.cs h.cs h.ne, k2.blk h.br (by omega), h.mv.trans (k2.two C), h1, h.lc, h.la, h.ne⟩
structure Vk (y : Nat) (A : Option Addr) (cap : Nat) (bs : List Int) (st : Rdd Unit) (C : Nat) (cnt : Int) (w0 : World) (E : Nat) (cs : Array Value) (w : World) : Prop where
  va : Va y A cap bs st C cnt w0 w
  be : w.heap[E]? = some (.cells cs 40 (0, 0))
  le : w0.heap.size + 1 ≤ E
theorem Vk.num {E : Nat} {cs : Array Value} (h : Vk y A cap bs st C cnt w0 E cs w) (k1 : ES y A cap bs st' w') (k2 : Mv y w w') : Vk y A cap bs st' C cnt w0 E cs w' :=
  ⟨h.va.num k1 k2, k2.blk h.be (by have := h.le; have := h.va.ly; omega), h.le⟩
theorem Vk.put {E : Nat} {cs : Array Value} (h : Vk y A cap bs st C cnt w0 E cs w) (i : Nat) (u : Value) (cs' : Array Value) (e : cs.setIfInBounds i u = cs') : Vk y A cap bs st C cnt w0 E cs' (w.setCell ⟨E, i, none⟩ u) := by
  have h1 := h.va.ly
  have h2 := h.le
  have h3 := h.va.lc
  have far : ∀ {k : Nat} {o : Obj}, w.heap[k]? = some o → k ≠ E → (w.setCell ⟨E, i, none⟩ u).heap[k]? = some o := fun hb hne => by rw [Below.heap_setCell _ _ _ _ (by simpa using hne)]; exact hb
  exact ⟨⟨h.va.es.put (by show E ≠ y; omega) (fun p hp hl => by have := (h.va.la p hp hl).1; show p.block ≠ E; omega) u, far h.va.cs (by omega), far h.va.br (by omega), h.va.mv.far h1 (by show w0.heap.size ≤ E; omega) u, h1, h3, h.va.la, h.va.ne⟩, blk_put h.be i u e, h2⟩
theorem Vk.cellE {E : Nat} {cs : Array Value} (h : Vk y A cap bs st C cnt w0 E cs w) (i : Nat) (u : Value) (e : cs[i]? = some u) : w.cell? ⟨E, i, none⟩ = some u := (blk_cell h.be i).trans e
theorem Vk.frz {E : Nat} {cs : Array Value} (h : Vk y A cap bs st C cnt w0 E cs w) : ∀ i, w.frozen? ⟨E, i, none⟩ = false := fun i => blk_frozen h.be i
theorem Va.more (h : Va y A cap bs st C cnt w0 w) (k : Below w.heap.size w w') : Va y A cap bs st C cnt w0 w' := by
  have h1 := h.ly
  have hc := k.block _ (blk_lt h.cs)
  have hb := k.block _ (blk_lt h.br)
  exact ⟨h.es.below k, hc.trans h.cs, hb.trans h.br, h.mv.trans ((Mv.of_below k (Nat.le_of_lt h.es.ylt)).two C), h1, h.lc, h.la, h.ne⟩
theorem Vk.more {E : Nat} {cs : Array Value} (h : Vk y A cap bs st C cnt w0 E cs w) (k : Below w.heap.size w w') : Vk y A cap bs st C cnt w0 E cs w' :=
  ⟨h.va.more k, (k.block _ (blk_lt h.be)).trans h.be, h.le⟩
theorem Va.base (h : Va y A cap bs st C cnt w0 w) {B : Nat} (k : Below B w w') (hB : w0.heap.size + 1 ≤ B) : Va y A cap bs st C cnt w0 w' := by
  have h1 := h.ly
  have h2 := h.lc
  have hk : ∀ i, i < B → w'.heap[i]? = w.heap[i]? := fun i hi => k.block i hi
  obtain ⟨t, hb, h3, h4⟩ := h.es.box
  refine ⟨⟨⟨t, (hk _ (by omega)).trans hb, h3, h4⟩, fun j x hj => ?_, h.es.nl, h.es.cap, h.es.lim, h.es.byt, h.es.ne0⟩, (hk _ (by omega)).trans h.cs, (hk _ (by omega)).trans h.br, ?_, h1, h2, h.la, h.ne⟩
  · obtain ⟨p, hA, hp, hc⟩ := h.es.row j x hj
    refine ⟨p, hA, hp, ?_⟩
    have := (h.la p hA (by have := (List.getElem?_eq_some_iff.1 hj).1; omega)).1
    rw [cell_same (hk _ (by rw [add_block]; omega))]
    exact hc
  · exact ⟨fun i hi hne hnp => (hk i (by omega)).trans (h.mv.keep i hi hne hnp), Nat.le_trans h.mv.size k.size, h.mv.below.trans (k.mono (by omega))⟩
theorem Vk.base {E : Nat} {cs : Array Value} (h : Vk y A cap bs st C cnt w0 E cs w) {B : Nat} (k : Below B w w') (hB : E + 1 ≤ B) : Vk y A cap bs st C cnt w0 E cs w' :=
  ⟨h.va.base k (by have := h.le; omega), (k.block _ (by omega)).trans h.be, h.le⟩
end
def GotV (y : Nat) (A : Option Addr) (cap : Nat) (bs : List Int) (C : Nat) (dec : Nat → Rdd (S40 × Nat)) (a : Nat) (w : World) (r : Ending) (w' : World) : Prop :=
  ∃ (x : S40) (c : Nat) (st' : Rdd Unit) (B : Option Addr) (cp : Nat), r = .returned (.agg #[.int .i64 x.f0, .int .i64 x.f1, .int .i64 x.f2, .int .i64 x.f3, .int .i64 x.f4, .slice B x.f5.length cp]) ∧ x.f5.length ≤ cp ∧ Kd.F k40 w' (fun k => w.heap.size ≤ k) B x.f5.length x.f5 ∧ ES y A cap bs st' w' ∧ CS C c w' ∧ Mv2 y C w w' ∧ Agree dec (.ok () a) (x, c) st' ∧ ∀ a', st' = .ok () a' → c ≤ 4096
def ValU (f : Nat) : Prop := ∀ (y : Nat) (A : Option Addr) (cap : Nat) (bs : List Int) (C cnt a : Nat) (w : World), ES y A cap bs (.ok () a) w → CS C cnt w → (∀ p, A = some p → 0 < bs.length → p.block ≠ C) → cnt ≤ 4096 →
    Calls Tryz.prog 94 #[.pointer (some ⟨y, 0, none⟩), .int .i64 (65 - (f : Int)), .pointer (some ⟨C, 0, none⟩)] w (GotV y A cap bs C (valueD bs f cnt) a w)
end Go.Proofs.YtpnkifincadakaaGreatDoor.Wr
end
section
namespace Go.Proofs.YtpnkifincadakaaGreatDoor.Wr
open Go.RowKit Go.Pk Go.Proofs.YtpnkifincadakaaGreatDoorW.PrintWords Go.Proofs.YtpnkifincadakaaGreatDoor.PPackSpecs
set_option maxHeartbeats 8000000 in
set_option maxRecDepth 100000 in
theorem take149R (g q cb : Nat) (bs : List Int) (a r n m : Nat) (w : World) (h : RS g q cb bs a r n w) (hm : a + m ≤ bs.length) (hcb : bs.length < cb) :
    Calls Tryz.prog 149 #[.pointer (some ⟨g, 0, none⟩), .int .i64 m] w fun e w' => e = .returned (.slice (some ⟨q, a, none⟩) m (cb - a)) ∧ RS g q cb bs (a + m) r n w' ∧ Mv g w w' := by
  have hl := h.cap.1
  have hc := h.cap.2
  have H := Aside0.mk h
  have c0 : w.cell? ⟨g, 0, none⟩ = some (.slice (some ⟨q, 0, none⟩) bs.length cb) := (blk_cell h.box 0).trans rfl
  have c1 : w.cell? ⟨g, 1, none⟩ = some (.int .i64 a) := (blk_cell h.box 1).trans rfl
  have f1 : w.frozen? ⟨g, 1, none⟩ = false := blk_frozen h.box 1
  clear h
  have hca : ¬ cb = a := by omega
  have hb : decide ((bs.length : Int) - (a : Int) < (m : Int)) = false := decide_eq_false (by omega)
  go_enter Tryz.func149, Tryz.ntmps149
  go_wp2_with fail
  go_quiet (fail)
  obtain ⟨nq0, rfl⟩ : ∃ k, k = nq := ⟨_, rfl⟩
  go_wp2_with fail
  go_quiet (fail)
  obtain ⟨nq1, rfl⟩ : ∃ k, k = nq := ⟨_, rfl⟩
  go_wp2
  go_ret
  have h1 := H.out.below (pw_below_drewN (Below.refl _ w) nq0)
  obtain ⟨h2, h3⟩ := h1.set 1 (.int .i64 (a + m)) (a + m) r n hm rfl
  have h4 := h2.below (pw_below_drewN (Below.refl _ _) nq1)
  exact ⟨(show Ending.returned (.slice (some ⟨q, a, none⟩) (a + m - a) (cb - a)) = _ by rw [Nat.add_sub_cancel_left]), h4, ((Mv.of_below (pw_below_drewN (Below.refl _ w) nq0) (Nat.le_of_lt H.out.glt)).trans h3).trans (Mv.of_below (pw_below_drewN (Below.refl _ _) nq1) (Nat.le_of_lt h2.glt))⟩
theorem RS.rowC {g q cb : Nat} {bs : List Int} {a r n : Nat} {w : World} (h : RS g q cb bs a r n w) (i m : Nat) (hm : i + m ≤ bs.length) : (Kd.int .u8).C w (some ⟨q, i, none⟩) ((bs.drop i).take m).length ((bs.drop i).take m) := by
  have hl : ((bs.drop i).take m).length = m := by rw [List.length_take, List.length_drop]; omega
  have hc := h.cap.1
  have hc2 := h.cap.2
  refine ⟨rfl, by omega, fun hp => ⟨⟨q, i, none⟩, rfl, fun k p hk => ?_⟩⟩
  obtain ⟨hkl, rfl⟩ := List.getElem?_eq_some_iff.1 hk
  rw [hl] at hkl
  refine ⟨[.int .u8 ((bs.drop i).take m)[k]], rfl, rfl, fun j u hu => ?_⟩
  match j, hu with
  | 0, hu =>
    simp only [List.getElem?_cons_zero, Option.some.injEq] at hu
    subst hu
    rw [add_plain', show i + (k * (Kd.int .u8).sz + 0) = i + k by show i + (k * 1 + 0) = _; omega, List.getElem_take, List.getElem_drop]
    exact h.byte (i + k) (by omega)
  | j + 1, hu => simp at hu
set_option maxHeartbeats 8000000 in
set_option maxRecDepth 100000 in
theorem name89D (g q cb : Nat) (bs : List Int) (a r n : Nat) (d : Rdd ByteArray) (hd : nameD bs a = d) (w : World) (h : RS g q cb bs a r n w) (hcb : bs.length < cb) :
    Calls Tryz.prog 89 #[.pointer (some ⟨g, 0, none⟩)] w (Out d g w fun s a' e w' => e = .returned (.string s) ∧ RS g q cb bs a' r n w' ∧ Mv g w w') := by
  obtain ⟨dt, hN⟩ : ∃ dt, numD bs a 1 0 64 = dt := ⟨_, rfl⟩
  rcases dt with ⟨v, a1⟩ | ⟨er, p⟩
  rotate_left
  · have HX := Aside0.mk (upto85D g q cb bs a r n 1 64 _ hN w h (by omega))
    obtain rfl : d = .bad er p := by rw [← hd, nameD, hN]; rfl
    clear hd hN h
    go_enter Tryz.func89, Tryz.ntmps89
    go_wp2_with (go_at_call 85; refine HX.out.mono ?_)
    rintro e' w1 ⟨rfl, k1⟩
    have M1 := Aside0.mk k1
    clear k1
    go_wp2
    exact ⟨rfl, rfl, M1.out⟩
  have HU := Aside0.mk (upto85D g q cb bs a r n 1 64 _ hN w h (by omega))
  obtain ⟨rfl, hal, _, hv0, hv1⟩ := numD_ok hN
  obtain ⟨m, rfl⟩ : ∃ m : Nat, v = m := ⟨v.toNat, by omega⟩
  have hd1 : d = (takeD bs (a + 1) m).bind fun l a2 => .ok (strOfNums l) a2 := by rw [← hd, nameD, hN]; rfl
  clear hd hN
  obtain ⟨dt, hT⟩ : ∃ dt, takeD bs (a + 1) m = dt := ⟨_, rfl⟩
  rcases dt with ⟨l, a2⟩ | ⟨er, p⟩
  rotate_left
  · obtain ⟨rfl, rfl, hlt⟩ := takeD_bad hT
    rw [hT] at hd1
    obtain rfl : d = .bad 182 bs.length := hd1
    clear hT h
    go_enter Tryz.func89, Tryz.ntmps89
    go_wp2_with (go_at_call 85; refine HU.out.mono ?_)
    first | rintro e' w1 rfl h1 h2 | rintro e' w1 ⟨rfl, h1, h2⟩
    have HT := Aside0.mk (take149_cut g q cb bs (a + 1) r n m w1 h1 hlt (by omega))
    have M1 := Aside0.mk h2
    clear h1 h2
    go_wp2_with (go_at_call 149; refine HT.out.mono ?_)
    rintro e' w2 ⟨rfl, k2⟩
    have M2 := Aside0.mk (M1.out.trans k2)
    clear k2
    go_wp2
    exact ⟨rfl, rfl, M2.out⟩
  obtain ⟨rfl, hlen, rfl⟩ := takeD_ok hT
  rw [hT] at hd1
  obtain rfl : d = .ok (strOfNums ((bs.drop (a + 1)).take m)) (a + 1 + m) := hd1
  clear hT h
  go_enter Tryz.func89, Tryz.ntmps89
  go_wp2_with (go_at_call 85; refine HU.out.mono ?_)
  first | rintro e w1 rfl h1 h2 | rintro e w1 ⟨rfl, h1, h2⟩
  have HT := Aside0.mk (take149R g q cb bs (a + 1) r n m w1 h1 hlen hcb)
  have HM1 := Aside0.mk h2
  clear h1 h2
  go_wp2_with (go_at_call 149; refine HT.out.mono ?_)
  first | rintro e w2 rfl h1 h2 | rintro e w2 ⟨rfl, h1, h2⟩
  have HR := Aside0.mk h1
  have HM := Aside0.mk (HM1.out.trans h2)
  have HC : (convert 30 9 (.slice (some ⟨q, a + 1, none⟩) m (cb - (a + 1)))).run Tryz.prog w2 = .ok (.string (strOfNums ((bs.drop (a + 1)).take m))) w2 := by
    have := Kd.C_string Tryz.underlying30 Tryz.underlying5 Tryz.underlying9 (c := cb - (a + 1)) (h1.rowC (a + 1) m hlen)
    rw [List.length_take, List.length_drop, show min m (bs.length - (a + 1)) = m by omega] at this
    exact this
  clear h1 h2
  go_wp2
  go_ret
  exact ⟨rfl, HR.out, HM.out⟩
end Go.Proofs.YtpnkifincadakaaGreatDoor.Wr
end
section
namespace Go.Proofs.YtpnkifincadakaaGreatDoor.Wr
open Go.RowKit Go.Pk Go.Proofs.YtpnkifincadakaaGreatDoorW.PrintWords Go.Proofs.YtpnkifincadakaaGreatDoor.PPackSpecs
set_option maxHeartbeats 8000000 in
set_option maxRecDepth 100000 in
theorem symbol154D (g q cb : Nat) (bs : List Int) (a r n : Nat) (d : Rdd S85) (hd : symD bs r n a = d) (w : World) (h : RS g q cb bs a r n w) (hr : r ≤ 256) (hn : n ≤ 256) :
    Calls Tryz.prog 154 #[.pointer (some ⟨g, 0, none⟩)] w (Out d g w fun x a' e w' => e = .returned (.agg #[.int .i64 x.f0, .int .i64 x.f1]) ∧ RS g q cb bs a' r n w' ∧ Mv g w w') := by
  have H := Aside0.mk h
  have hgl := h.glt
  have hneg : w.heap.size ≠ g := by omega
  have H0 := Aside0.mk (h.alloc (.cells #[.int .i64 0, .int .i64 0] 85))
  have M0 := Aside0.mk ((Mv.refl g w).alloc (Nat.le_of_lt hgl) (.cells #[.int .i64 0, .int .i64 0] 85))
  have B0 := Aside0.mk (blk_new w (.cells #[.int .i64 0, .int .i64 0] 85))
  clear h
  obtain ⟨dt, hN⟩ : ∃ dt, numD bs a 1 0 255 = dt := ⟨_, rfl⟩
  rcases dt with ⟨x0, a1⟩ | ⟨er, p⟩
  rotate_left
  · have HX := Aside0.mk (number151D g q cb bs a r n 1 255 _ hN (.inl ⟨rfl, rfl⟩) _ H0.out)
    obtain rfl : d = .bad er p := by rw [← hd, symD, hN]; rfl
    clear hd hN
    go_enter Tryz.func154, Tryz.ntmps154
    go_wp2_with (go_at_call 151; refine HX.out.mono ?_)
    rintro e' w1 ⟨rfl, k1⟩
    have M1 := Aside0.mk (M0.out.trans k1)
    clear k1
    go_wp2
    exact ⟨rfl, rfl, M1.out⟩
  have HN1 := Aside0.mk (number151D g q cb bs a r n 1 255 _ hN (.inl ⟨rfl, rfl⟩) _ H0.out)
  obtain ⟨rfl, hal, _, hv0, hv1⟩ := numD_ok hN
  rw [symD, hN, Rdd.bind_ok] at hd
  clear hN
  by_cases hk : x0 < 1 ∨ 3 < x0
  · rw [if_pos hk] at hd
    subst hd
    have T : (decide (x0 < 1) = true) ∨ (decide (x0 < 1) = false ∧ decide (3 < x0) = true) := by
      rcases hk with hk | hk
      · exact .inl (decide_eq_true hk)
      · exact .inr ⟨decide_eq_false (by omega), decide_eq_true hk⟩
    clear hk
    rcases T with q1 | ⟨q1, q2⟩
    all_goals
      go_enter Tryz.func154, Tryz.ntmps154
      go_wp2_with (go_at_call 151; refine HN1.out.mono ?_)
      first | rintro e w1 rfl h1 h2 | rintro e w1 ⟨rfl, h1, h2⟩
      have M1 := Aside0.mk (M0.out.trans h2)
      clear h1 h2
      go_wp2_with (go_at_call 150; refine (refuse150 _ _ _).mono ?_)
      first | rintro e' w2 rfl rfl | rintro e' w2 ⟨rfl, rfl⟩
      go_wp2
      exact ⟨rfl, rfl, M1.out⟩
  rw [if_neg hk] at hd
  have q1 : decide (x0 < 1) = false := decide_eq_false (by omega)
  have q2 : decide (3 < x0) = false := decide_eq_false (by omega)
  obtain ⟨dt, hN2⟩ : ∃ dt, numD bs (a + 1) 1 0 255 = dt := ⟨_, rfl⟩
  rcases dt with ⟨x1, a2⟩ | ⟨er, p⟩
  rotate_left
  · rw [hN2] at hd
    obtain rfl : d = .bad er p := hd.symm
    go_enter Tryz.func154, Tryz.ntmps154
    go_wp2_with (go_at_call 151; refine HN1.out.mono ?_)
    first | rintro e w1 rfl h1 h2 | rintro e w1 ⟨rfl, h1, h2⟩
    have HX := Aside0.mk (number151D g q cb bs (a + 1) r n 1 255 _ hN2 (.inl ⟨rfl, rfl⟩) _ h1)
    have M1 := Aside0.mk (M0.out.trans h2)
    clear h1 h2
    go_wp2_with (go_at_call 151; refine HX.out.mono ?_)
    rintro e' w2 ⟨rfl, k1⟩
    have M2 := Aside0.mk (M1.out.trans k1)
    clear k1
    go_wp2
    exact ⟨rfl, rfl, M2.out⟩
  rw [hN2, Rdd.bind_ok] at hd
  have HN2 := Aside0.mk fun w' (h' : RS g q cb bs (a + 1) r n w') => number151D g q cb bs (a + 1) r n 1 255 _ hN2 (.inl ⟨rfl, rfl⟩) w' h'
  obtain ⟨rfl, hal2, _, hw0, hw1⟩ := numD_ok hN2
  clear hN2
  have HS := Aside0.mk (symbol76 ⟨x0, x1⟩ r n)
  dsimp only at HS
  go_enter Tryz.func154, Tryz.ntmps154
  go_wp2_with (go_at_call 151; refine HN1.out.mono ?_)
  first | rintro e w1 rfl h1 h2 | rintro e w1 ⟨rfl, h1, h2⟩
  have HR1 := Aside0.mk h1
  have HM1 := Aside0.mk (M0.out.trans h2)
  have B1 := Aside0.mk (h2.blk B0.out hneg)
  clear h1 h2
  go_wp2_with (go_at_call 151; refine (HN2.out _ HR1.out).mono ?_)
  first | rintro e w2 rfl h1 h2 | rintro e w2 ⟨rfl, h1, h2⟩
  have HR2 := Aside0.mk h1
  have HM2 := Aside0.mk (HM1.out.trans h2)
  have B2 := Aside0.mk (h2.blk B1.out hneg)
  clear h1 h2
  have c2 : w2.cell? ⟨g, 2, none⟩ = some (.int .i64 r) := (blk_cell HR2.out.box 2).trans rfl
  have c3 : w2.cell? ⟨g, 3, none⟩ = some (.int .i64 n) := (blk_cell HR2.out.box 3).trans rfl
  have B3 := Aside0.mk (blk_alloc B2.out (.cells #[.int .i64 x0, .int .i64 x1] 85))
  have S3 := Aside0.mk (blk_new w2 (.cells #[.int .i64 x0, .int .i64 x1] 85))
  have HR3 := Aside0.mk (HR2.out.alloc (.cells #[.int .i64 x0, .int .i64 x1] 85))
  have HM3 := Aside0.mk (HM2.out.alloc (Nat.le_of_lt hgl) (.cells #[.int .i64 x0, .int .i64 x1] 85))
  go_wp2_with fail
  obtain ⟨w3, hw3⟩ : ∃ w3, w3 = w2.alloc (.cells #[.int .i64 x0, .int .i64 x1] 85) := ⟨_, rfl⟩
  rw [← hw3] at B3 S3 HR3 HM3 ⊢
  clear hw3 c2 c3
  have c2 : w3.cell? ⟨g, 2, none⟩ = some (.int .i64 r) := (blk_cell HR3.out.box 2).trans rfl
  have c3 : w3.cell? ⟨g, 3, none⟩ = some (.int .i64 n) := (blk_cell HR3.out.box 3).trans rfl
  have s0 : w3.cell? ⟨w2.heap.size, 0, none⟩ = some (.int .i64 x0) := (blk_cell S3.out 0).trans rfl
  have s1 : w3.cell? ⟨w2.heap.size, 1, none⟩ = some (.int .i64 x1) := (blk_cell S3.out 1).trans rfl
  cases hsy : symOk ⟨x0, x1⟩ r n
  · rw [if_neg (by rw [hsy]; exact Bool.false_ne_true)] at hd
    subst hd
    rw [hsy] at HS
    go_region_with (go_at_call 76; refine (HS.out _ (by omega) (by omega)).mono ?_; rintro e w5 ⟨rfl, k5⟩)
    all_goals
      have M5 := Aside0.mk ((HM3.out.trans (Mv.of_below (below_drew1 (Below.refl _ _)) (Nat.le_of_lt HR3.out.glt))).trans (Mv.of_below k5 (Nat.le_of_lt HR3.out.glt)))
      clear k5
      go_wp2_with (go_at_call 150; refine (refuse150 _ _ _).mono ?_)
      first | rintro e' w7 rfl rfl | rintro e' w7 ⟨rfl, rfl⟩
      go_wp2
      exact ⟨rfl, rfl, M5.out⟩
  rw [if_pos hsy] at hd
  subst hd
  rw [hsy] at HS
  go_region_with (go_at_call 76; refine (HS.out _ (by omega) (by omega)).mono ?_; rintro e w5 ⟨rfl, k5⟩)
  all_goals
    have B5 := (k5.block _ (blk_lt B3.out)).trans B3.out
    have f0 : w5.frozen? ⟨w.heap.size, 0, none⟩ = false := blk_frozen B5 0
    have f1 : w5.frozen? ⟨w.heap.size, 1, none⟩ = false := blk_frozen B5 1
    have z0 : w5.cell? ⟨w.heap.size, 0, none⟩ = some (.int .i64 0) := (blk_cell B5 0).trans rfl
    have z1 : w5.cell? ⟨w.heap.size, 1, none⟩ = some (.int .i64 0) := (blk_cell B5 1).trans rfl
    have S5 := (k5.block _ (blk_lt S3.out)).trans S3.out
    have s0 : w5.cell? ⟨w2.heap.size, 0, none⟩ = some (.int .i64 x0) := (blk_cell S5 0).trans rfl
    have s1 : w5.cell? ⟨w2.heap.size, 1, none⟩ = some (.int .i64 x1) := (blk_cell S5 1).trans rfl
    have B5 := Aside0.mk B5
    have R5 := Aside0.mk ((HR3.out.below (below_drew1 (Below.refl _ _))).below k5)
    have M5 := Aside0.mk ((HM3.out.trans (Mv.of_below (below_drew1 (Below.refl _ _)) (Nat.le_of_lt HR3.out.glt))).trans (Mv.of_below k5 (Nat.le_of_lt HR3.out.glt)))
    clear k5 S5
    go_wp2
    refine bodyPost_ret (results_cell_row rfl _ _ w.heap.size 85 #[.int .i64 x0, .int .i64 x1] (0, 0) _ rfl (blk_put (cs := #[.int .i64 x0, .int .i64 0]) (blk_put (cs := #[.int .i64 0, .int .i64 0]) B5.out 0 _ rfl) 1 _ rfl) Tryz.underlying85 rfl (by kernel_rfl)) rfl ?_
    refine ⟨rfl, ?_, ?_⟩
    · exact (R5.out.far H.out (by exact Nat.le_refl _) _).far H.out (by exact Nat.le_refl _) _
    · exact (M5.out.far hgl (by exact Nat.le_refl _) _).far hgl (by exact Nat.le_refl _) _
end Go.Proofs.YtpnkifincadakaaGreatDoor.Wr
end
section
namespace Go.Proofs.YtpnkifincadakaaGreatDoor.Wr
open Go.RowKit Go.Pk Go.Proofs.YtpnkifincadakaaGreatDoorW.PrintWords Go.Proofs.YtpnkifincadakaaGreatDoor.PPackSpecs
set_option maxHeartbeats 8000000 in
set_option maxRecDepth 100000 in
theorem list153D (g q cb : Nat) (bs : List Int) (a r n N : Nat) (d : Rdd (List S85 × Unit)) (hd : manyD (one (symD bs r n)) N () a = d) (w : World) (h : RS g q cb bs a r n w) (hcb : bs.length < cb) (hr : r ≤ 256) (hn : n ≤ 256) (hl : N ≤ 512) :
    Calls Tryz.prog 153 #[.int .i64 N, .func (.func 154) #[.pointer (some ⟨g, 0, none⟩)] #[]] w (Out d g w fun xs a' e w' => ∃ A c, e = .returned (.slice A xs.1.length c) ∧ xs.1.length ≤ c ∧ Kd.F k85 w' (fun k => w.heap.size ≤ k) A xs.1.length xs.1 ∧ RS g q cb bs a' r n w' ∧ Mv g w w' ∧ xs.1.length = N) := by
  have H := Aside0.mk h
  have HD := Aside0.mk hd
  have hgl := h.glt
  clear h hd
  go_enter Tryz.func153, Tryz.ntmps153
  go_wp2
  go_loopw [5, 7] (fun v i wr => ∃ (k : Nat) (xs : List S85) (a1 : Nat), k ≤ N ∧ xs.length = k ∧ i = .int .i64 k ∧ Aside0 (Kd.N k85 85 wr w.heap.size (fun k => w.heap.size ≤ k) v xs) ∧ Aside0 (RS g q cb bs a1 r n wr ∧ Pre (one (symD bs r n)) d xs (N - k) () a1) ∧ Aside0 (Mv g w wr)) (fun _ i _ => N - (intOf i).toNat)
  case atStart => exact ⟨0, [], a, Nat.zero_le _, rfl, rfl, ⟨Kd.N_nil _ _ _ _ _⟩, ⟨H.out, pre_start HD.out⟩, ⟨Mv.refl _ _⟩⟩
  case round =>
    obtain ⟨k, xs, a1, hk, hxk, rfl, hN, hR, hM⟩ := hrel
    by_cases hlt : k < N
    · obtain ⟨m, hm⟩ : ∃ m, N - k = m + 1 := ⟨N - k - 1, by omega⟩
      have hP := hR.out.2
      rw [hm] at hP
      obtain ⟨dt, ho⟩ : ∃ dt, symD bs r n a1 = dt := ⟨_, rfl⟩
      have HS := Aside0.mk (symbol154D g q cb bs a1 r n dt ho wr hR.out.1 hr hn)
      rcases dt with ⟨x, a2⟩ | ⟨er, p⟩
      rotate_left
      · obtain rfl : d = .bad er p := pre_bad hP (one_bad ho)
        clear hP
        go_wp2_with fail
        refine HS.out.mono ?_
        rintro e' w5 ⟨rfl, k5⟩
        have M5 := Aside0.mk (hM.out.trans k5)
        clear k5
        go_wp2
        exact ⟨rfl, rfl, M5.out⟩
      have HP := Aside0.mk (pre_ok hP (one_ok ho))
      have hm1 : N - (k + 1) = m := by omega
      clear hP ho
      go_wp2_with fail
      refine HS.out.mono ?_
      first | rintro e w5 rfl h1 h2 | rintro e w5 ⟨rfl, h1, h2⟩
      have HR5 := Aside0.mk h1
      have HM5 := Aside0.mk (hM.out.trans h2)
      have HN5 := Aside0.mk (N_mv hN.out h2 hgl)
      have hsz := h2.size
      clear h1 h2
      go_wp2_with (at_builtin; refine Kd.N_append k85 (w0 := w5) w.heap.size rfl (.tmp 9) (.tmp 12) 65 85 (.agg #[.int .i64 0, .int .i64 0]) 16 rfl Tryz.underlying65 info85 rfl (by decide) (by omega) u5 xs x [.int .i64 x.f0, .int .i64 x.f1] (fun k => w.heap.size ≤ k) (fun k => wr.heap.size ≤ k) rfl rfl (k85_mkF _ _ x) ?o1 ?o2 HN5.out (Below.refl _ _) ?o3 ?o4 ?_)
      case o1 => exact fun k hk => ⟨Nat.le_trans hM.out.size hk, fun e => absurd (Kd.N_lt hN.out k e.symm) (by omega)⟩
      case o2 => exact fun k hk => Nat.le_trans HM5.out.size hk
      case o3 => exact HM5.out.size
      case o4 => rw [hxk]; omega
      intro v1 w6 hN6 hB6 _ _
      have HN6 := Aside0.mk hN6
      have HR6 := Aside0.mk (HR5.out.base H.out hB6 HM5.out.size)
      have HM6 := Aside0.mk (HM5.out.base hB6 hgl)
      clear hN6 hB6
      go_wp2
      go_roundw
      case rel => exact ⟨k + 1, xs ++ [x], a2, by omega, by rw [List.length_append]; simp [hxk], by go_num, HN6, ⟨HR6.out, by rw [hm1]; exact HP.out⟩, HM6⟩
      case measure => simp [intOf]; omega
    · obtain rfl : k = N := by omega
      have hP := hR.out.2
      rw [Nat.sub_self] at hP
      obtain rfl : d = .ok (xs, ()) a1 := pre_end hP
      obtain ⟨A, c, rfl, lc, _⟩ := Kd.N_reads hN.out
      have HF := Aside0.mk (Kd.N_F hN.out)
      clear hP
      go_wp2
      go_ret
      exact ⟨A, c, rfl, lc, HF.out, hR.out.1, hM.out, hxk⟩
set_option maxHeartbeats 8000000 in
set_option maxRecDepth 100000 in
theorem list88D (g q cb : Nat) (bs : List Int) (a r n N : Nat) (d : Rdd (List ByteArray × Unit)) (hd : manyD (one (nameD bs)) N () a = d) (w : World) (h : RS g q cb bs a r n w) (hcb : bs.length < cb) (hl : N ≤ 512) :
    Calls Tryz.prog 88 #[.int .i64 N, .func (.func 89) #[.pointer (some ⟨g, 0, none⟩)] #[]] w (Out d g w fun xs a' e w' => ∃ A c, e = .returned (.slice A xs.1.length c) ∧ xs.1.length ≤ c ∧ Kd.F Kd.string w' (fun k => w.heap.size ≤ k) A xs.1.length xs.1 ∧ RS g q cb bs a' r n w' ∧ Mv g w w' ∧ xs.1.length = N) := by
  have H := Aside0.mk h
  have HD := Aside0.mk hd
  have hgl := h.glt
  clear h hd
  go_enter Tryz.func88, Tryz.ntmps88
  go_wp2
  go_loopw [5, 7] (fun v i wr => ∃ (k : Nat) (xs : List ByteArray) (a1 : Nat), k ≤ N ∧ xs.length = k ∧ i = .int .i64 k ∧ Aside0 (Kd.N Kd.string 9 wr w.heap.size (fun k => w.heap.size ≤ k) v xs) ∧ Aside0 (RS g q cb bs a1 r n wr ∧ Pre (one (nameD bs)) d xs (N - k) () a1) ∧ Aside0 (Mv g w wr)) (fun _ i _ => N - (intOf i).toNat)
  case atStart => exact ⟨0, [], a, Nat.zero_le _, rfl, rfl, ⟨Kd.N_nil _ _ _ _ _⟩, ⟨H.out, pre_start HD.out⟩, ⟨Mv.refl _ _⟩⟩
  case round =>
    obtain ⟨k, xs, a1, hk, hxk, rfl, hN, hR, hM⟩ := hrel
    by_cases hlt : k < N
    · obtain ⟨m, hm⟩ : ∃ m, N - k = m + 1 := ⟨N - k - 1, by omega⟩
      have hP := hR.out.2
      rw [hm] at hP
      obtain ⟨dt, ho⟩ : ∃ dt, nameD bs a1 = dt := ⟨_, rfl⟩
      have HS := Aside0.mk (name89D g q cb bs a1 r n dt ho wr hR.out.1 hcb)
      rcases dt with ⟨x, a2⟩ | ⟨er, p⟩
      rotate_left
      · obtain rfl : d = .bad er p := pre_bad hP (one_bad ho)
        clear hP
        go_wp2_with fail
        refine HS.out.mono ?_
        rintro e' w5 ⟨rfl, k5⟩
        have M5 := Aside0.mk (hM.out.trans k5)
        clear k5
        go_wp2
        exact ⟨rfl, rfl, M5.out⟩
      have HP := Aside0.mk (pre_ok hP (one_ok ho))
      have hm1 : N - (k + 1) = m := by omega
      clear hP ho
      go_wp2_with fail
      refine HS.out.mono ?_
      first | rintro e w5 rfl h1 h2 | rintro e w5 ⟨rfl, h1, h2⟩
      have HR5 := Aside0.mk h1
      have HM5 := Aside0.mk (hM.out.trans h2)
      have HN5 := Aside0.mk (N_mv hN.out h2 hgl)
      have hsz := h2.size
      clear h1 h2
      go_wp2_with (at_builtin; refine Kd.N_append Kd.string (w0 := w5) w.heap.size rfl (.tmp 9) (.tmp 12) 25 9 (.string ⟨#[]⟩) 16 rfl Tryz.underlying25 info9 rfl (by decide) (by omega) u5 xs x [.string x] (fun k => w.heap.size ≤ k) (fun k => wr.heap.size ≤ k) rfl rfl (str_mkF _ _ x) ?o1 ?o2 HN5.out (Below.refl _ _) ?o3 ?o4 ?_)
      case o1 => exact fun k hk => ⟨Nat.le_trans hM.out.size hk, fun e => absurd (Kd.N_lt hN.out k e.symm) (by omega)⟩
      case o2 => exact fun k hk => Nat.le_trans HM5.out.size hk
      case o3 => exact HM5.out.size
      case o4 => rw [hxk]; omega
      intro v1 w6 hN6 hB6 _ _
      have HN6 := Aside0.mk hN6
      have HR6 := Aside0.mk (HR5.out.base H.out hB6 HM5.out.size)
      have HM6 := Aside0.mk (HM5.out.base hB6 hgl)
      clear hN6 hB6
      go_wp2
      go_roundw
      case rel => exact ⟨k + 1, xs ++ [x], a2, by omega, by rw [List.length_append]; simp [hxk], by go_num, HN6, ⟨HR6.out, by rw [hm1]; exact HP.out⟩, HM6⟩
      case measure => simp [intOf]; omega
    · obtain rfl : k = N := by omega
      have hP := hR.out.2
      rw [Nat.sub_self] at hP
      obtain rfl : d = .ok (xs, ()) a1 := pre_end hP
      obtain ⟨A, c, rfl, lc, _⟩ := Kd.N_reads hN.out
      have HF := Aside0.mk (Kd.N_F hN.out)
      clear hP
      go_wp2
      go_ret
      exact ⟨A, c, rfl, lc, HF.out, hR.out.1, hM.out, hxk⟩
end Go.Proofs.YtpnkifincadakaaGreatDoor.Wr
end
section
namespace Go.Proofs.YtpnkifincadakaaGreatDoor.Wr
open Go.RowKit Go.Pk Go.Proofs.YtpnkifincadakaaGreatDoorW.PrintWords Go.Proofs.YtpnkifincadakaaGreatDoor.PPackSpecs
set_option maxHeartbeats 8000000 in
set_option maxRecDepth 100000 in
theorem production91D (g q cb : Nat) (bs : List Int) (a r n : Nat) (d : Rdd S67) (hd : prodD bs r n a = d) (w : World) (h : RS g q cb bs a r n w) (hcb : bs.length < cb) (hr : r ≤ 256) (hn : n ≤ 256) :
    Calls Tryz.prog 91 #[.pointer (some ⟨g, 0, none⟩)] w (Out d g w fun x a' e w' => ∃ A c, e = .returned (.agg #[.int .i64 x.f0, .slice A x.f1.length c]) ∧ x.f1.length ≤ c ∧ Kd.F k85 w' (fun k => w.heap.size ≤ k) A x.f1.length x.f1 ∧ RS g q cb bs a' r n w' ∧ Mv g w w') := by
  have H := Aside0.mk h
  have hgl := h.glt
  have hneg : w.heap.size ≠ g := by omega
  have c3 : w.cell? ⟨g, 3, none⟩ = some (.int .i64 n) := (blk_cell h.box 3).trans rfl
  have H0 := Aside0.mk (h.alloc (.cells #[.int .i64 0, .slice none 0 0] 67))
  have M0 := Aside0.mk ((Mv.refl g w).alloc (Nat.le_of_lt hgl) (.cells #[.int .i64 0, .slice none 0 0] 67))
  have B0 := Aside0.mk (blk_new w (.cells #[.int .i64 0, .slice none 0 0] 67))
  clear h
  obtain ⟨dt, hN⟩ : ∃ dt, numD bs a 1 0 ((n : Int) - 1) = dt := ⟨_, rfl⟩
  have HU1 := Aside0.mk (upto85D g q cb bs a r n 1 _ _ hN _ H0.out (by omega))
  rw [prodD, hN] at hd
  clear hN
  rcases dt with ⟨x0, a1⟩ | ⟨er, p⟩
  rotate_left
  · obtain rfl : d = .bad er p := hd.symm
    go_enter Tryz.func91, Tryz.ntmps91
    go_wp2_with (go_at_call 85; refine HU1.out.mono ?_)
    rintro e' w1 ⟨rfl, k1⟩
    have M1 := Aside0.mk (M0.out.trans k1)
    clear k1
    go_wp2
    exact ⟨rfl, rfl, M1.out⟩
  rw [Rdd.bind_ok] at hd
  obtain ⟨dt, hN⟩ : ∃ dt, numD bs a1 1 0 16 = dt := ⟨_, rfl⟩
  have HU2 := Aside0.mk fun w' (h' : RS g q cb bs a1 r n w') => upto85D g q cb bs a1 r n 1 _ _ hN w' h' (by omega)
  rw [hN] at hd
  rcases dt with ⟨m0, a2⟩ | ⟨er, p⟩
  rotate_left
  · obtain rfl : d = .bad er p := hd.symm
    clear hN
    go_enter Tryz.func91, Tryz.ntmps91
    go_wp2_with (go_at_call 85; refine HU1.out.mono ?_)
    first | rintro e w1 rfl h1 h2 | rintro e w1 ⟨rfl, h1, h2⟩
    have HX := Aside0.mk (HU2.out _ h1)
    have M1 := Aside0.mk (M0.out.trans h2)
    clear h1 h2
    go_wp2_with (go_at_call 85; refine HX.out.mono ?_)
    rintro e' w2 ⟨rfl, k1⟩
    have M2 := Aside0.mk (M1.out.trans k1)
    clear k1
    go_wp2
    exact ⟨rfl, rfl, M2.out⟩
  rw [Rdd.bind_ok] at hd
  obtain ⟨_, _, _, hv0, hv1⟩ := numD_ok hN
  obtain ⟨m, rfl⟩ : ∃ m : Nat, m0 = m := ⟨m0.toNat, by omega⟩
  rw [Int.toNat_natCast] at hd
  clear hN
  obtain ⟨dt, hN⟩ : ∃ dt, manyD (one (symD bs r n)) m () a2 = dt := ⟨_, rfl⟩
  have HL := Aside0.mk fun w' (h' : RS g q cb bs a2 r n w') => list153D g q cb bs a2 r n m _ hN w' h' hcb hr hn (by omega)
  rw [hN] at hd
  clear hN
  rcases dt with ⟨⟨l, u⟩, a3⟩ | ⟨er, p⟩
  rotate_left
  · obtain rfl : d = .bad er p := hd.symm
    go_enter Tryz.func91, Tryz.ntmps91
    go_wp2_with (go_at_call 85; refine HU1.out.mono ?_)
    first | rintro e w1 rfl h1 h2 | rintro e w1 ⟨rfl, h1, h2⟩
    have HX := Aside0.mk (HU2.out _ h1)
    have M1 := Aside0.mk (M0.out.trans h2)
    clear h1 h2
    go_wp2_with (go_at_call 85; refine HX.out.mono ?_)
    first | rintro e w2 rfl h1 h2 | rintro e w2 ⟨rfl, h1, h2⟩
    have HX2 := Aside0.mk (HL.out _ h1)
    have M2 := Aside0.mk (M1.out.trans h2)
    clear h1 h2
    go_wp2_with (go_at_call 153; refine HX2.out.mono ?_)
    rintro e' w3 ⟨rfl, k1⟩
    have M3 := Aside0.mk (M2.out.trans k1)
    clear k1
    go_wp2
    exact ⟨rfl, rfl, M3.out⟩
  obtain rfl : d = .ok ⟨x0, l⟩ a3 := hd.symm
  go_enter Tryz.func91, Tryz.ntmps91
  go_wp2_with (go_at_call 85; refine HU1.out.mono ?_)
  first | rintro e w1 rfl h1 h2 | rintro e w1 ⟨rfl, h1, h2⟩
  have HR1 := Aside0.mk h1
  have HM1 := Aside0.mk (M0.out.trans h2)
  have B1 := Aside0.mk (h2.blk B0.out hneg)
  clear h1 h2
  go_wp2_with (go_at_call 85; refine (HU2.out _ HR1.out).mono ?_)
  first | rintro e w2 rfl h1 h2 | rintro e w2 ⟨rfl, h1, h2⟩
  have HR2 := Aside0.mk h1
  have HM2 := Aside0.mk (HM1.out.trans h2)
  have B2 := Aside0.mk (h2.blk B1.out hneg)
  clear h1 h2
  go_wp2_with (go_at_call 153; refine (HL.out _ HR2.out).mono ?_)
  first | rintro e w3 A c rfl lc hF h1 h2 hll | rintro e w3 ⟨A, c, rfl, lc, hF, h1, h2, hll⟩
  dsimp only at lc hF hll ⊢
  subst hll
  have HR3 := Aside0.mk h1
  have HM3 := Aside0.mk (HM2.out.trans h2)
  have B3 := h2.blk B2.out hneg
  have HF3 := Aside0.mk hF
  have f0 : w3.frozen? ⟨w.heap.size, 0, none⟩ = false := blk_frozen B3 0
  have f1 : w3.frozen? ⟨w.heap.size, 1, none⟩ = false := blk_frozen B3 1
  have z0 : w3.cell? ⟨w.heap.size, 0, none⟩ = some (.int .i64 0) := (blk_cell B3 0).trans rfl
  have z1 : w3.cell? ⟨w.heap.size, 1, none⟩ = some (.slice none 0 0) := (blk_cell B3 1).trans rfl
  have B3 := Aside0.mk B3
  clear h1 h2 hF
  go_wp2
  refine bodyPost_ret (results_cell_row rfl _ _ w.heap.size 67 #[.int .i64 x0, .slice A l.length c] (0, 0) _ rfl (blk_put (cs := #[.int .i64 x0, .slice none 0 0]) (blk_put (cs := #[.int .i64 0, .slice none 0 0]) B3.out 0 _ rfl) 1 _ rfl) Tryz.underlying67 rfl (by kernel_rfl)) rfl ?_
  have hsz : w.heap.size < w2.heap.size := blk_lt B2.out
  refine ⟨A, c, rfl, lc, ?_, ?_, ?_⟩
  · exact Kd.F_mono (Kd.F_far (p := ⟨w.heap.size, 1, none⟩) (Kd.F_far (p := ⟨w.heap.size, 0, none⟩) HF3.out (fun k hk e => by have e : k = w.heap.size := e; omega) _) (fun k hk e => by have e : k = w.heap.size := e; omega) _) fun k hk => by omega
  · exact (HR3.out.far H.out (by exact Nat.le_refl _) _).far H.out (by exact Nat.le_refl _) _
  · exact (HM3.out.far hgl (by exact Nat.le_refl _) _).far hgl (by exact Nat.le_refl _) _
end Go.Proofs.YtpnkifincadakaaGreatDoor.Wr
end
section
namespace Go.Proofs.YtpnkifincadakaaGreatDoor.Wr
open Go.RowKit Go.Pk Go.Proofs.YtpnkifincadakaaGreatDoorW.PrintWords Go.Proofs.YtpnkifincadakaaGreatDoor.PPackSpecs
set_option maxHeartbeats 8000000 in
set_option maxRecDepth 100000 in
theorem list90D (g q cb : Nat) (bs : List Int) (a r n N : Nat) (d : Rdd (List S67 × Unit)) (hd : manyD (one (prodD bs r n)) N () a = d) (w : World) (h : RS g q cb bs a r n w) (hcb : bs.length < cb) (hr : r ≤ 256) (hn : n ≤ 256) (hl : N ≤ 512) :
    Calls Tryz.prog 90 #[.int .i64 N, .func (.func 91) #[.pointer (some ⟨g, 0, none⟩)] #[]] w (Out d g w fun xs a' e w' => ∃ A c, e = .returned (.slice A xs.1.length c) ∧ xs.1.length ≤ c ∧ Kd.F k67 w' (fun k => w.heap.size ≤ k) A xs.1.length xs.1 ∧ RS g q cb bs a' r n w' ∧ Mv g w w' ∧ xs.1.length = N) := by
  have H := Aside0.mk h
  have HD := Aside0.mk hd
  have hgl := h.glt
  clear h hd
  go_enter Tryz.func90, Tryz.ntmps90
  go_wp2
  go_loopw [5, 7] (fun v i wr => ∃ (k : Nat) (xs : List S67) (a1 : Nat), k ≤ N ∧ xs.length = k ∧ i = .int .i64 k ∧ Aside0 (Kd.N k67 67 wr w.heap.size (fun k => w.heap.size ≤ k) v xs) ∧ Aside0 (RS g q cb bs a1 r n wr ∧ Pre (one (prodD bs r n)) d xs (N - k) () a1) ∧ Aside0 (Mv g w wr)) (fun _ i _ => N - (intOf i).toNat)
  case atStart => exact ⟨0, [], a, Nat.zero_le _, rfl, rfl, ⟨Kd.N_nil _ _ _ _ _⟩, ⟨H.out, pre_start HD.out⟩, ⟨Mv.refl _ _⟩⟩
  case round =>
    obtain ⟨k, xs, a1, hk, hxk, rfl, hN, hR, hM⟩ := hrel
    by_cases hlt : k < N
    · obtain ⟨m, hm⟩ : ∃ m, N - k = m + 1 := ⟨N - k - 1, by omega⟩
      have hP := hR.out.2
      rw [hm] at hP
      obtain ⟨dt, ho⟩ : ∃ dt, prodD bs r n a1 = dt := ⟨_, rfl⟩
      have HS := Aside0.mk (production91D g q cb bs a1 r n dt ho wr hR.out.1 hcb hr hn)
      rcases dt with ⟨x, a2⟩ | ⟨er, p⟩
      rotate_left
      · obtain rfl : d = .bad er p := pre_bad hP (one_bad ho)
        clear hP
        go_wp2_with fail
        refine HS.out.mono ?_
        rintro e' w5 ⟨rfl, k5⟩
        have M5 := Aside0.mk (hM.out.trans k5)
        clear k5
        go_wp2
        exact ⟨rfl, rfl, M5.out⟩
      have HP := Aside0.mk (pre_ok hP (one_ok ho))
      have hm1 : N - (k + 1) = m := by omega
      clear hP ho
      go_wp2_with fail
      refine HS.out.mono ?_
      first | rintro e w5 A1 c1 rfl l1 g1 h1 h2 | rintro e w5 ⟨A1, c1, rfl, l1, g1, h1, h2⟩
      have HR5 := Aside0.mk h1
      have HM5 := Aside0.mk (hM.out.trans h2)
      have HN5 := Aside0.mk (N_mv hN.out h2 hgl)
      have hsz := h2.size
      clear h1 h2
      go_wp2_with (at_builtin; refine Kd.N_append k67 (w0 := w5) w.heap.size rfl (.tmp 9) (.tmp 12) 26 67 (.agg #[.int .i64 0, .slice none 0 0]) 32 rfl Tryz.underlying26 info67 rfl (by decide) (by omega) u5 xs x [.int .i64 x.f0, .slice A1 x.f1.length c1] (fun k => w.heap.size ≤ k) (fun k => wr.heap.size ≤ k) rfl rfl (k67_mkF _ _ x l1 g1) ?o1 ?o2 HN5.out (Below.refl _ _) ?o3 ?o4 ?_)
      case o1 => exact fun k hk => ⟨Nat.le_trans hM.out.size hk, fun e => absurd (Kd.N_lt hN.out k e.symm) (by omega)⟩
      case o2 => exact fun k hk => Nat.le_trans HM5.out.size hk
      case o3 => exact HM5.out.size
      case o4 => rw [hxk]; omega
      intro v1 w6 hN6 hB6 _ _
      have HN6 := Aside0.mk hN6
      have HR6 := Aside0.mk (HR5.out.base H.out hB6 HM5.out.size)
      have HM6 := Aside0.mk (HM5.out.base hB6 hgl)
      clear hN6 hB6
      go_wp2
      go_roundw
      case rel => exact ⟨k + 1, xs ++ [x], a2, by omega, by rw [List.length_append]; simp [hxk], by go_num, HN6, ⟨HR6.out, by rw [hm1]; exact HP.out⟩, HM6⟩
      case measure => simp [intOf]; omega
    · obtain rfl : k = N := by omega
      have hP := hR.out.2
      rw [Nat.sub_self] at hP
      obtain rfl : d = .ok (xs, ()) a1 := pre_end hP
      obtain ⟨A, c, rfl, lc, _⟩ := Kd.N_reads hN.out
      have HF := Aside0.mk (Kd.N_F hN.out)
      clear hP
      go_wp2
      go_ret
      exact ⟨A, c, rfl, lc, HF.out, hR.out.1, hM.out, hxk⟩
end Go.Proofs.YtpnkifincadakaaGreatDoor.Wr
end
section
namespace Go.Proofs.YtpnkifincadakaaGreatDoor.Wr
open Go.RowKit Go.Pk Go.Proofs.YtpnkifincadakaaGreatDoorW.PrintWords Go.Proofs.YtpnkifincadakaaGreatDoor.PPackSpecs
def Out2 {α : Type} (d : Rdd α) (g P : Nat) (w : World) (ok : α → Nat → Ending → World → Prop) (e : Ending) (w' : World) : Prop := match d with
  | .ok x a => ok x a e w'
  | .bad er p => e = .panicked [{ v := .iface 92 (.agg #[.int .i64 p, .int .i64 er]), recovered := false }] ∧ Mv2 g P w w'
def GotD (g q cb : Nat) (bs : List Int) (r n P : Nat) (w : World) (x : S40 × Nat) (a' : Nat) (e' : Ending) (w' : World) : Prop :=
  ∃ A c, e' = .returned (.agg #[.int .i64 x.1.f0, .int .i64 x.1.f1, .int .i64 x.1.f2, .int .i64 x.1.f3, .int .i64 x.1.f4, .slice A x.1.f5.length c]) ∧ x.1.f5.length ≤ c ∧ Kd.F k40 w' (fun k => w.heap.size ≤ k) A x.1.f5.length x.1.f5 ∧ RS g q cb bs a' r n w' ∧ PS g P x.2 w' ∧ Mv2 g P w w' ∧ x.2 ≤ 4096
def ReadD (f : Nat) : Prop := ∀ (g q cb : Nat) (bs : List Int) (a r n P cnt : Nat) (d : Rdd (S40 × Nat)) (w : World), valueD bs f cnt a = d → RS g q cb bs a r n w → PS g P cnt w → bs.length < cb → cnt ≤ 4096 →
    Calls Tryz.prog 152 #[.pointer (some ⟨P, 0, none⟩), .int .i64 (65 - (f : Int))] w (Out2 d g P w (GotD g q cb bs r n P w))
set_option maxHeartbeats 8000000 in
set_option maxRecDepth 100000 in
theorem clo221D (f : Nat) (hf : f ≤ 64) (IH : ReadD f) (g q cb : Nat) (bs : List Int) (a r n P cnt : Nat) (d : Rdd (S40 × Nat)) (hd : valueD bs f cnt a = d) (N M : Nat) (w : World) (h : RS g q cb bs a r n w) (hp : PS g P cnt w) (hcb : bs.length < cb) (h0 : cnt ≤ 4096)
    (hbp : w.heap[N]? = some (.cells #[.pointer (some ⟨P, 0, none⟩)] 266 (0, 0))) (hbd : w.heap[M]? = some (.cells #[.int .i64 (64 - (f : Int))] 3 (0, 0))) :
    Calls Tryz.prog 221 #[.pointer (some ⟨N, 0, none⟩), .pointer (some ⟨M, 0, none⟩)] w (Out2 d g P w (GotD g q cb bs r n P w)) := by
  have hgl := h.glt
  have H := Aside0.mk h
  have c0 : w.cell? ⟨N, 0, none⟩ = some (.pointer (some ⟨P, 0, none⟩)) := (blk_cell hbp 0).trans rfl
  have c1 : w.cell? ⟨M, 0, none⟩ = some (.int .i64 (64 - (f : Int))) := (blk_cell hbd 0).trans rfl
  have B0 := Aside0.mk (blk_new w (.cells #[.int .i64 0, .int .i64 0, .int .i64 0, .int .i64 0, .int .i64 0, .slice none 0 0] 40))
  have hA := below_alloc (Below.refl _ w) (.cells #[.int .i64 0, .int .i64 0, .int .i64 0, .int .i64 0, .int .i64 0, .slice none 0 0] 40)
  have c0 := pw_cell_below hA c0
  have c1 := pw_cell_below hA c1
  have hPlt : P < w.heap.size := blk_lt hp
  have HS := Aside0.mk (IH g q cb bs a r n P cnt d (w.alloc (.cells #[.int .i64 0, .int .i64 0, .int .i64 0, .int .i64 0, .int .i64 0, .slice none 0 0] 40)) hd (h.below hA) ((hA.block _ hPlt).trans hp) hcb h0)
  have M0 := Aside0.mk ((Mv.of_below hA (Nat.le_of_lt hgl)).two P)
  obtain ⟨deep, hdeep⟩ : ∃ deep : Int, deep = 64 - (f : Int) := ⟨_, rfl⟩
  rw [show 65 - (f : Int) = deep + 1 by omega] at HS
  rw [← hdeep] at c1
  have hd2 : 0 ≤ deep ∧ deep ≤ 64 := by omega
  clear hp h hd IH hA hbp hbd hdeep hf
  rcases d with ⟨⟨e, cnt'⟩, a'⟩ | ⟨er, p⟩
  rotate_left
  · go_enter Tryz.func221, Tryz.ntmps221
    go_wp2_with (go_at_call 152; refine HS.out.mono ?_)
    rintro e' w1 ⟨rfl, k1⟩
    have M1 := Aside0.mk (M0.out.trans k1)
    clear k1
    go_wp2
    exact ⟨rfl, rfl, M1.out⟩
  go_enter Tryz.func221, Tryz.ntmps221
  go_wp2_with (go_at_call 152; refine HS.out.mono ?_)
  rintro e' w1 ⟨A, c, rfl, lc, hF, k1, k2, k3, hc4⟩
  dsimp only at lc hF k2 hc4 ⊢
  have B1 := k3.blk B0.out (by omega) (by omega)
  have f0 : w1.frozen? ⟨w.heap.size, 0, none⟩ = false := blk_frozen B1 0
  have f1 : w1.frozen? ⟨w.heap.size, 1, none⟩ = false := blk_frozen B1 1
  have f2 : w1.frozen? ⟨w.heap.size, 2, none⟩ = false := blk_frozen B1 2
  have f3 : w1.frozen? ⟨w.heap.size, 3, none⟩ = false := blk_frozen B1 3
  have f4 : w1.frozen? ⟨w.heap.size, 4, none⟩ = false := blk_frozen B1 4
  have f5 : w1.frozen? ⟨w.heap.size, 5, none⟩ = false := blk_frozen B1 5
  have z0 : w1.cell? ⟨w.heap.size, 0, none⟩ = some (.int .i64 0) := (blk_cell B1 0).trans rfl
  have z1 : w1.cell? ⟨w.heap.size, 1, none⟩ = some (.int .i64 0) := (blk_cell B1 1).trans rfl
  have z2 : w1.cell? ⟨w.heap.size, 2, none⟩ = some (.int .i64 0) := (blk_cell B1 2).trans rfl
  have z3 : w1.cell? ⟨w.heap.size, 3, none⟩ = some (.int .i64 0) := (blk_cell B1 3).trans rfl
  have z4 : w1.cell? ⟨w.heap.size, 4, none⟩ = some (.int .i64 0) := (blk_cell B1 4).trans rfl
  have z5 : w1.cell? ⟨w.heap.size, 5, none⟩ = some (.slice none 0 0) := (blk_cell B1 5).trans rfl
  have B1 := Aside0.mk B1
  have F1 := Aside0.mk hF
  have R1 := Aside0.mk k1
  have P1 := Aside0.mk k2
  have M1 := Aside0.mk (M0.out.trans k3)
  clear k1 k2 k3 hF
  go_wp2
  have hne1 := P1.out.ne_g R1.out
  have hq := H.out.qlt
  refine bodyPost_ret (results_cell_row rfl _ _ w.heap.size 40 #[.int .i64 e.f0, .int .i64 e.f1, .int .i64 e.f2, .int .i64 e.f3, .int .i64 e.f4, .slice A e.f5.length c] (0, 0) _ rfl (put6_blk B1.out _ _ _ _ _ _) Tryz.underlying40 rfl (by kernel_rfl)) rfl ?_
  refine ⟨A, c, rfl, lc, ?_, ?_, ?_, ?_, hc4⟩
  · exact Kd.F_mono (put6_F F1.out (fun k hk e => by simp at hk; omega) _ _ _ _ _ _) fun k hk => by simp at hk; omega
  · exact put6_rs R1.out (by omega) (by omega) _ _ _ _ _ _
  · exact (put6_other (by omega) _ _ _ _ _ _).trans P1.out
  · exact put6_mv M1.out hgl (Nat.le_refl _) _ _ _ _ _ _
set_option maxHeartbeats 8000000 in
set_option maxRecDepth 100000 in
theorem list220D (f : Nat) (hf : f ≤ 64) (IH : ReadD f) (NN : Nat) (hl : NN ≤ 65535) (g q cb : Nat) (bs : List Int) (a r n P cnt : Nat) (d : Rdd (List S40 × Nat)) (hd : manyD (valueD bs f) NN cnt a = d) (N M : Nat) (w : World) (h : RS g q cb bs a r n w) (hp : PS g P cnt w) (hcb : bs.length < cb) (h0 : cnt ≤ 4096)
    (hbp : w.heap[N]? = some (.cells #[.pointer (some ⟨P, 0, none⟩)] 266 (0, 0))) (hbd : w.heap[M]? = some (.cells #[.int .i64 (64 - (f : Int))] 3 (0, 0))) (hN : N ≠ g ∧ N ≠ P ∧ M ≠ g ∧ M ≠ P) :
    Calls Tryz.prog 220 #[.int .i64 NN, .func (.func 221) #[] #[.pointer (some ⟨N, 0, none⟩), .pointer (some ⟨M, 0, none⟩)]] w (Out2 d g P w fun xs a' e w' => ∃ A c, e = .returned (.slice A xs.1.length c) ∧ xs.1.length ≤ c ∧ Kd.F k40 w' (fun k => w.heap.size ≤ k) A xs.1.length xs.1 ∧ RS g q cb bs a' r n w' ∧ PS g P xs.2 w' ∧ Mv2 g P w w' ∧ xs.2 ≤ 4096 ∧ xs.1.length = NN) := by
  have H := Aside0.mk h
  have HD := Aside0.mk hd
  have HP := Aside0.mk hp
  have HBP := Aside0.mk hbp
  have HBD := Aside0.mk hbd
  have HNE := Aside0.mk hN
  have hgl := h.glt
  have hPl : P < w.heap.size := blk_lt hp
  have HI := Aside0.mk IH
  clear h hd hp hbp hbd IH hN
  go_enter Tryz.func220, Tryz.ntmps220
  go_wp2
  go_loopw [5, 7] (fun v i wr => ∃ (k : Nat) (xs : List S40) (c1 a1 : Nat), k ≤ NN ∧ xs.length = k ∧ c1 ≤ 4096 ∧ i = .int .i64 k ∧ Aside0 (Kd.N k40 40 wr w.heap.size (fun k => w.heap.size ≤ k) v xs) ∧ Aside0 (RS g q cb bs a1 r n wr ∧ Pre (valueD bs f) d xs (NN - k) c1 a1 ∧ PS g P c1 wr) ∧ Aside0 (Mv2 g P w wr)) (fun _ i _ => NN - (intOf i).toNat)
  case atStart => exact ⟨0, [], cnt, a, Nat.zero_le _, rfl, h0, rfl, ⟨Kd.N_nil _ _ _ _ _⟩, ⟨H.out, pre_start HD.out, HP.out⟩, ⟨Mv2.refl _ _ _⟩⟩
  case round =>
    obtain ⟨k, xs, c1, a1, hk, hxk, hc1, rfl, hN, hR, hM⟩ := hrel
    by_cases hlt : k < NN
    · obtain ⟨m, hm⟩ : ∃ m, NN - k = m + 1 := ⟨NN - k - 1, by omega⟩
      have hP := hR.out.2.1
      rw [hm] at hP
      obtain ⟨dt, ho⟩ : ∃ dt, valueD bs f c1 a1 = dt := ⟨_, rfl⟩
      have HS := Aside0.mk (clo221D f hf HI.out g q cb bs a1 r n P c1 dt ho N M wr hR.out.1 hR.out.2.2 hcb hc1 (hM.out.blk HBP.out HNE.out.1 HNE.out.2.1) (hM.out.blk HBD.out HNE.out.2.2.1 HNE.out.2.2.2))
      rcases dt with ⟨⟨x, c2⟩, a2⟩ | ⟨er, p⟩
      rotate_left
      · obtain rfl : d = .bad er p := pre_bad hP ho
        clear hP
        go_wp2_with fail
        refine HS.out.mono ?_
        rintro e' w5 ⟨rfl, k5⟩
        have M5 := Aside0.mk (hM.out.trans k5)
        clear k5
        go_wp2
        exact ⟨rfl, rfl, M5.out⟩
      have HPR := Aside0.mk (pre_ok hP ho)
      have hm1 : NN - (k + 1) = m := by omega
      clear hP ho
      go_wp2_with fail
      refine HS.out.mono ?_
      rintro e w5 ⟨A1, d1, rfl, l1, g1, h1, h4, h5, h6⟩
      dsimp only at l1 g1 h4 h6 ⊢
      have HR5 := Aside0.mk h1
      have HP5 := Aside0.mk h4
      have HM5 := Aside0.mk (hM.out.trans h5)
      have HN5 := Aside0.mk (N_mv2 hN.out h5 hgl hPl)
      have hsz := h5.size
      clear h1 h4 h5
      go_wp2_with (at_builtin; refine Kd.N_append k40 (w0 := w5) w.heap.size rfl (.tmp 9) (.tmp 12) 38 40 (.agg #[.int .i64 0, .int .i64 0, .int .i64 0, .int .i64 0, .int .i64 0, .slice none 0 0]) 64 rfl Tryz.underlying38 info40 rfl (by decide) (by omega) u5 xs x [.int .i64 x.f0, .int .i64 x.f1, .int .i64 x.f2, .int .i64 x.f3, .int .i64 x.f4, .slice A1 x.f5.length d1] (fun k => w.heap.size ≤ k) (fun k => wr.heap.size ≤ k) rfl rfl (k40_mkF _ _ x l1 g1) ?o1 ?o2 HN5.out (Below.refl _ _) ?o3 ?o4 ?_)
      case o1 => exact fun k hk => ⟨Nat.le_trans hM.out.size hk, fun e => absurd (Kd.N_lt hN.out k e.symm) (by omega)⟩
      case o2 => exact fun k hk => Nat.le_trans HM5.out.size hk
      case o3 => exact HM5.out.size
      case o4 => rw [hxk]; omega
      intro v1 w6 hN6 hB6 _ _
      have HN6 := Aside0.mk hN6
      have HR6 := Aside0.mk (HR5.out.base H.out hB6 HM5.out.size)
      have HP6 := Aside0.mk ((hB6.block _ hPl).trans HP5.out)
      have HM6 := Aside0.mk (HM5.out.base hB6 hgl)
      clear hN6 hB6
      go_wp2
      go_roundw
      case rel => exact ⟨k + 1, xs ++ [x], c2, a2, by omega, by rw [List.length_append]; simp [hxk], h6, by go_num, HN6, ⟨HR6.out, by rw [hm1]; exact HPR.out, HP6.out⟩, HM6⟩
      case measure => simp [intOf]; omega
    · obtain rfl : k = NN := by omega
      have hP := hR.out.2.1
      rw [Nat.sub_self] at hP
      obtain rfl : d = .ok (xs, c1) a1 := pre_end hP
      obtain ⟨A, c, rfl, lc, _⟩ := Kd.N_reads hN.out
      have HF := Aside0.mk (Kd.N_F hN.out)
      clear hP
      go_wp2
      go_ret
      exact ⟨A, c, rfl, lc, HF.out, hR.out.1, hR.out.2.2, hM.out, hc1, hxk⟩
end Go.Proofs.YtpnkifincadakaaGreatDoor.Wr
end
