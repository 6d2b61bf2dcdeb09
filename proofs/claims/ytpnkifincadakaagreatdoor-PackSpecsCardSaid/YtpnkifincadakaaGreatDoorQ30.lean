/- Proved: part 30 of the proof of PackSpecs (Head2, Ps3, Ps4, Op1, Ld1, Ld2, Op2). Conditions: each theorem states its own. -/
import Derived.ChangeArms
import Derived.DataReads
import Derived.SizedLaws
import Derived.Handed
import Derived.LaidLaws
import Derived.Test.YtpnkifincadakaaGreatDoorRows
import Derived.ProofKit
import Derived.Test.YtpnkifincadakaaGreatDoorQ24
import Derived.Test.YtpnkifincadakaaGreatDoorQ25
import Derived.Test.YtpnkifincadakaaGreatDoorQ29
set_option linter.unusedVariables false
set_option linter.unusedSimpArgs false
section
namespace Go.Am
open Go.Proofs Go.RowKit Go.Pk
theorem h0_next : h0.next = 5 := by kernel_rfl
theorem hget_h0 {b : Nat} {o : AObj} (h : hget h0 b = some o) : b = 0 ∧ o = ofObj (.cells tabV.toArray 263) := by
  have none_step : ∀ (A : Heap) (o : AObj), hget (hpush A none) b = some o → hget A b = some o := fun A o h => by
    rw [hget_push] at h
    by_cases e : b = A.next
    · rw [if_pos e] at h; cases h
    · rw [if_neg e] at h; exact h
  have h1 := none_step _ _ (none_step _ _ (none_step _ _ (none_step _ _ h)))
  rw [hget_push] at h1
  by_cases e : b = (⟨0, .leaf⟩ : Heap).next
  · rw [if_pos e] at h1
    exact ⟨e, (Option.some.inj h1).symm⟩
  · rw [if_neg e] at h1
    exact absurd h1 (by simp [hget, Tr.get_leaf])
def m0 : Mp := fun b => if b < 5 then some (b, 0) else none
theorem ofObj_cells (c : Array Value) (e : TypeId) : ofObj (.cells c e) = .cells c.size (fillT c.toList 0 .leaf) e := rfl
theorem head_hr (w : World) (top : Nat) (h5 : 5 ≤ w.heap.size) (hb : w.heap[0]? = some (.cells tabV.toArray 263 (0, 0))) : HR Tryz.prog 5 w.heap.size w top m0 h0 w := by
  refine ⟨Below.refl _ _, Nat.le_refl _, h5, by rw [h0_next]; exact Nat.le_refl _, fun b a1 a2 => ?_, fun b r d e => ?_, fun b r d hG e => ?_, fun b hb => ?_, fun b o ho => ?_, fun b b' o o' r d d' hG h1 h2 e1 e2 => ?_⟩
  · rw [h0_next] at a1
    simp only [m0, if_neg (show ¬ b < 5 by omega)]
  · simp only [m0] at e
    split at e
    · cases e; omega
    · cases e
  · simp only [m0] at e
    split at e
    · omega
    · cases e
  · simp only [m0, if_pos hb]
  · obtain ⟨rfl, rfl⟩ := hget_h0 ho
    refine ⟨by rw [h0_next]; omega, 0, 0, _, rfl, hb, ?_⟩
    rw [ofObj_cells]
    refine .cells (.inl rfl) (by simp) fun i v hi hv => ?_
    rw [fillT_get] at hv
    rw [if_pos (by simpa using hi)] at hv
    refine ⟨v, by simpa using hv, ?_⟩
    have hm : v ∈ tabV := List.mem_of_getElem? (by simpa using hv)
    unfold tabV at hm
    obtain ⟨n, _, rfl⟩ := List.mem_map.1 hm
    exact .int _ _
  · simp only [m0] at e1
    split at e1
    · omega
    · cases e1
theorem head_calls (w : World) (h5 : 5 ≤ w.heap.size) (hb : w.heap[0]? = some (.cells tabV.toArray 263 (0, 0))) : Calls Tryz.prog 6 #[] w fun e w' => e = .returned (.bool true) ∧ Below w.heap.size w w' := by
  obtain ⟨A, hA⟩ := isTrue_spec headRuns
  obtain ⟨_, hc⟩ := (machineX_ok (base := w.heap.size) (w0 := w) 3000).call A.next 6 #[] h0 _ _ hA
  refine (hc (Nat.le_refl _) m0 #[] w ⟨rfl, fun i v v' h => by simp at h⟩ (head_hr w _ h5 hb)).mono ?_
  intro e w' h
  cases e with
  | returned v =>
    obtain ⟨m', _, hv, hr, _⟩ := h
    cases hv
    exact ⟨rfl, hr.below⟩
  | outgrown => exact h.elim
  | panicked ch => exact h.elim
end Go.Am
end
section
namespace Go.Proofs.YtpnkifincadakaaGreatDoor.Wr
open Go.RowKit Go.Pk Go.Proofs.YtpnkifincadakaaGreatDoorW.PrintWords Go.Proofs.YtpnkifincadakaaGreatDoor.PPackSpecs
open Go.Am (TabVar tabV head_calls)
structure S28 where
  lex : List S42
  names : List ByteArray
  start : Int
  prods : List S67
structure Lim (s : S28) : Prop where
  b0 : s.lex.length ≤ 1599289640401
  b1 : s.names.length < 8796093022208
  b3 : s.prods.length ≤ 4398046511104
  b4 : ∀ p, p ∈ s.prods → p.f1.length < 8796093022208
  lim : ∀ x, x ∈ s.lex → limE x.f2
  b5 : ∀ x, x ∈ s.names → x.size ≤ 140737488355328
def SpecAt (w : World) (ad : Addr) (s : S28) : Prop :=
  ∃ A0 A1 A3 c0 c1 c3, w.cell? ad = some (.slice A0 s.lex.length c0) ∧ w.cell? ⟨ad.block, ad.off + 1, none⟩ = some (.slice A1 s.names.length c1) ∧ w.cell? ⟨ad.block, ad.off + 2, none⟩ = some (.int .i64 s.start) ∧ w.cell? ⟨ad.block, ad.off + 3, none⟩ = some (.slice A3 s.prods.length c3) ∧
    k42.C w A0 s.lex.length s.lex ∧ Kd.string.C w A1 s.names.length s.names ∧ k67.C w A3 s.prods.length s.prods ∧ s.lex.length ≤ c0 ∧ s.names.length ≤ c1 ∧ s.prods.length ≤ c3
theorem Ob.toR {w : World} {B : Nat} {v : Value} {bs : List Int} (h : Ob w B v bs) : (Kd.int .u8).R 5 w B (fun _ => True) v bs := by
  refine ⟨fun _ _ => trivial, nums .u8 bs, h, by rw [nums_length]; show _ = _ * 1; omega, fun j x hj => ?_⟩
  obtain ⟨hjl, rfl⟩ := List.getElem?_eq_some_iff.1 hj
  show ((nums .u8 bs).drop (j * 1)).take 1 = [.int .u8 bs[j]]
  rw [Nat.mul_one, List.drop_eq_getElem_cons (by rw [nums_length]; exact hjl)]
  simp [nums]
theorem Ob.C {w : World} {B : Nat} {a : Option Addr} {n c : Nat} {bs : List Int} (h : Ob w B (.slice a n c) bs) : n = bs.length ∧ n ≤ c ∧ (Kd.int .u8).C w a bs.length bs := by
  obtain ⟨A, c', e, hr⟩ := own_reads h
  injection e with e1 e2 e3
  subst e1
  subst e3
  have h' : Ob w B (.slice a bs.length c) bs := by rw [← e2]; exact h
  exact ⟨e2, by rw [e2]; exact (Kd.R_reads' h'.toR).2.1, (Kd.R_reads' h'.toR).2.2⟩
theorem same10 (bs : List Int) (hm : bs.length ≤ 67108864) (a b : Option Addr) (n m c d : Nat) (w : World) {B B' : Nat} (ha : Ob w B (.slice a n c) bs) (hb : Ob w B' (.slice b m d) bs) :
    Calls Tryz.prog 10 #[.slice a n c, .slice b m d] w fun e w' => e = .returned (.bool true) ∧ Below w.heap.size w w' := by
  obtain ⟨rfl, h1, h2⟩ := ha.C
  obtain ⟨rfl, h3, h4⟩ := hb.C
  obtain ⟨k, hk⟩ := same_any bs (by omega)
  refine (graftlaw18_same.calls k a c bs b d bs true w h2 h1 h4 h3 hk).mono ?_
  rintro e w' ⟨rfl, h⟩
  exact ⟨rfl, h.below⟩
theorem tab_of_block {w : World} (h : w.heap[0]? = some (.cells tabV.toArray 263 (0, 0))) : TabVar w := fun j v hj => by
  have e : Go.Am.tabI = crcTab.map (fun n : Nat => (n : Int)) := by kernel_rfl
  rw [blk_cell h j]
  unfold tabV
  rw [e]
  simp [hj]
structure Inv (w : World) (b : Nat) (ok : Nat → Prop) (s : S28) (A0 A1 A3 : Option Addr) (c0 c1 c3 : Nat) (va vb : Value) (bs : List Int) (wr : World) : Prop where
  below : Below w.heap.size w wr
  le : w.heap.size ≤ b
  box : wr.heap[b]? = some (.cells #[.slice A0 s.lex.length c0, .slice A1 s.names.length c1, .int .i64 s.start, .slice A3 s.prods.length c3] 28 (0, 0))
  tw : Tw w.heap.size ok s.lex s.names s.prods A0 A1 A3 c0 c1 c3 wr
  oa : Ob wr w.heap.size va bs
  ob : Ob wr w.heap.size vb bs
theorem Inv.base {w wr : World} {b : Nat} {ok : Nat → Prop} {s : S28} {A0 A1 A3 : Option Addr} {c0 c1 c3 : Nat} {va vb : Value} {bs : List Int} (h : Inv w b ok s A0 A1 A3 c0 c1 c3 va vb bs wr) : w.heap.size ≤ wr.heap.size := Nat.le_trans h.le (Nat.le_of_lt (blk_lt h.box))
theorem Inv.call {w wr w' : World} {b : Nat} {ok : Nat → Prop} {s : S28} {A0 A1 A3 : Option Addr} {c0 c1 c3 : Nat} {va vb : Value} {bs : List Int} (h : Inv w b ok s A0 A1 A3 c0 c1 c3 va vb bs wr) (k : Below wr.heap.size wr w') : Inv w b ok s A0 A1 A3 c0 c1 c3 va vb bs w' :=
  ⟨h.below.trans (k.mono h.base), h.le, (k.block _ (blk_lt h.box)).trans h.box, h.tw.below k, h.oa.below k, h.ob.below k⟩
theorem Inv.putL {w wr : World} {b : Nat} {ok : Nat → Prop} {s : S28} {A0 A1 A3 : Option Addr} {c0 c1 c3 : Nat} {va vb : Value} {bs : List Int} (h : Inv w b ok s A0 A1 A3 c0 c1 c3 va vb bs wr) (g : Nat) (hA : A0 = some ⟨g, 0, none⟩) (k o : Nat) (hk : k < s.lex.length) (ho : o < 8) (u : Value) (y : S42) (hy : y.f2 = s.lex[k].f2) (hc : ∀ A c, cells42 y A c = (cells42 s.lex[k] A c).set o u) :
    Inv w b ok { s with lex := s.lex.set k y } A0 A1 A3 c0 c1 c3 va vb bs (wr.setCell ⟨g, k * 8 + o, none⟩ u) := by
  obtain ⟨g', e, hle, hok, hL⟩ := h.tw.lx (by omega)
  rw [hA] at e
  injection e with e
  injection e with e _ _
  subst e
  obtain ⟨cells, hg, _⟩ := id hL
  have hlen : (s.lex.set k y).length = s.lex.length := List.length_set ..
  refine ⟨h.below.setCell (p := ⟨g, k * 8 + o, none⟩) hle u, h.le, ?_, ⟨by rw [hlen]; exact h.tw.l0, by rw [hlen]; exact h.tw.m0, fun _ => ⟨g, hA, hle, hok, hL.put hok k o hk ho u y hy hc⟩, h.tw.l1, h.tw.m1, fun hp => ?_, h.tw.l3, Kd.F_far h.tw.pr (fun q hq e => hok (by subst e; exact hq)) u⟩, own_setCell h.oa (other_block h.oa hg (by decide)) u, own_setCell h.ob (other_block h.ob hg (by decide)) u⟩
  · show (wr.setCell ⟨g, k * 8 + o, none⟩ u).heap[b]? = some (Obj.cells #[Value.slice A0 (s.lex.set k y).length c0, .slice A1 s.names.length c1, .int .i64 s.start, .slice A3 s.prods.length c3] 28 (0, 0))
    rw [hlen]
    exact blk_far h.box (p := ⟨g, k * 8 + o, none⟩) (blk_ne h.box hg (by decide)) u
  · obtain ⟨g1, e1, q1, q2, q3⟩ := h.tw.nm hp
    obtain ⟨cells1, hg1, _⟩ := id q3
    exact ⟨g1, e1, q1, q2, q3.step fun q hq _ => Below.heap_setCell wr ⟨g, k * 8 + o, none⟩ u q (by subst hq; exact blk_ne hg1 hg (by decide))⟩
theorem Inv.putN {w wr : World} {b : Nat} {ok : Nat → Prop} {s : S28} {A0 A1 A3 : Option Addr} {c0 c1 c3 : Nat} {va vb : Value} {bs : List Int} (h : Inv w b ok s A0 A1 A3 c0 c1 c3 va vb bs wr) (g : Nat) (hA : A1 = some ⟨g, 0, none⟩) (k : Nat) (hk : k < s.names.length) (x : ByteArray) :
    Inv w b ok { s with names := s.names.set k x } A0 A1 A3 c0 c1 c3 va vb bs (wr.setCell ⟨g, k, none⟩ (.string x)) := by
  obtain ⟨g', e, hle, hok, hL⟩ := h.tw.nm (by omega)
  rw [hA] at e
  injection e with e
  injection e with e _ _
  subst e
  obtain ⟨cells, hg, _⟩ := id hL
  have hlen : (s.names.set k x).length = s.names.length := List.length_set ..
  refine ⟨h.below.setCell (p := ⟨g, k, none⟩) hle _, h.le, ?_, ⟨h.tw.l0, h.tw.m0, fun hp => ?_, by rw [hlen]; exact h.tw.l1, by rw [hlen]; exact h.tw.m1, fun _ => ⟨g, hA, hle, hok, hL.put k hk x⟩, h.tw.l3, Kd.F_far h.tw.pr (fun q hq e => hok (by subst e; exact hq)) _⟩, own_setCell h.oa (other_block h.oa hg (by decide)) _, own_setCell h.ob (other_block h.ob hg (by decide)) _⟩
  · show (wr.setCell ⟨g, k, none⟩ (.string x)).heap[b]? = some (Obj.cells #[Value.slice A0 s.lex.length c0, .slice A1 (s.names.set k x).length c1, .int .i64 s.start, .slice A3 s.prods.length c3] 28 (0, 0))
    rw [hlen]
    exact blk_far h.box (p := ⟨g, k, none⟩) (blk_ne h.box hg (by decide)) _
  · obtain ⟨g1, e1, q1, q2, q3⟩ := h.tw.lx hp
    obtain ⟨cells1, hg1, _⟩ := id q3
    exact ⟨g1, e1, q1, q2, q3.step fun q hq _ => Below.heap_setCell wr ⟨g, k, none⟩ _ q (by
      rcases hq with hq | rfl
      · intro e; exact hok (by subst e; exact hq)
      · exact blk_ne hg1 hg (by decide))⟩
def part {α : Type} (f : α → α) (k : Nat) (l : List α) : List α := (l.take k).map f ++ l.drop k
theorem part_length {α : Type} (f : α → α) (k : Nat) (l : List α) : (part f k l).length = l.length := by unfold part; simp; omega
theorem part_zero {α : Type} (f : α → α) (l : List α) : part f 0 l = l := by simp [part]
theorem part_all {α : Type} (f : α → α) (l : List α) : part f l.length l = l.map f := by simp [part]
theorem part_get {α : Type} (f : α → α) (k : Nat) (l : List α) (h : k < l.length) : (part f k l)[k]'(by rw [part_length]; exact h) = l[k] := by
  unfold part
  rw [List.getElem_append_right (by simp; omega)]
  simp [Nat.min_eq_left (Nat.le_of_lt h)]
theorem part_set {α : Type} (f : α → α) (k : Nat) (l : List α) (h : k < l.length) : (part f k l).set k (f l[k]) = part f (k + 1) l := by
  unfold part
  rw [List.set_append_right _ _ (by simp; omega)]
  rw [List.take_succ_eq_append_getElem h, List.map_append]
  simp [Nat.min_eq_left (Nat.le_of_lt h)]
  rw [List.drop_eq_getElem_cons h]
  rfl
end Go.Proofs.YtpnkifincadakaaGreatDoor.Wr
end
section
namespace Go.Proofs.YtpnkifincadakaaGreatDoor.Wr
open Go.RowKit Go.Pk Go.Proofs.YtpnkifincadakaaGreatDoorW.PrintWords Go.Proofs.YtpnkifincadakaaGreatDoor.PPackSpecs
open Go.Am (TabVar tabV head_calls)
theorem Tw.lower {B B' : Nat} {ok : Nat → Prop} {lex : List S42} {names : List ByteArray} {prods : List S67} {A0 A1 A3 : Option Addr} {c0 c1 c3 : Nat} {w : World} (h : Tw B ok lex names prods A0 A1 A3 c0 c1 c3 w) (hB : B' ≤ B) : Tw B' ok lex names prods A0 A1 A3 c0 c1 c3 w := by
  refine ⟨h.l0, h.m0, fun hp => ?_, h.l1, h.m1, fun hp => ?_, h.l3, h.pr⟩
  · obtain ⟨g, e, h1, h2, h3⟩ := h.lx hp
    exact ⟨g, e, Nat.le_trans hB h1, h2, h3⟩
  · obtain ⟨g, e, h1, h2, h3⟩ := h.nm hp
    exact ⟨g, e, Nat.le_trans hB h1, h2, h3⟩
def turnL (x : S42) : S42 := ⟨⟨#[97, 103, 97, 105, 110]⟩, !x.f1, x.f2⟩
def turnN (x : ByteArray) : ByteArray := x ++ ⟨#[122]⟩
set_option maxHeartbeats 16000000 in
set_option maxRecDepth 100000 in
theorem packSpecs3 (specs : List S28) (A : Option Addr) (c : Nat) (w : World) (hm : specs.length ≤ 9223372036854775807) (h5 : 5 ≤ w.heap.size) (hb : w.heap[0]? = some (.cells tabV.toArray 263 (0, 0)))
    (hr : ∀ i (h : i < specs.length), ∃ ad, A = some ad ∧ SpecAt w (ad.add (i * 4)) specs[i]) (hl : ∀ s, s ∈ specs → Lim s) :
    Calls Tryz.prog 3 #[.slice A specs.length c] w fun e w' => e = .returned (.bool true) ∧ Below w.heap.size w w' := by
  have HR := Aside0.mk hr
  have HLIM := Aside0.mk hl
  have HT := Aside0.mk (tab_of_block hb)
  have HC := Aside0.mk (head_calls w h5 hb)
  clear hr hl hb
  go_enter Tryz.func3, Tryz.ntmps3
  go_wp2_with (go_at_call 6; refine HC.out.mono ?_)
  rintro e w0 ⟨rfl, hk0⟩
  have HK0 := Aside0.mk hk0
  clear hk0 HC
  go_wp2
  go_loopw [3] (fun i wr => ∃ k : Nat, k ≤ specs.length ∧ i = .int .i64 k ∧ Aside0 (Below w.heap.size w wr)) (fun i _ => specs.length - (intOf i).toNat)
  case atStart => exact ⟨0, Nat.zero_le _, rfl, HK0⟩
  case round =>
    obtain ⟨k, hk, rfl, hB⟩ := hrel
    by_cases hlt : k < specs.length
    · obtain ⟨ad, rfl, A0, A1, A3, c0, c1, c3, p0, p1, p2, p3, g0, g1, g3, l0, l1, l3⟩ := HR.out k hlt
      have hL := HLIM.out _ (List.getElem_mem hlt)
      have i1 : (k : Int) < (specs.length : Int) := by omega
      generalize specs[k] = s at *
      obtain ⟨lex, names, start, prods⟩ := s
      dsimp only at p0 p1 p2 p3 g0 g1 g3 l0 l1 l3
      have P0 := Aside0.mk p0
      have P1 := Aside0.mk p1
      have P2 := Aside0.mk p2
      have P3 := Aside0.mk p3
      have q0 := pw_cell_below hB.out p0
      have q1 := pw_cell_below hB.out p1
      have q2 := pw_cell_below hB.out p2
      have q3 := pw_cell_below hB.out p3
      have G0 := Aside0.mk g0
      have G1 := Aside0.mk g1
      have G3 := Aside0.mk g3
      have HL := Aside0.mk hL
      have HTW := Aside0.mk (twin7 lex names start prods A0 A1 A3 c0 c1 c3 wr (Kd.C_below g0 hB.out) (Kd.C_below g1 hB.out) (Kd.C_below g3 hB.out) l0 l1 l3 hL.b0 hL.b1 hL.b3 hL.b4)
      clear p0 p1 p2 p3 g0 g1 g3 hL
      go_wp2_with (go_at_call 7; refine HTW.out.mono ?_)
      rintro e w1 ⟨B0, B1, B3, d0, d1, d3, ok, rfl, hTw, hk1⟩
      have hTw2 := Aside0.mk (hTw.below ((Below.refl _ w1).alloc (Nat.le_refl _) (.cells #[.slice B0 lex.length d0, .slice B1 names.length d1, .int .i64 start, .slice B3 prods.length d3] 28)))
      have hbx := blk_new w1 (.cells #[.slice B0 lex.length d0, .slice B1 names.length d1, .int .i64 start, .slice B3 prods.length d3] 28)
      have hB1 := below_then hB.out hB.out.size hk1
      have hB2 := hB1.alloc hB1.size (.cells #[.slice B0 lex.length d0, .slice B1 names.length d1, .int .i64 start, .slice B3 prods.length d3] 28)
      have HBX := Aside0.mk hbx
      have HB2 := Aside0.mk hB2
      have hsz1 := Nat.le_trans hB.out.size hk1.size
      have hsr := hB.out.size
      clear hTw hk1 hbx hB1 hB2 HTW q0 q1 q2 q3
      have H8 := Aside0.mk (spec8 lex names start prods B0 B1 B3 d0 d1 d3 _ (Kd.C_F k42_heap hTw2.out.C0) (Kd.C_F Kd.heap_string hTw2.out.C1) (Kd.C_F k67_heap hTw2.out.C3) (tab_below HT.out (by omega) HB2.out) (by simp))
      go_wp2_with (go_at_call 8; refine H8.out.mono ?_)
      rintro e w2 ⟨va, rfl, hoa, hk2⟩
      have hB3 := below_then HB2.out HB2.out.size hk2
      have r0 := pw_cell_below hB3 P0.out
      have r1 := pw_cell_below hB3 P1.out
      have r2 := pw_cell_below hB3 P2.out
      have r3 := pw_cell_below hB3 P3.out
      have HB3 := Aside0.mk hB3
      have HOA := Aside0.mk (hoa.lower (B' := w.heap.size) (by simp; omega))
      have HT3 := Aside0.mk (hTw2.out.below hk2)
      have HBX3 := Aside0.mk ((hk2.block _ (blk_lt HBX.out)).trans HBX.out)
      have H9 := Aside0.mk (rspec9 lex names start prods A0 A1 A3 c0 c1 c3 w2 (Kd.C_below G0.out hB3) (Kd.C_below G1.out hB3) (Kd.C_below G3.out hB3) l0 l1 l3 HL.out.lim)
      have hs3 := HB3.out.size
      obtain ⟨a1, e1, rfl⟩ := own_slice hoa
      clear hoa hk2 hB3 H8 hTw2 HBX HB2
      go_wp2_with (go_at_call 9; refine H9.out.mono ?_)
      rintro e w3 ⟨vb, rfl, hob, hk3⟩
      have hinv : Inv w w1.heap.size ok ⟨lex, names, start, prods⟩ B0 B1 B3 d0 d1 d3 (.slice a1 (told lex names start prods).length e1) vb (told lex names start prods) w3 :=
        ⟨below_then HB3.out HB3.out.size hk3, hsz1, (hk3.block _ (blk_lt HBX3.out)).trans HBX3.out, (HT3.out.lower hsr).below hk3, HOA.out.below hk3, hob.lower hs3⟩
      obtain ⟨a2, e2, rfl⟩ := own_slice hob
      have HINV := Aside0.mk hinv
      have hbs := told_small lex names start prods
      clear hob hk3 hinv H9 HOA HT3 HBX3 HB3 r0 r1 r2 r3
      generalize told lex names start prods = bs at *
      generalize specErr lex names start prods = r at *
      generalize w1.heap.size = b at *
      go_wp2_with fail
      obtain ⟨wx, rfl⟩ : ∃ w', w' = w3 := ⟨_, rfl⟩
      have hbx := HINV.out.box
      have HK : Aside0 (∀ w' : World, Below wx.heap.size wx w' → Below wx.heap.size wx w' ∧ w'.cell? ⟨b, 0, none⟩ = some (.slice B0 lex.length d0) ∧ w'.cell? ⟨b, 1, none⟩ = some (.slice B1 names.length d1) ∧ w'.cell? ⟨b, 2, none⟩ = some (.int .i64 start) ∧ w'.cell? ⟨b, 3, none⟩ = some (.slice B3 prods.length d3) ∧ w'.cell? (ad.add (k * 4)) = some (.slice A0 lex.length c0) ∧ w'.cell? ⟨(ad.add (k * 4)).block, (ad.add (k * 4)).off + 1, none⟩ = some (.slice A1 names.length c1) ∧ w'.cell? ⟨(ad.add (k * 4)).block, (ad.add (k * 4)).off + 2, none⟩ = some (.int .i64 start) ∧ w'.cell? ⟨(ad.add (k * 4)).block, (ad.add (k * 4)).off + 3, none⟩ = some (.slice A3 prods.length c3)) := ⟨fun w' h => ⟨h, pw_cell_below h ((blk_cell hbx 0).trans rfl), pw_cell_below h ((blk_cell hbx 1).trans rfl), pw_cell_below h ((blk_cell hbx 2).trans rfl), pw_cell_below h ((blk_cell hbx 3).trans rfl), pw_cell_below h (pw_cell_below HINV.out.below P0.out), pw_cell_below h (pw_cell_below HINV.out.below P1.out), pw_cell_below h (pw_cell_below HINV.out.below P2.out), pw_cell_below h (pw_cell_below HINV.out.below P3.out)⟩⟩
      have X0 := Aside0.mk HINV.out.tw.C0
      have X1 := Aside0.mk HINV.out.tw.C1
      have X3 := Aside0.mk HINV.out.tw.C3
      have Y0 := Aside0.mk (Kd.C_below G0.out HINV.out.below)
      have Y1 := Aside0.mk (Kd.C_below G1.out HINV.out.below)
      have Y3 := Aside0.mk (Kd.C_below G3.out HINV.out.below)
      clear hbx
      first | go_region_held3 (fun w' => Below wx.heap.size wx w' ∧ w'.cell? ⟨b, 0, none⟩ = some (.slice B0 lex.length d0) ∧ w'.cell? ⟨b, 1, none⟩ = some (.slice B1 names.length d1) ∧ w'.cell? ⟨b, 2, none⟩ = some (.int .i64 start) ∧ w'.cell? ⟨b, 3, none⟩ = some (.slice B3 prods.length d3) ∧ w'.cell? (ad.add (k * 4)) = some (.slice A0 lex.length c0) ∧ w'.cell? ⟨(ad.add (k * 4)).block, (ad.add (k * 4)).off + 1, none⟩ = some (.slice A1 names.length c1) ∧ w'.cell? ⟨(ad.add (k * 4)).block, (ad.add (k * 4)).off + 2, none⟩ = some (.int .i64 start) ∧ w'.cell? ⟨(ad.add (k * 4)).block, (ad.add (k * 4)).off + 3, none⟩ = some (.slice A3 prods.length c3)) (first | exact HK.out _ (below_drew1 (Below.refl _ _)) | exact HK.out _ (below_then hbw hbw.size hbq)) (first | (go_at_call 10; have hbw := (by assumption : Below wx.heap.size wx _ ∧ _).1; with_reducible refine (same10 bs hbs a1 a2 bs.length bs.length e1 e2 _ (HINV.out.oa.below hbw) (HINV.out.ob.below hbw)).mono ?_; rintro e wq ⟨rfl, hbq⟩) | (go_at_call 11; have hbw := (by assumption : Below wx.heap.size wx _ ∧ _).1; with_reducible refine (sameSpec11 lex names start prods B0 B1 B3 A0 A1 A3 d0 d1 d3 c0 c1 c3 _ (Kd.C_below X0.out hbw) (Kd.C_below X1.out hbw) (Kd.C_below X3.out hbw) (Kd.C_below Y0.out hbw) (Kd.C_below Y1.out hbw) (Kd.C_below Y3.out hbw)).mono ?_; rintro e wq ⟨rfl, hbq⟩)) | fail
      have hbw := (by assumption : Below wx.heap.size wx _ ∧ _).1
      have HI := Aside0.mk (HINV.out.call hbw)
      have hm0 := HI.out.tw.m0
      have hm1 := HI.out.tw.m1
      dsimp only at hm0 hm1
      clear hbw HK HINV X0 X1 X3 Y0 Y1 Y3
      go_wp2_with fail
      go_loopw [9] (fun i wy => ∃ m : Nat, m ≤ lex.length ∧ i = .int .i64 m ∧ Aside0 (Inv w b ok ⟨part turnL m lex, names, start, prods⟩ B0 B1 B3 d0 d1 d3 (.slice a1 bs.length e1) (.slice a2 bs.length e2) bs wy)) (fun i _ => lex.length - (intOf i).toNat)
      case atStart => exact ⟨0, Nat.zero_le _, rfl, by rw [part_zero]; exact HI⟩
      case round =>
        obtain ⟨m, hmm, rfl, hI⟩ := hrel
        have hbx := hI.out.box
        dsimp only at hbx
        rw [part_length] at hbx
        have b0 : wr.cell? ⟨b, 0, none⟩ = some (.slice B0 lex.length d0) := (blk_cell hbx 0).trans rfl
        by_cases hlt2 : m < lex.length
        · obtain ⟨g, rfl, hg1, hg2, hLx⟩ := hI.out.tw.lx (by show 0 < (part turnL m lex).length; rw [part_length]; omega)
          dsimp only at hLx
          have hpl : m < (part turnL m lex).length := by rw [part_length]; exact hlt2
          have hgt := part_get turnL m lex hlt2
          obtain ⟨A', c', hx⟩ := hLx.at m hpl
          have x0 : wr.cell? ⟨g, m * 8, none⟩ = some (.string (part turnL m lex)[m].f0) := hx 0 _ rfl
          have x1 : wr.cell? ⟨g, m * 8 + 1, none⟩ = some (.bool (part turnL m lex)[m].f1) := hx 1 _ rfl
          have f0 := hLx.frozen (m * 8)
          have f1 := hLx.frozen (m * 8 + 1)
          have i2 : (m : Int) < (lex.length : Int) := by omega
          clear hx
          have hI1 := Aside0.mk (hI.out.putL g rfl m 0 hpl (by decide) (.string ⟨#[97, 103, 97, 105, 110]⟩) ⟨⟨#[97, 103, 97, 105, 110]⟩, lex[m].f1, lex[m].f2⟩ (by dsimp only; rw [hgt]) (fun A c => by dsimp only; rw [hgt]; rfl))
          have x1' := x1
          rw [hgt] at x1'
          have x2 : (wr.setCell ⟨g, m * 8, none⟩ (.string ⟨#[97, 103, 97, 105, 110]⟩)).cell? ⟨g, m * 8 + 1, none⟩ = some (.bool lex[m].f1) := by
            have hne : (⟨g, m * 8, none⟩ : Addr) ≠ ⟨g, m * 8 + 1, none⟩ := by intro e; injection e with _ e _; omega
            rw [World.cell?_setCell_other (h := hne)]
            exact x1'
          go_wp2_with fail
          generalize (wr.setCell ⟨g, m * 8, none⟩ (.string ⟨#[97, 103, 97, 105, 110]⟩)) = wy at *
          clear b0 x0 x1 x1' f0 f1 hLx hbx
          have hbx := hI1.out.box
          dsimp only at hbx
          rw [List.length_set, part_length] at hbx
          have b0 : wy.cell? ⟨b, 0, none⟩ = some (.slice (some ⟨g, 0, none⟩) lex.length d0) := (blk_cell hbx 0).trans rfl
          have f1 : wy.frozen? ⟨g, m * 8 + 1, none⟩ = false := by
            obtain ⟨g', e, _, _, hL'⟩ := hI1.out.tw.lx (by show 0 < ((part turnL m lex).set m _).length; rw [List.length_set, part_length]; omega)
            injection e with e
            injection e with e _ _
            subst e
            exact hL'.frozen _
          have hpl2 : m < ((part turnL m lex).set m ⟨⟨#[97, 103, 97, 105, 110]⟩, lex[m].f1, lex[m].f2⟩).length := by rw [List.length_set]; exact hpl
          have hI2 := hI1.out.putL g rfl m 1 hpl2 (by decide) (.bool (!lex[m].f1)) (turnL lex[m]) (by dsimp only; rw [List.getElem_set_self]; rfl) (fun A c => by dsimp only; rw [List.getElem_set_self]; rfl)
          dsimp only at hI2
          rw [List.set_set, part_set turnL m lex hlt2] at hI2
          have HI2 := Aside0.mk hI2
          clear hI2 hpl2 hbx
          go_region
          all_goals
            go_wp2_with fail
            go_roundw
            case rel => exact ⟨m + 1, by omega, by go_num, ⟨HI2.out.call (below_drew1 (Below.refl _ _))⟩⟩
            case measure => simp [intOf]; omega
        · obtain rfl : m = lex.length := by omega
          have hI' := hI.out
          rw [part_all] at hI'
          obtain ⟨L, hLL⟩ : ∃ L, Hid (L = lex.map turnL) := ⟨_, Lib.hid rfl⟩
          rw [← hLL.out] at hI'
          have HLlen : Hid (L.length = lex.length) := Lib.hid (by rw [hLL.out, List.length_map])
          have HLlim : Aside0 (∀ x, x ∈ L → limE x.f2) := ⟨fun x hx => by
            rw [hLL.out] at hx
            obtain ⟨y, hy, rfl⟩ := List.mem_map.1 hx
            exact HL.out.lim y hy⟩
          have HI' := Aside0.mk hI'
          have b1 : wr.cell? ⟨b, 1, none⟩ = some (.slice B1 names.length d1) := (blk_cell hbx 1).trans rfl
          clear hI hI' hLL hbx
          go_wp2_with fail
          obtain ⟨wl, rfl⟩ : ∃ w', w' = wr := ⟨_, rfl⟩
          clear b1 b0
          go_loopw [10] (fun i wy => ∃ m : Nat, m ≤ names.length ∧ i = .int .i64 m ∧ Aside0 (Inv w b ok ⟨L, part turnN m names, start, prods⟩ B0 B1 B3 d0 d1 d3 (.slice a1 bs.length e1) (.slice a2 bs.length e2) bs wy)) (fun i _ => names.length - (intOf i).toNat)
          case atStart => exact ⟨0, Nat.zero_le _, rfl, by rw [part_zero]; exact HI'⟩
          case round =>
            obtain ⟨m, hmm, rfl, hI⟩ := hrel
            have hbx := hI.out.box
            dsimp only at hbx
            rw [part_length, HLlen.out] at hbx
            have b1 : wr.cell? ⟨b, 1, none⟩ = some (.slice B1 names.length d1) := (blk_cell hbx 1).trans rfl
            by_cases hlt2 : m < names.length
            · obtain ⟨g, rfl, hg1, hg2, hNm⟩ := hI.out.tw.nm (by show 0 < (part turnN m names).length; rw [part_length]; omega)
              dsimp only at hNm
              have hpl : m < (part turnN m names).length := by rw [part_length]; exact hlt2
              have x0 := hNm.at m hpl
              rw [part_get turnN m names hlt2] at x0
              have f0 := hNm.frozen m
              have i2 : (m : Int) < (names.length : Int) := by omega
              have hI2 := hI.out.putN g rfl m hpl (turnN names[m])
              dsimp only at hI2
              rw [part_set turnN m names hlt2] at hI2
              have HI2 := Aside0.mk hI2
              clear hI2 hNm hbx
              have hsz : ¬ (9223372036854775807 < names[m].size + 1) := by have := HL.out.b5 _ (List.getElem_mem hlt2); omega
              go_wp2_with fail
              go_region
              all_goals
                go_wp2_with fail
                go_roundw
                case rel => exact ⟨m + 1, by omega, by go_num, ⟨HI2.out.call (below_drew1 (Below.refl _ _))⟩⟩
                case measure => simp [intOf]; omega
            · obtain rfl : m = names.length := by omega
              have hI' := hI.out
              rw [part_all] at hI'
              obtain ⟨N, hNN⟩ : ∃ N, Hid (N = names.map turnN) := ⟨_, Lib.hid rfl⟩
              rw [← hNN.out] at hI'
              have HNlen : Hid (N.length = names.length) := Lib.hid (by rw [hNN.out, List.length_map])
              have HI' := Aside0.mk hI'
              have b0 : wr.cell? ⟨b, 0, none⟩ = some (.slice B0 lex.length d0) := (blk_cell hbx 0).trans rfl
              have b2 : wr.cell? ⟨b, 2, none⟩ = some (.int .i64 start) := (blk_cell hbx 2).trans rfl
              have b3 : wr.cell? ⟨b, 3, none⟩ = some (.slice B3 prods.length d3) := (blk_cell hbx 3).trans rfl
              have h8 := spec8 L N start prods B0 B1 B3 d0 d1 d3 wr (Kd.C_F k42_heap hI'.tw.C0) (Kd.C_F Kd.heap_string hI'.tw.C1) (Kd.C_F k67_heap hI'.tw.C3) (tab_below HT.out (by omega) hI'.below) (Nat.lt_of_lt_of_le (by omega) hI'.base)
              rw [HLlen.out, HNlen.out] at h8
              have H8 := Aside0.mk h8
              clear hI hI' hNN hbx h8
              go_wp2_with (go_at_call 8; refine H8.out.mono ?_)
              rintro e w4 ⟨vc, rfl, hoc, hk4⟩
              have hI4 := HI'.out.call hk4
              have hbx := hI4.box
              dsimp only at hbx
              rw [HLlen.out, HNlen.out] at hbx
              have r0 : w4.cell? ⟨b, 0, none⟩ = some (.slice B0 lex.length d0) := (blk_cell hbx 0).trans rfl
              have r1 : w4.cell? ⟨b, 1, none⟩ = some (.slice B1 names.length d1) := (blk_cell hbx 1).trans rfl
              have r2 : w4.cell? ⟨b, 2, none⟩ = some (.int .i64 start) := (blk_cell hbx 2).trans rfl
              have r3 : w4.cell? ⟨b, 3, none⟩ = some (.slice B3 prods.length d3) := (blk_cell hbx 3).trans rfl
              have htw := twin7 L N start prods B0 B1 B3 d0 d1 d3 w4 hI4.tw.C0 hI4.tw.C1 hI4.tw.C3 hI4.tw.l0 hI4.tw.l1 hI4.tw.l3 (by rw [HLlen.out]; exact HL.out.b0) (by rw [HNlen.out]; exact HL.out.b1) HL.out.b3 HL.out.b4
              rw [HLlen.out, HNlen.out] at htw
              have HTW := Aside0.mk htw
              have HOC := Aside0.mk hoc
              have HI4 := Aside0.mk hI4
              obtain ⟨a3, e3, rfl⟩ := own_slice hoc
              clear htw hoc hI4 hbx hk4 H8 HI'
              go_wp2_with (go_at_call 7; refine HTW.out.mono ?_)
              rintro e w5 ⟨D0, D1, D3, f0, f1, f3, ok5, rfl, hT5, hk5⟩
              have h9 := rspec9 L N start prods D0 D1 D3 f0 f1 f3 w5 hT5.C0 hT5.C1 hT5.C3 hT5.l0 hT5.l1 hT5.l3 HLlim.out
              rw [HLlen.out, HNlen.out] at h9
              have H9 := Aside0.mk h9
              have HOC5 := Aside0.mk (HOC.out.below hk5)
              have HI5 := Aside0.mk (HI4.out.call hk5)
              clear h9 hT5 hk5 HTW HOC HI4
              go_wp2_with (go_at_call 9; refine H9.out.mono ?_)
              rintro e w6 ⟨vd, rfl, hod, hk6⟩
              have HOC6 := Aside0.mk (HOC5.out.below hk6)
              have HI6 := Aside0.mk (HI5.out.call hk6)
              have HOD := Aside0.mk hod
              have hbs2 := told_small L N start prods
              obtain ⟨a4, e4, rfl⟩ := own_slice hod
              clear hod hk6 H9 HOC5 HI5
              generalize told L N start prods = bs2 at *
              generalize specErr L N start prods = r2 at *
              have HS1 := Aside0.mk (same10 bs2 hbs2 a3 a4 bs2.length bs2.length e3 e4 w6 HOC6.out HOD.out)
              go_wp2_with (go_at_call 10; refine HS1.out.mono ?_)
              rintro e w7 ⟨rfl, hk7⟩
              have HI7 := Aside0.mk (HI6.out.call hk7)
              have HS2 := Aside0.mk (same10 bs hbs a1 a2 bs.length bs.length e1 e2 w7 HI7.out.oa HI7.out.ob)
              clear hk7 HI6 HS1
              go_wp2_with (go_at_call 10; refine HS2.out.mono ?_)
              rintro e w8 ⟨rfl, hk8⟩
              have HI8 := Aside0.mk (HI7.out.call hk8)
              clear hk8 HI7 HS2
              go_wp2_with fail
              go_roundw
              case rel => exact ⟨k + 1, by omega, by go_num, ⟨HI8.out.below⟩⟩
              case measure => simp [intOf]; omega
    · obtain rfl : k = specs.length := by omega
      go_wp2
      go_ret
      exact ⟨rfl, hB.out⟩
end Go.Proofs.YtpnkifincadakaaGreatDoor.Wr
end
section
set_option maxRecDepth 100000
namespace Go.Proofs.YtpnkifincadakaaGreatDoor.Wr
open Go.RowKit Go.Pk Go.Proofs.YtpnkifincadakaaGreatDoorW.PrintWords Go.Proofs.YtpnkifincadakaaGreatDoor.PPackSpecs
open Go.ChangeShapes Go.WideShapes
def Wt {H : Type} (t : TypeId) (d : DataW H) : Prop := ∀ n, n ∈ d.weights Tryz.prog t → n ≤ reachBytes
theorem weightsAll_mem {H : Type} {P : Program} {e : TypeId} : ∀ {l : List (DataW H)} {d : DataW H} {n : Nat}, d ∈ l → n ∈ d.weights P e → n ∈ DataW.weightsAll P e l
  | x :: r, d, n, hd, hn => by
    simp only [DataW.weightsAll, List.mem_append]
    rcases List.mem_cons.1 hd with rfl | hd
    · exact .inl hn
    · exact .inr (weightsAll_mem hd hn)
theorem Wt.slice {H : Type} {t e : TypeId} {elems spare : List (DataW H)} (h : Wt t (.slice elems spare)) (ht : Tryz.prog.underlying t = some (.slice e)) : elems.length * Tryz.prog.bytesOf e ≤ reachBytes ∧ ∀ d, d ∈ elems → Wt e d := by
  refine ⟨?_, fun d hd n hn => h n ?_⟩
  · have := h ((elems.length + spare.length) * Tryz.prog.bytesOf e) (by simp [DataW.weights, ht])
    exact Nat.le_trans (Nat.mul_le_mul_right _ (Nat.le_add_right _ _)) this
  · simp only [DataW.weights, ht]
    exact List.mem_cons_of_mem _ (List.mem_append.2 (.inl (weightsAll_mem hd hn)))
theorem Wt.struct {H : Type} {t : TypeId} {fs : Array Field} {parts : List (DataW H)} (h : Wt t (.agg parts)) (ht : Tryz.prog.underlying t = some (.struct fs)) (i : Nat) (f : Field) (d : DataW H) (hf : fs[i]? = some f) (hd : parts[i]? = some d) : Wt f.type d := fun n hn => h n (by
  simp only [DataW.weights, ht]
  exact DataW.weights_mem_each (j := i) (by simp [hf]) hd n hn)
section
variable {H : Type} {enc : TypeId × Value → H} {W : World} {sp : Nat → Bool} {held : Bool}
theorem open_kd {α : Type} (d : Kd α) (Pr : α → Prop) {t e : TypeId} (ht : Tryz.prog.underlying t = some (.slice e)) (hc : Tryz.prog.cellsOf e = d.sz) (fuel : Nat)
    (hel : ∀ n, n < fuel → ∀ cs (x : DataW H × List MemPlace), DataW.trod enc Tryz.prog W 0 sp held n e cs = some x → Wt e x.1 → ∃ y : α, d.K W y cs ∧ Pr y)
    {cs : List Value} {x : DataW H × List MemPlace} (h : DataW.trod enc Tryz.prog W 0 sp held fuel t cs = some x) (hw : Wt t x.1) :
    ∃ A c, ∃ xs : List α, cs = [.slice A xs.length c] ∧ xs.length ≤ c ∧ d.C W A xs.length xs ∧ xs.length * Tryz.prog.bytesOf e ≤ reachBytes ∧ ∀ y, y ∈ xs → Pr y := by
  rcases DataW.trod_slice ht h with ⟨rfl, rfl⟩ | ⟨a, len, cap, elems, rest, n, rfl, rfl, rfl, _, hl, hm, hlen, hget, _, _⟩
  · exact ⟨none, 0, [], rfl, Nat.le_refl _, C_zero _ _ _, by simp, fun y hy => by cases hy⟩
  · obtain ⟨hb, hwe⟩ := hw.slice ht
    rw [List.length_map, hlen] at hb
    have hone : ∀ i : Fin len, ∃ y : α, ∃ c, d.K W y c ∧ W.cells? 0 (a.add (i.val * Tryz.prog.cellsOf e)) (Tryz.prog.cellsOf e) = some c ∧ Pr y := fun i => by
      have hg := hget i.val i.isLt
      rw [List.getElem?_eq_getElem (by rw [hlen]; exact i.isLt)] at hg
      obtain ⟨c, h1, h2⟩ := Option.bind_eq_some_iff.1 hg
      obtain ⟨y, hy, hp⟩ := hel n (by omega) c _ h2 (hwe _ (List.mem_map.2 ⟨_, List.getElem_mem _, rfl⟩))
      exact ⟨y, c, hy, h1, hp⟩
    let F : Fin len → α := fun i => (hone i).choose
    have hF : ∀ i, ∃ c, d.K W (F i) c ∧ W.cells? 0 (a.add (i.val * Tryz.prog.cellsOf e)) (Tryz.prog.cellsOf e) = some c ∧ Pr (F i) := fun i => (hone i).choose_spec
    have hxl : (List.ofFn F).length = len := List.length_ofFn
    refine ⟨some a, cap, List.ofFn F, by rw [hxl], by rw [hxl]; exact hl, ⟨rfl, by rw [hxl]; exact Nat.le_trans hl hm, fun hp => ⟨a, rfl, fun j p hj => ?_⟩⟩, by rw [hxl]; exact hb, fun y hy => ?_⟩
    · obtain ⟨hjl, rfl⟩ := List.getElem?_eq_some_iff.1 hj
      rw [List.getElem_ofFn]
      obtain ⟨c, h1, h2, _⟩ := hF ⟨j, by rw [hxl] at hjl; exact hjl⟩
      rw [hc] at h2
      obtain ⟨_, h3, h4⟩ := World.cells?_some h2
      refine ⟨c, h3, h1, fun k u hu => ?_⟩
      have hk := (List.getElem?_eq_some_iff.1 hu).1
      rw [← Go.Proofs.YtpnkifincadakaaGreatDoorW.PrintWords.add_add, h4 k (by omega)]
      exact hu
    · obtain ⟨i, rfl⟩ := List.mem_ofFn.1 hy
      obtain ⟨_, _, _, h⟩ := hF i
      exact h
theorem open_field {t : TypeId} {fs : Array Field} {xs : List (DataW H × List MemPlace)} {n : Nat} {cs : List Value} (ht : Tryz.prog.underlying t = some (.struct fs)) (hl : xs.length = fs.size) (hw : Wt t (.agg (xs.map (·.1))))
    (hg : ∀ (i : Nat) (f : Field), fs[i]? = some f → DataW.trod enc Tryz.prog W 0 sp held n f.type ((cs.drop f.offset).take (Tryz.prog.cellsOf f.type)) = xs[i]?) (i : Nat) (t' o c : Nat) (hf : (fs[i]?).map (fun f => (f.type, f.offset)) = some (t', o)) (hc : Tryz.prog.cellsOf t' = c) :
    ∃ x : DataW H × List MemPlace, DataW.trod enc Tryz.prog W 0 sp held n t' ((cs.drop o).take c) = some x ∧ Wt t' x.1 := by
  obtain ⟨f, hf1, hf2⟩ := Option.map_eq_some_iff.1 hf
  injection hf2 with e1 e2
  subst e1
  subst e2
  subst hc
  have hi : i < xs.length := by rw [hl]; exact (Array.getElem?_eq_some_iff.1 hf1).1
  refine ⟨xs[i], by rw [hg i f hf1, List.getElem?_eq_getElem hi], hw.struct ht i f _ hf1 ?_⟩
  rw [List.getElem?_map, List.getElem?_eq_getElem hi]
  rfl
theorem cells1 (t : TypeId) (h : t = 3 ∨ t = 4 ∨ t = 9 ∨ t = 24 ∨ t = 25 ∨ t = 26 ∨ t = 38 ∨ t = 65) : Tryz.prog.cellsOf t = 1 := by
  rcases h with rfl | rfl | rfl | rfl | rfl | rfl | rfl | rfl <;> kernel_rfl
theorem cells40 : Tryz.prog.cellsOf 40 = 6 := by kernel_rfl
theorem cells85 : Tryz.prog.cellsOf 85 = 2 := by kernel_rfl
theorem cells67 : Tryz.prog.cellsOf 67 = 2 := by kernel_rfl
theorem cells42' : Tryz.prog.cellsOf 42 = 8 := by kernel_rfl
theorem cells28 : Tryz.prog.cellsOf 28 = 4 := by kernel_rfl
theorem under38 : Tryz.prog.underlying 38 = some (.slice 40) := by kernel_rfl
theorem bytes40 : Tryz.prog.bytesOf 40 = 64 := by kernel_rfl
theorem bytes85 : Tryz.prog.bytesOf 85 = 16 := by kernel_rfl
theorem bytes67 : Tryz.prog.bytesOf 67 = 32 := by kernel_rfl
theorem bytes42 : Tryz.prog.bytesOf 42 = 88 := by kernel_rfl
theorem bytes9 : Tryz.prog.bytesOf 9 = 16 := by kernel_rfl
theorem open9 (n : Nat) (cs : List Value) (x : DataW H × List MemPlace) (h : DataW.trod enc Tryz.prog W 0 sp held n 9 cs = some x) (hw : Wt 9 x.1) : ∃ s : ByteArray, Kd.string.K W s cs ∧ s.size ≤ 140737488355328 := by
  obtain ⟨s, rfl, rfl, _⟩ := DataW.trod_string Tryz.underlying9 h
  refine ⟨s, rfl, ?_⟩
  have := hw s.data.toList.length (show _ ∈ [s.data.toList.length] from List.mem_singleton.2 rfl)
  have hr := reachBytes_lt
  have : s.data.toList.length = s.size := Array.length_toList
  omega
theorem open85 (n : Nat) (cs : List Value) (x : DataW H × List MemPlace) (h : DataW.trod enc Tryz.prog W 0 sp held n 85 cs = some x) (hw : Wt 85 x.1) : ∃ y : S85, k85.K W y cs ∧ True := by
  obtain ⟨xs, m, rfl, rfl, hl, hx, hg⟩ := DataW.trod_struct Tryz.underlying85 h
  rw [cells85] at hl
  match cs, hl with
  | [c0, c1], _ =>
    obtain ⟨y0, e0, _⟩ := open_field Tryz.underlying85 hx hw hg 0 3 0 1 rfl (cells1 3 (by simp))
    obtain ⟨y1, e1, _⟩ := open_field Tryz.underlying85 hx hw hg 1 3 1 1 rfl (cells1 3 (by simp))
    obtain ⟨i0, q0, _⟩ := DataW.trod_int Tryz.underlying3 e0
    obtain ⟨i1, q1, _⟩ := DataW.trod_int Tryz.underlying3 e1
    simp at q0 q1
    subst q0; subst q1
    exact ⟨⟨i0, i1⟩, k85_mk W ⟨i0, i1⟩, trivial⟩
theorem open65 (n : Nat) (cs : List Value) (x : DataW H × List MemPlace) (h : DataW.trod enc Tryz.prog W 0 sp held n 65 cs = some x) (hw : Wt 65 x.1) : ∃ A c, ∃ xs : List S85, cs = [.slice A xs.length c] ∧ xs.length ≤ c ∧ k85.C W A xs.length xs ∧ xs.length < 8796093022208 := by
  obtain ⟨A, c, xs, h1, h2, h3, h4, _⟩ := open_kd k85 (fun _ => True) Tryz.underlying65 cells85 n (fun m _ cs x => open85 m cs x) h hw
  rw [bytes85] at h4
  have hr := reachBytes_lt
  exact ⟨A, c, xs, h1, h2, h3, by omega⟩
theorem open67 (n : Nat) (cs : List Value) (x : DataW H × List MemPlace) (h : DataW.trod enc Tryz.prog W 0 sp held n 67 cs = some x) (hw : Wt 67 x.1) : ∃ y : S67, k67.K W y cs ∧ y.f1.length < 8796093022208 := by
  obtain ⟨xs, m, rfl, rfl, hl, hx, hg⟩ := DataW.trod_struct Tryz.underlying67 h
  rw [cells67] at hl
  match cs, hl with
  | [c0, c1], _ =>
    obtain ⟨y0, e0, _⟩ := open_field Tryz.underlying67 hx hw hg 0 3 0 1 rfl (cells1 3 (by simp))
    obtain ⟨y1, e1, w1⟩ := open_field Tryz.underlying67 hx hw hg 1 65 1 1 rfl (cells1 65 (by simp))
    obtain ⟨i0, q0, _⟩ := DataW.trod_int Tryz.underlying3 e0
    obtain ⟨A, c, ys, q1, l1, g1, b1⟩ := open65 _ _ _ e1 w1
    simp at q0 q1
    subst q0; subst q1
    exact ⟨⟨i0, ys⟩, k67_mk W ⟨i0, ys⟩ l1 g1, b1⟩
theorem limL_of : ∀ {l : List S40}, (∀ x, x ∈ l → limE x) → limL l
  | [], _ => by simp [limL]
  | x :: r, h => by
    simp only [limL]
    exact ⟨h x (List.mem_cons_self ..), limL_of fun y hy => h y (List.mem_cons_of_mem _ hy)⟩
theorem open40 (n : Nat) : ∀ (cs : List Value) (x : DataW H × List MemPlace), DataW.trod enc Tryz.prog W 0 sp held n 40 cs = some x → Wt 40 x.1 → ∃ y : S40, k40.K W y cs ∧ limE y := by
  induction n using Nat.strongRecOn with
  | _ n ih =>
    intro cs x h hw
    obtain ⟨xs, m, rfl, rfl, hl, hx, hg⟩ := DataW.trod_struct Tryz.underlying40 h
    rw [cells40] at hl
    match cs, hl with
    | [c0, c1, c2, c3, c4, c5], _ =>
      obtain ⟨y0, e0, _⟩ := open_field Tryz.underlying40 hx hw hg 0 3 0 1 rfl (cells1 3 (by simp))
      obtain ⟨y1, e1, _⟩ := open_field Tryz.underlying40 hx hw hg 1 3 1 1 rfl (cells1 3 (by simp))
      obtain ⟨y2, e2, _⟩ := open_field Tryz.underlying40 hx hw hg 2 3 2 1 rfl (cells1 3 (by simp))
      obtain ⟨y3, e3, _⟩ := open_field Tryz.underlying40 hx hw hg 3 3 3 1 rfl (cells1 3 (by simp))
      obtain ⟨y4, e4, _⟩ := open_field Tryz.underlying40 hx hw hg 4 3 4 1 rfl (cells1 3 (by simp))
      obtain ⟨y5, e5, w5⟩ := open_field Tryz.underlying40 hx hw hg 5 38 5 1 rfl (cells1 38 (by simp))
      obtain ⟨i0, q0, _⟩ := DataW.trod_int Tryz.underlying3 e0
      obtain ⟨i1, q1, _⟩ := DataW.trod_int Tryz.underlying3 e1
      obtain ⟨i2, q2, _⟩ := DataW.trod_int Tryz.underlying3 e2
      obtain ⟨i3, q3, _⟩ := DataW.trod_int Tryz.underlying3 e3
      obtain ⟨i4, q4, _⟩ := DataW.trod_int Tryz.underlying3 e4
      obtain ⟨A, c, ys, q5, l5, g5, b5, p5⟩ := open_kd k40 limE under38 cells40 m (fun k hk cs x => ih k (by omega) cs x) e5 w5
      simp at q0 q1 q2 q3 q4 q5
      subst q0; subst q1; subst q2; subst q3; subst q4; subst q5
      rw [bytes40] at b5
      have hr := reachBytes_lt
      refine ⟨⟨i0, i1, i2, i3, i4, ys⟩, k40_mk W ⟨i0, i1, i2, i3, i4, ys⟩ l5 g5, ?_⟩
      rw [limE_eq]
      exact ⟨by dsimp only; omega, limL_of p5⟩
theorem open42 (n : Nat) (cs : List Value) (x : DataW H × List MemPlace) (h : DataW.trod enc Tryz.prog W 0 sp held n 42 cs = some x) (hw : Wt 42 x.1) : ∃ y : S42, k42.K W y cs ∧ limE y.f2 := by
  obtain ⟨xs, m, rfl, rfl, hl, hx, hg⟩ := DataW.trod_struct Tryz.underlying42 h
  rw [cells42'] at hl
  match cs, hl with
  | [c0, c1, c2, c3, c4, c5, c6, c7], _ =>
    obtain ⟨y0, e0, w0⟩ := open_field Tryz.underlying42 hx hw hg 0 9 0 1 rfl (cells1 9 (by simp))
    obtain ⟨y1, e1, _⟩ := open_field Tryz.underlying42 hx hw hg 1 4 1 1 rfl (cells1 4 (by simp))
    obtain ⟨y2, e2, w2⟩ := open_field Tryz.underlying42 hx hw hg 2 40 2 6 rfl cells40
    obtain ⟨s, q0, _⟩ := DataW.trod_string Tryz.underlying9 e0
    obtain ⟨b, q1, _⟩ := DataW.trod_bool Tryz.underlying4 e1
    obtain ⟨e, hK, hlim⟩ := open40 _ _ _ e2 w2
    obtain ⟨A, c, q2, l5, g5⟩ := k40_open hK
    simp at q0 q1 q2
    obtain ⟨rfl, rfl, rfl, rfl, rfl, rfl⟩ := q2
    subst q0; subst q1
    exact ⟨⟨s, b, e⟩, k42_mk W ⟨s, b, e⟩ l5 g5, hlim⟩
def Spk (W : World) (s : S28) (cs : List Value) : Prop :=
  ∃ A0 A1 A3 c0 c1 c3, cs = [.slice A0 s.lex.length c0, .slice A1 s.names.length c1, .int .i64 s.start, .slice A3 s.prods.length c3] ∧
    k42.C W A0 s.lex.length s.lex ∧ Kd.string.C W A1 s.names.length s.names ∧ k67.C W A3 s.prods.length s.prods ∧ s.lex.length ≤ c0 ∧ s.names.length ≤ c1 ∧ s.prods.length ≤ c3
theorem open28 (n : Nat) (cs : List Value) (x : DataW H × List MemPlace) (h : DataW.trod enc Tryz.prog W 0 sp held n 28 cs = some x) (hw : Wt 28 x.1) : ∃ s : S28, Spk W s cs ∧ Lim s := by
  obtain ⟨xs, m, rfl, rfl, hl, hx, hg⟩ := DataW.trod_struct Tryz.underlying28 h
  rw [cells28] at hl
  match cs, hl with
  | [a0, a1, a2, a3], _ =>
    obtain ⟨y0, e0, w0⟩ := open_field Tryz.underlying28 hx hw hg 0 24 0 1 rfl (cells1 24 (by simp))
    obtain ⟨y1, e1, w1⟩ := open_field Tryz.underlying28 hx hw hg 1 25 1 1 rfl (cells1 25 (by simp))
    obtain ⟨y2, e2, _⟩ := open_field Tryz.underlying28 hx hw hg 2 3 2 1 rfl (cells1 3 (by simp))
    obtain ⟨y3, e3, w3⟩ := open_field Tryz.underlying28 hx hw hg 3 26 3 1 rfl (cells1 26 (by simp))
    obtain ⟨A0, c0, lex, q0, l0, g0, b0, p0⟩ := open_kd k42 (fun y => limE y.f2) Tryz.underlying24 cells42' m (fun k _ cs x => open42 k cs x) e0 w0
    obtain ⟨A1, c1, names, q1, l1, g1, b1, p1⟩ := open_kd Kd.string (fun s => s.size ≤ 140737488355328) Tryz.underlying25 (cells1 9 (by simp)) m (fun k _ cs x => open9 k cs x) e1 w1
    obtain ⟨i2, q2, _⟩ := DataW.trod_int Tryz.underlying3 e2
    obtain ⟨A3, c3, prods, q3, l3, g3, b3, p3⟩ := open_kd k67 (fun y => y.f1.length < 8796093022208) Tryz.underlying26 cells67 m (fun k _ cs x => open67 k cs x) e3 w3
    simp at q0 q1 q2 q3
    subst q0; subst q1; subst q2; subst q3
    rw [bytes42] at b0
    rw [bytes9] at b1
    rw [bytes67] at b3
    have hr : reachBytes = 140737488351232 := by decide
    exact ⟨⟨lex, names, i2, prods⟩, ⟨A0, A1, A3, c0, c1, c3, rfl, g0, g1, g3, l0, l1, l3⟩, ⟨by dsimp only; omega, by dsimp only; omega, by dsimp only; omega, p3, p0, p1⟩⟩
end
end Go.Proofs.YtpnkifincadakaaGreatDoor.Wr
end
section
set_option maxRecDepth 100000
namespace Go.Proofs.YtpnkifincadakaaGreatDoor.Wr
open Go.RowKit Go.Pk Go.ChangeShapes Go.WideShapes
open Go.Am (tabV tabI)
abbrev laid4 : List (String × DataW Unit) := [("math/bits.deBruijn32tab", Rows.laid_math_bits_deBruijn32tab), ("math/bits.deBruijn64tab", Rows.laid_math_bits_deBruijn64tab), ("internal/strconv.uint64pow10", Rows.laid_internal_strconv_uint64pow10), ("graft/pack.table", Rows.laid_graft_pack_table)]
theorem globTab : Tryz.prog.globalNamed "graft/pack.table" = some 0 := by kernel_rfl
theorem globTabType : (Tryz.prog.globals[0]?).map (·.type) = some 263 := by kernel_rfl
theorem globCount : Tryz.prog.globals.size = 5 := by kernel_rfl
theorem cells129 : Tryz.prog.cellsOf 129 = 1 := by kernel_rfl
theorem cells263 : Tryz.prog.cellsOf 263 = 16 := by kernel_rfl
theorem under129 : Tryz.prog.underlying 129 = some (.int .u32) := by kernel_rfl
theorem laidTab : (Rows.laid_graft_pack_table : DataW Unit) = .agg (tabI.map fun n => .lit (.int .u32 n)) := by kernel_rfl
theorem row0 : ((((begin Tryz.prog (fun _ _ => 0) default).world.heap[0]?).bind Obj.row?).map (·.2)) = some 263 := by kernel_rfl
theorem row4 : ((((begin Tryz.prog (fun _ _ => 0) default).world.heap[4]?).bind Obj.row?).isSome) = true := by kernel_rfl
theorem tab_cells {W : World} {fuel : Nat} {cs : Array Value} {p : List MemPlace} (hd : DataW.trod (fun _ => ()) Tryz.prog W 0 (fun _ => true) false fuel 263 cs.toList = some (Rows.laid_graft_pack_table, p)) : cs = tabV.toArray := by
  obtain ⟨l⟩ := cs
  cases fuel with
  | zero => simp [DataW.trod] at hd
  | succ n =>
    rw [laidTab] at hd
    unfold DataW.trod at hd
    rw [Tryz.underlying263] at hd
    dsimp only at hd
    split at hd
    · rename_i hl
      rw [cells263] at hl
      obtain ⟨xs, hx, hxe⟩ := Option.map_eq_some_iff.1 hd
      have hxl := mapM_some_length hx
      rw [List.length_range] at hxl
      injection hxe with hx1 _
      injection hx1 with hx1
      have key : l = tabV := by
        apply List.ext_getElem?
        intro i
        by_cases hi : i < 16
        · have hg := mapM_some_get hx i i (by simp [hi])
          rw [cells129, Nat.mul_one, List.getElem?_eq_getElem (by omega), List.drop_eq_getElem_cons (by omega)] at hg
          obtain ⟨v, q, e, _⟩ := DataW.trod_int under129 hg
          injection (show [l[i]] = [Value.int .u32 v] from q) with q
          have h2 : (xs.map (·.1))[i]? = (tabI.map fun n => DataW.lit (H := Unit) (.int .u32 n))[i]? := by rw [hx1]
          rw [List.getElem?_map, List.getElem?_map, List.getElem?_eq_getElem (by omega), e] at h2
          have hti : i < tabI.length := by show i < 16; exact hi
          rw [List.getElem?_eq_getElem hti] at h2
          simp at h2
          unfold tabV
          rw [List.getElem?_map, List.getElem?_eq_getElem hti, List.getElem?_eq_getElem (by omega), q, h2]
          rfl
        · rw [List.getElem?_eq_none (by omega), List.getElem?_eq_none (by show 16 ≤ i; omega)]
      rw [key]
    · cases hd
theorem tab_laid {W : World} (h : laidMet Tryz.prog laid4 W) (hs : W.ShapedOpen Tryz.prog) : W.heap[0]? = some (.cells tabV.toArray 263 (0, 0)) ∧ 5 ≤ W.heap.size := by
  obtain ⟨z, hz, h0⟩ := Option.map_eq_some_iff.1 row0
  obtain ⟨zero, t⟩ := z
  dsimp only at h0
  subst h0
  obtain ⟨cs, hcs, _, _⟩ := hs.1 0 zero _ (by rw [globCount]; omega) hz
  obtain ⟨z4, hz4⟩ := Option.isSome_iff_exists.1 row4
  obtain ⟨cs4, hcs4, _, _⟩ := hs.1 4 z4.1 z4.2 (by rw [globCount]; omega) hz4
  refine ⟨?_, by have := (Array.getElem?_eq_some_iff.1 hcs4).1; omega⟩
  obtain ⟨ps, ⟨_, _, _, _, _, _, _, _, _, _, ⟨_, _, _, _, _, _, _, _, _, _, ⟨_, _, _, _, _, _, _, _, _, _, ⟨g, t, cs', fuel, p, q, hg, ht, hvar, hd, _, _⟩, _⟩, _⟩, _⟩, _⟩ := h
  obtain rfl := Option.some.inj (globTab.symm.trans hg)
  obtain rfl := Option.some.inj (globTabType.symm.trans ht)
  have e := tab_cells hd
  subst e
  rw [hcs]
  have hv : W.var? Tryz.prog "graft/pack.table" = some cs := by
    unfold World.var?
    rw [globTab]
    simp only [Option.bind_some, hcs]
  rw [hv] at hvar
  injection hvar with hvar
  rw [hvar]
end Go.Proofs.YtpnkifincadakaaGreatDoor.Wr
end
section
set_option maxRecDepth 100000
namespace Go.Proofs.YtpnkifincadakaaGreatDoor.Wr
open Go.RowKit Go.Pk Go.ChangeShapes Go.WideShapes
open Go.Am (tabV tabI)
def litCells : DataW Unit → Array Value
  | .agg l => (l.map fun d => match d with
    | .lit (.int k n) => Value.int k n
    | _ => .int .u8 0).toArray
  | _ => #[]
def layOne (g : Nat) (d : DataW Unit) (h : Array Obj) : Array Obj := h.modify g fun o => match o with
  | .cells _ t frozen => .cells (litCells d) t frozen
  | o => o
noncomputable def laidWorld (os : Os) : World :=
  { World.holding Tryz.prog os ⟨#[], #[], []⟩ with heap := layOne 0 Rows.laid_graft_pack_table (layOne 2 Rows.laid_internal_strconv_uint64pow10 (layOne 3 Rows.laid_math_bits_deBruijn32tab (layOne 4 Rows.laid_math_bits_deBruijn64tab (World.holding Tryz.prog os ⟨#[], #[], []⟩).heap))) }
noncomputable def tOf (g : Nat) : TypeId := ((Tryz.prog.globals[g]?).map (·.type)).getD 0
theorem laidRow0 (os : Os) (args : Array Value) : ((laidWorld os).forCall (fun _ _ => 0) ⟨#[], args, []⟩).memory.heap[0]? = some (.cells (litCells Rows.laid_graft_pack_table) (tOf 0) (0, 0)) := by kernel_rfl
theorem laidRow2 (os : Os) (args : Array Value) : ((laidWorld os).forCall (fun _ _ => 0) ⟨#[], args, []⟩).memory.heap[2]? = some (.cells (litCells Rows.laid_internal_strconv_uint64pow10) (tOf 2) (0, 0)) := by kernel_rfl
theorem laidRow3 (os : Os) (args : Array Value) : ((laidWorld os).forCall (fun _ _ => 0) ⟨#[], args, []⟩).memory.heap[3]? = some (.cells (litCells Rows.laid_math_bits_deBruijn32tab) (tOf 3) (0, 0)) := by kernel_rfl
theorem laidRow4 (os : Os) (args : Array Value) : ((laidWorld os).forCall (fun _ _ => 0) ⟨#[], args, []⟩).memory.heap[4]? = some (.cells (litCells Rows.laid_math_bits_deBruijn64tab) (tOf 4) (0, 0)) := by kernel_rfl
def allInts (cs : Array Value) : Bool := cs.toList.all fun v => match v with
  | .int _ _ => true
  | _ => false
theorem noIface {cs : Array Value} (h : allInts cs = true) {j : Nat} {t : TypeId} {v : Value} (hj : cs[j]? = some (.iface t v)) : False := by
  have hm : Value.iface t v ∈ cs.toList := by
    rw [← Array.getElem?_toList] at hj
    exact List.mem_of_getElem? hj
  have := List.all_eq_true.1 h _ hm
  simp at this
theorem mem_row {b off g n : Nat} (h : MemPlace.cell b off ∈ MemPlace.row ⟨g, 0, none⟩ n) : b = g := by
  unfold MemPlace.row at h
  obtain ⟨i, _, e⟩ := List.mem_map.1 h
  injection e with e _
  exact e.symm
theorem row_ok {W : World} {g : Nat} {cs : Array Value} {t : TypeId} (h : W.heap[g]? = some (.cells cs t (0, 0))) (hi : allInts cs = true) (off : Nat) : (∃ c t, W.heap[g]? = some (.cells c t (0, 0))) ∧ ∀ u v, W.cell? ⟨g, off, none⟩ = some (.iface u v) → Value.okWide Tryz.prog W .any 0 u v :=
  ⟨⟨_, _, h⟩, fun u v hc => by
    have : W.cell? ⟨g, off, none⟩ = cs[off]? := by simp [World.cell?, h]
    rw [this] at hc
    exact (noIface hi hc).elim⟩
theorem laidWorld_met (os : Os) (args : Array Value) : laidMet Tryz.prog laid4 ((laidWorld os).forCall (fun _ _ => 0) ⟨#[], args, []⟩).memory :=
  ⟨_, ⟨3, tOf 3, litCells Rows.laid_math_bits_deBruijn32tab, 8, [], _, by kernel_rfl, by kernel_rfl, by kernel_rfl, by kernel_rfl,
    ⟨4, tOf 4, litCells Rows.laid_math_bits_deBruijn64tab, 8, [], _, by kernel_rfl, by kernel_rfl, by kernel_rfl, by kernel_rfl,
      ⟨2, tOf 2, litCells Rows.laid_internal_strconv_uint64pow10, 8, [], _, by kernel_rfl, by kernel_rfl, by kernel_rfl, by kernel_rfl,
        ⟨0, tOf 0, litCells Rows.laid_graft_pack_table, 8, [], [], by kernel_rfl, by kernel_rfl, by kernel_rfl, by kernel_rfl, rfl, rfl⟩, rfl⟩, rfl⟩, rfl⟩, of_decide_eq_true (by kernel_rfl), fun b off h => by
    simp only [List.append_nil, List.mem_append] at h
    rcases h with h | h | h | h
    · obtain rfl := mem_row h
      exact row_ok (laidRow3 os args) (by kernel_rfl) off
    · obtain rfl := mem_row h
      exact row_ok (laidRow4 os args) (by kernel_rfl) off
    · obtain rfl := mem_row h
      exact row_ok (laidRow2 os args) (by kernel_rfl) off
    · obtain rfl := mem_row h
      exact row_ok (laidRow0 os args) (by kernel_rfl) off⟩
end Go.Proofs.YtpnkifincadakaaGreatDoor.Wr
end
section
set_option maxRecDepth 100000
namespace Go.Proofs.YtpnkifincadakaaGreatDoor.Wr
open Go.RowKit Go.Pk Go.Proofs.YtpnkifincadakaaGreatDoorW.PrintWords Go.Proofs.YtpnkifincadakaaGreatDoor.PPackSpecs
open Go.ChangeShapes Go.WideShapes
theorem open22 {H : Type} {enc : TypeId × Value → H} {W : World} {sp : Nat → Bool} {held : Bool} {fuel : Nat} {a0 : Option Addr} {len0 cap0 : Nat} {x : DataW H × List MemPlace}
    (h : DataW.trod enc Tryz.prog W 0 sp held fuel 22 [.slice a0 len0 cap0] = some x) (hw : Wt 22 x.1) :
    ∃ specs : List S28, specs.length = len0 ∧ specs.length ≤ 9223372036854775807 ∧ (∀ i (h : i < specs.length), ∃ ad, a0 = some ad ∧ SpecAt W (ad.add (i * 4)) specs[i]) ∧ ∀ s, s ∈ specs → Lim s := by
  rcases DataW.trod_slice Tryz.underlying22 h with ⟨e, rfl⟩ | ⟨a, len, cap, elems, rest, n, rfl, e, rfl, _, hl, hm, hlen, hget, _, _⟩
  · simp at e
    obtain ⟨rfl, rfl, rfl⟩ := e
    exact ⟨[], rfl, by simp, fun i hi => by simp at hi, fun s hs => by cases hs⟩
  · simp at e
    obtain ⟨rfl, rfl, rfl⟩ := e
    obtain ⟨hb, hwe⟩ := hw.slice Tryz.underlying22
    have hone : ∀ i : Fin len0, ∃ y : S28, ∃ c, Spk W y c ∧ W.cells? 0 (a.add (i.val * 4)) 4 = some c ∧ Lim y := fun i => by
      have hg := hget i.val i.isLt
      rw [List.getElem?_eq_getElem (by rw [hlen]; exact i.isLt), cells28] at hg
      obtain ⟨c, h1, h2⟩ := Option.bind_eq_some_iff.1 hg
      obtain ⟨y, hy, hp⟩ := open28 n c _ h2 (hwe _ (List.mem_map.2 ⟨_, List.getElem_mem _, rfl⟩))
      exact ⟨y, c, hy, h1, hp⟩
    let F : Fin len0 → S28 := fun i => (hone i).choose
    have hF : ∀ i, ∃ c, Spk W (F i) c ∧ W.cells? 0 (a.add (i.val * 4)) 4 = some c ∧ Lim (F i) := fun i => (hone i).choose_spec
    have hxl : (List.ofFn F).length = len0 := List.length_ofFn
    refine ⟨List.ofFn F, hxl, by rw [hxl]; exact Nat.le_trans hl hm, fun i hi => ⟨a, rfl, ?_⟩, fun s hs => ?_⟩
    · rw [List.getElem_ofFn]
      obtain ⟨c, ⟨A0, A1, A3, c0, c1, c3, rfl, g⟩, h2, _⟩ := hF ⟨i, by rw [hxl] at hi; exact hi⟩
      obtain ⟨_, _, h4⟩ := World.cells?_some h2
      refine ⟨A0, A1, A3, c0, c1, c3, ?_, ?_, ?_, ?_, g⟩
      · have := h4 0 (by omega)
        rw [add_add] at this
        exact this
      · have := h4 1 (by omega)
        rw [add_add, add_field _ _ _ (by omega)] at this
        exact this
      · have := h4 2 (by omega)
        rw [add_add, add_field _ _ _ (by omega)] at this
        exact this
      · have := h4 3 (by omega)
        rw [add_add, add_field _ _ _ (by omega)] at this
        exact this
    · obtain ⟨i, rfl⟩ := List.mem_ofFn.1 hs
      obtain ⟨_, _, _, h⟩ := hF i
      exact h
end Go.Proofs.YtpnkifincadakaaGreatDoor.Wr
end
