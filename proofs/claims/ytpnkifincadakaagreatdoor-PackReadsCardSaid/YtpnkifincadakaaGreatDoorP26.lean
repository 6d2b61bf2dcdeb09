/- Proved: part 26 of the proof of PackReads (Ey5, Ey6, Ey7). Conditions: each theorem states its own. -/
import Derived.Test.YtpnkifincadakaaGreatDoorP15
import Derived.Test.YtpnkifincadakaaGreatDoorP23
import Derived.Test.YtpnkifincadakaaGreatDoorP25
set_option linter.unusedVariables false
set_option linter.unusedSimpArgs false
section
namespace Go.Pk
open Go.Proofs.YtpnkifincadakaaGreatDoor.PPackSpecs
def valR (bs : List Int) (f cnt a : Nat) (k : Int) (a1 : Nat) : Rdd (S40 × Nat) := match f with
  | 0 => .bad 180 a
  | f + 1 => if k = 1 then (numD bs a1 1 0 255).bind fun lo a2 => (numD bs a2 1 0 255).bind fun hi a3 => if lo ≤ hi then .ok (⟨1, lo, hi, 0, 0, []⟩, cnt + 1) a3 else .bad 180 a
    else if k = 4 then (numD bs a1 2 0 65535).bind fun mi a2 => (numD bs a2 2 0 65535).bind fun m a3 =>
      if mi ≤ 1000 ∧ (m = 65535 ∨ mi ≤ m ∧ m ≤ 1000) then (manyD (valueD bs f) 1 (cnt + 1) a3).bind fun l a4 => .ok (⟨4, 0, 0, mi, if m = 65535 then -1 else m, l.1⟩, l.2) a4 else .bad 180 a
    else (numD bs a1 2 0 65535).bind fun n a2 => if 1 < n ∨ n = 0 ∧ k = 2 then (manyD (valueD bs f) n.toNat (cnt + 1) a2).bind fun l a3 => .ok (⟨k, 0, 0, 0, 0, l.1⟩, l.2) a3 else .bad 180 a
def valK (bs : List Int) (f cnt a : Nat) (k : Int) (a1 : Nat) : Rdd (S40 × Nat) := if k < 1 ∨ 4 < k ∨ f = 0 ∨ 4096 < cnt + 1 then .bad 180 a else valR bs f cnt a k a1
theorem value_eq (bs : List Int) (f cnt a : Nat) : valueD bs f cnt a = (numD bs a 1 0 255).bind (valK bs f cnt a) := by
  cases f with
  | zero => rw [valueD]; congr; funext k a1; unfold valK; rw [if_pos (by omega)]
  | succ f =>
    rw [valueD]
    congr
    funext k a1
    unfold valK valR
    by_cases h : k < 1 ∨ 4 < k ∨ 4096 < cnt + 1
    · rw [if_pos h, if_pos (show k < 1 ∨ 4 < k ∨ f + 1 = 0 ∨ 4096 < cnt + 1 by omega)]
    · rw [if_neg h, if_neg (show ¬ (k < 1 ∨ 4 < k ∨ f + 1 = 0 ∨ 4096 < cnt + 1) by omega)]
theorem agree_alive {α : Type} {dec : Nat → Rdd α} {st st' : Rdd Unit} {x : α} (h : Agree dec st x st') {a' : Nat} (k : st' = .ok () a') : ∃ a, st = .ok () a := by
  cases st with
  | ok u a => exact ⟨a, rfl⟩
  | bad e p =>
    simp only [Agree] at h
    rw [h] at k
    cases k
theorem many_succ {α σ β : Type} {on : σ → Nat → Rdd (α × σ)} (m : Nat) (s : σ) (a : Nat) (G : List α × σ → Nat → Rdd β) : (manyD on (m + 1) s a).bind G = (on s a).bind fun x a1 => (manyD on m x.2 a1).bind fun l a2 => G (x.1 :: l.1, l.2) a2 := by
  rw [manyD]
  cases on s a with
  | bad e p => rfl
  | ok x a1 =>
    simp only [Rdd.bind_ok]
    cases manyD on m x.2 a1 <;> rfl
theorem fail_alive {st : Rdd Unit} {e : Int} {p a' : Nat} (k : failS st e p = .ok () a') : False := by
  cases st <;> cases k
end Go.Pk
namespace Go.Proofs.YtpnkifincadakaaGreatDoor.Wr
open Go.RowKit Go.Pk Go.Proofs.YtpnkifincadakaaGreatDoorW.PrintWords Go.Proofs.YtpnkifincadakaaGreatDoor.PPackSpecs
theorem put6_es {y : Nat} {A : Option Addr} {cap : Nat} {bs : List Int} {st : Rdd Unit} {w : World} (h : ES y A cap bs st w) {N : Nat} (hy : N ≠ y) (hA : ∀ p, A = some p → 0 < bs.length → p.block ≠ N) (a b d f e : Int) (v : Value) : ES y A cap bs st (put6 w N a b d f e v) :=
  (((((h.put (q := ⟨N, 0, none⟩) hy hA _).put (q := ⟨N, 1, none⟩) hy hA _).put (q := ⟨N, 2, none⟩) hy hA _).put (q := ⟨N, 3, none⟩) hy hA _).put (q := ⟨N, 4, none⟩) hy hA _).put (q := ⟨N, 5, none⟩) hy hA _
theorem Va.inc {y : Nat} {A : Option Addr} {cap : Nat} {bs : List Int} {st : Rdd Unit} {C : Nat} {cnt : Int} {w0 w : World} (h : Va y A cap bs st C cnt w0 w) (c' : Int) : Va y A cap bs st C c' w0 (w.setCell ⟨C, 0, none⟩ (.int .i64 c')) := by
  have h1 := h.ly
  have h2 := h.lc
  exact ⟨h.es.put h.ne (fun p hp hl => (h.la p hp hl).2) _, blk_put (cs := #[.int .i64 cnt]) h.cs 0 _ rfl, by rw [Below.heap_setCell _ _ _ _ (by show w0.heap.size ≠ C; omega)]; exact h.br, h.mv.setP 0 _, h1, h2, h.la, h.ne⟩
theorem Vk.val {y : Nat} {A : Option Addr} {cap : Nat} {bs : List Int} {st st' : Rdd Unit} {C : Nat} {cnt c' : Int} {w0 w w' : World} {E : Nat} {cs : Array Value} (h : Vk y A cap bs st C cnt w0 E cs w) (k1 : ES y A cap bs st' w') (k2 : CS C c' w') (k3 : Mv2 y C w w') : Vk y A cap bs st' C c' w0 E cs w' := by
  have h1 := h.va.ly
  have h2 := h.va.lc
  have h3 := h.le
  exact ⟨⟨k1, k2, k3.blk h.va.br (by omega) (by omega), h.va.mv.trans k3, h1, h2, h.va.la, h.va.ne⟩, k3.blk h.be (by omega) (by omega), h3⟩
set_option maxHeartbeats 32000000 in
set_option maxRecDepth 100000 in
theorem val_step (f : Nat) (hf : f ≤ 64) (IH : ∀ f', f = f' + 1 → ValU f') : ValU f := by
  intro y A cap bs C cnt a w h hc hac h0
  obtain ⟨deep, hdeep⟩ : ∃ deep : Int, deep = 65 - (f : Int) := ⟨_, rfl⟩
  rw [← hdeep]
  obtain ⟨d, hd⟩ : ∃ d, valueD bs f cnt a = d := ⟨_, rfl⟩
  have hcl : C < w.heap.size := blk_lt hc
  have hyl := h.ylt
  have hne : C ≠ y := fun e => by
    obtain ⟨t, hb, _⟩ := h.box
    have hc' := hc
    unfold CS at hc'
    rw [e, hb] at hc'
    injection hc' with hc'
    injection hc' with _ hc'
    exact absurd hc' (by decide)
  have hla : ∀ p, A = some p → 0 < bs.length → p.block < w.heap.size ∧ p.block ≠ C := fun p hp hl => by
    obtain ⟨q, hq, _, hcc⟩ := h.row 0 _ (List.getElem?_eq_getElem hl)
    rw [hp] at hq
    cases hq
    have := cell_lt hcc
    rw [add_block] at this
    exact ⟨this, hac p hp hl⟩
  have hA1 := below_alloc (Below.refl _ w) (.cells #[.int .i64 0, .int .i64 0, .int .i64 0, .int .i64 0, .int .i64 0, .slice none 0 0] 40)
  have V0 : Va y A cap bs (.ok () a) C cnt w (w.alloc (.cells #[.int .i64 0, .int .i64 0, .int .i64 0, .int .i64 0, .int .i64 0, .slice none 0 0] 40)) :=
    ⟨h.below hA1, (hA1.block _ hcl).trans hc, blk_new _ _, (Mv.of_below hA1 (Nat.le_of_lt hyl)).two C, hyl, hcl, hla, hne⟩
  obtain ⟨t, _, hta, c0, c1, c2, c3, _⟩ := V0.es.at
  have hta := hta a rfl
  rw [hta] at c1
  have HN := Aside0.mk (num44 y A cap bs (.ok () a) 1 0 255 _ V0.es (by omega))
  have HV0 := Aside0.mk V0
  have HD := Aside0.mk hd
  have HDEEP := Aside0.mk hdeep
  have hci : (cnt : Int) ≤ 4096 := by omega
  clear h hc hac hA1 V0 hta hd c0 c2 c3 hdeep
  go_enter Tryz.func94, Tryz.ntmps94
  go_wp2_with (go_at_call 44; refine HN.out.mono ?_)
  rintro e w1 ⟨k, st1, rfl, g1, hkr, k1, k2⟩
  have A1 := Aside0.mk (at_step (F := valK bs f cnt a) (at_start ((value_eq bs f cnt a).symm.trans HD.out)) g1)
  have V1 := HV0.out.num k1 k2
  have r2 : w1.cell? ⟨C, 0, none⟩ = some (.int .i64 cnt) := (blk_cell V1.cs 0).trans rfl
  have r3 : w1.frozen? ⟨C, 0, none⟩ = false := blk_frozen V1.cs 0
  have V2 := V1.inc ((cnt : Int) + 1)
  have HV2 := Aside0.mk V2
  have hk0 : 0 ≤ k ∧ k ≤ 255 := by omega
  clear k1 k2 g1 V1 V2 hkr HV0 HN c1
  go_upto_region 4 with fail
  obtain ⟨w2, hw2⟩ : ∃ w2, w2 = w1.setCell ⟨C, 0, none⟩ (.int .i64 ((cnt : Int) + 1)) := ⟨_, rfl⟩
  rw [← hw2] at HV2 ⊢
  clear hw2 r2 r3
  go_cut [47] from 25 to 47 (fun v wx => ∃ b : Bool, v = .bool b ∧ wx = w2 ∧ Aside0 ((b = true ∧ ∃ a1, st1 = .ok () a1 ∧ (k < 1 ∨ 4 < k ∨ 64 < deep ∨ 4096 < (cnt : Int) + 1)) ∨ (b = false ∧ ((∃ e p, st1 = .bad e p) ∨ ∃ a1, st1 = .ok () a1 ∧ ¬ (k < 1 ∨ 4 < k ∨ 64 < deep ∨ 4096 < (cnt : Int) + 1)))))
  case first =>
    obtain ⟨t2, _, _, d0, d1, d2, d3, df⟩ := HV2.out.es.at
    have hne0 := HV2.out.es.ne0
    have s0 : w2.cell? ⟨C, 0, none⟩ = some (.int .i64 ((cnt : Int) + 1)) := (blk_cell HV2.out.cs 0).trans rfl
    rcases st1 with ⟨⟨⟩, a1⟩ | ⟨er, p⟩
    rotate_left
    · dsimp only [eOf, pOf] at d2 d3
      obtain ⟨z1, z2⟩ := bf (hne0 er p rfl)
      clear A1 IH
      go_wp2_with fail
      go_meet
      exact ⟨false, rfl, rfl, ⟨.inr ⟨rfl, .inl ⟨er, p, rfl⟩⟩⟩⟩
    dsimp only [eOf, pOf] at d2 d3
    by_cases hbad : k < 1 ∨ 4 < k ∨ 64 < deep ∨ 4096 < (cnt : Int) + 1
    · have T : (decide (k < 1) = true) ∨ (decide (k < 1) = false ∧ decide (4 < k) = true) ∨ (decide (k < 1) = false ∧ decide (4 < k) = false ∧ decide (64 < deep) = true) ∨ (decide (k < 1) = false ∧ decide (4 < k) = false ∧ decide (64 < deep) = false ∧ decide (4096 < (cnt : Int) + 1) = true) := by
        by_cases g1 : k < 1
        · exact .inl (decide_eq_true g1)
        by_cases g2 : 4 < k
        · exact .inr (.inl ⟨decide_eq_false g1, decide_eq_true g2⟩)
        by_cases g3 : 64 < deep
        · exact .inr (.inr (.inl ⟨decide_eq_false g1, decide_eq_false g2, decide_eq_true g3⟩))
        · exact .inr (.inr (.inr ⟨decide_eq_false g1, decide_eq_false g2, decide_eq_false g3, decide_eq_true (by omega)⟩))
      have HBAD := Aside0.mk hbad
      clear A1 IH hbad
      rcases T with q1 | ⟨q1, q2⟩ | ⟨q1, q2, q3⟩ | ⟨q1, q2, q3, q4⟩
      all_goals
        go_wp2_with fail
        go_meet
        exact ⟨true, rfl, rfl, ⟨.inl ⟨rfl, a1, rfl, HBAD.out⟩⟩⟩
    · have HBAD := Aside0.mk hbad
      have q1 : decide (k < 1) = false := decide_eq_false (by omega)
      have q2 : decide (4 < k) = false := decide_eq_false (by omega)
      have q3 : decide (64 < deep) = false := decide_eq_false (by omega)
      have q4 : decide (4096 < (cnt : Int) + 1) = false := decide_eq_false (by omega)
      clear A1 IH hbad
      go_wp2_with fail
      go_meet
      exact ⟨false, rfl, rfl, ⟨.inr ⟨rfl, .inr ⟨a1, rfl, HBAD.out⟩⟩⟩⟩
  obtain ⟨b, rfl, hw2, hB⟩ := hcut
  rw [hw2]
  clear hw2
  go_upto_if 47 with fail
  go_cut [] from 48 to 50 (fun wx => ∃ st2, Aside0 (Va y A cap bs st2 C ((cnt : Int) + 1) w wx) ∧ Aside0 (At st2 d (valR bs f cnt a k)) ∧ Aside0 (∀ a', st2 = .ok () a' → (k = 1 ∨ k = 4 ∨ k = 2 ∨ k = 3) ∧ cnt + 1 ≤ 4096 ∧ f ≠ 0))
  case first =>
    rcases hB.out with ⟨rfl, a1, rfl, hbad⟩ | ⟨rfl, hgood⟩
    · have hA : Aside0 (At (failS (.ok () a1) 180 a) d (valR bs f cnt a k)) := ⟨at_fail A1.out fun a1 _ => by
        unfold valK
        rw [if_pos (by have := HDEEP.out; omega)]⟩
      have HF := Aside0.mk (fail47 y A cap bs (.ok () a1) 180 a w2 HV2.out.es (by decide))
      clear A1 IH hbad hB
      go_wp2_with (go_at_call 47; refine HF.out.mono ?_)
      first | rintro e w3 rfl k1 k2 | rintro e w3 ⟨rfl, k1, k2⟩
      have V3 := Aside0.mk (HV2.out.num k1 k2)
      clear k1 k2
      go_wp2_with fail
      go_meet
      exact ⟨_, V3, hA, ⟨fun _ h => by cases h⟩⟩
    · have hA : Aside0 (At st1 d (valR bs f cnt a k)) := ⟨by
        rcases hgood with ⟨e, p, rfl⟩ | ⟨a1, rfl, hg⟩
        · exact A1.out
        · exact at_mono A1.out fun a1 _ => by
            unfold valK
            rw [if_neg (by have := HDEEP.out; omega)]⟩
      have hal : Aside0 (∀ a', st1 = .ok () a' → (k = 1 ∨ k = 4 ∨ k = 2 ∨ k = 3) ∧ cnt + 1 ≤ 4096 ∧ f ≠ 0) := ⟨fun a' he => by
        rcases hgood with ⟨e, p, rfl⟩ | ⟨a1, rfl, hg⟩
        · cases he
        · exact ⟨by omega, by omega, by have := HDEEP.out; omega⟩⟩
      clear A1 IH hB hgood
      go_wp2_with fail
      go_meet
      exact ⟨_, HV2, hA, hal⟩
  case rest =>
    obtain ⟨st2, hV, hA, hL⟩ := hcut
    clear HV2 A1 hB
    have hA2 := below_alloc (Below.refl _ wc) (.cells #[.int .i64 k, .int .i64 0, .int .i64 0, .int .i64 0, .int .i64 0, .slice none 0 0] 40)
    have hRl : w.heap.size < wc.heap.size := blk_lt hV.out.br
    have K0 : Vk y A cap bs st2 C ((cnt : Int) + 1) w wc.heap.size #[.int .i64 k, .int .i64 0, .int .i64 0, .int .i64 0, .int .i64 0, .slice none 0 0] (wc.alloc (.cells #[.int .i64 k, .int .i64 0, .int .i64 0, .int .i64 0, .int .i64 0, .slice none 0 0] 40)) :=
      ⟨hV.out.more hA2, blk_new _ _, by omega⟩
    have HK0 := Aside0.mk K0
    clear K0 hA2 hV
    go_upto_block 0 with (fail)
    obtain ⟨w3, hw3⟩ : ∃ w3, w3 = wc.alloc (.cells #[.int .i64 k, .int .i64 0, .int .i64 0, .int .i64 0, .int .i64 0, .slice none 0 0] 40) := ⟨_, rfl⟩
    rw [← hw3] at HK0 ⊢
    clear hw3
    obtain ⟨E, hE⟩ : ∃ E, E = wc.heap.size := ⟨_, rfl⟩
    rw [← hE] at HK0 ⊢
    have hRE : w.heap.size < E := by omega
    clear hRl hE
    go_cut [10] from 53 to 119 (fun n wx => ∃ (N : Int) (st3 : Rdd Unit) (x1 x2 x3 x4 : Int), n = .int .i64 N ∧ N ≤ 65535 ∧ Aside0 (Vk y A cap bs st3 C ((cnt : Int) + 1) w E #[.int .i64 k, .int .i64 x1, .int .i64 x2, .int .i64 x3, .int .i64 x4, .slice none 0 0] wx) ∧ Aside0 (At st3 d (fun a2 => (manyD (valueD bs (f - 1)) N.toNat (cnt + 1) a2).bind fun l a4 => .ok (⟨k, x1, x2, x3, x4, l.1⟩, l.2) a4)) ∧ Aside0 (∀ a', st3 = .ok () a' → cnt + 1 ≤ 4096 ∧ f ≠ 0))
    case first =>
      clear IH
      by_cases hk1 : k = 1
      · subst hk1
        have HA1 : Aside0 (At st2 d (fun a1 => (numD bs a1 1 0 255).bind fun lo a2 => (numD bs a2 1 0 255).bind fun hi a3 => if lo ≤ hi then .ok (⟨1, lo, hi, 0, 0, []⟩, cnt + 1) a3 else .bad 180 a)) := ⟨at_mono hA.out fun a1 he => by
          obtain ⟨_, _, hf0⟩ := hL.out a1 he
          obtain ⟨f', rfl⟩ : ∃ f', f = f' + 1 := ⟨f - 1, by omega⟩
          rfl⟩
        have HN1 := Aside0.mk (num44 y A cap bs st2 1 0 255 w3 HK0.out.va.es (by omega))
        clear hA
        go_wp2_with (go_at_call 44; refine HN1.out.mono ?_)
        first | rintro e w4 x1 rfl st4 g1 _ k1 k2 | rintro e w4 x1 st4 rfl g1 _ k1 k2 | rintro e w4 ⟨x1, st4, rfl, g1, _, k1, k2⟩
        have K4 := HK0.out.num k1 k2
        have f4 := K4.frz
        have t4 := K4.cellE 1 _ rfl
        have K5 := Aside0.mk (K4.put 1 (.int .i64 x1) _ rfl)
        have HA2 := Aside0.mk (at_step HA1.out g1)
        have HL2 : Aside0 (∀ a', st4 = .ok () a' → ∃ a, st2 = .ok () a) := ⟨fun a' h => agree_alive g1 h⟩
        have HN2 := Aside0.mk (num44 y A cap bs st4 1 0 255 _ K5.out.va.es (by omega))
        clear K4 k1 k2 g1 HN1 HA1
        go_wp2_with (go_at_call 44; refine HN2.out.mono ?_)
        first | rintro e w6 x2 rfl st6 g2 _ k1 k2 | rintro e w6 x2 st6 rfl g2 _ k1 k2 | rintro e w6 ⟨x2, st6, rfl, g2, _, k1, k2⟩
        have K6 := K5.out.num k1 k2
        have f6 := K6.frz
        have t6 := K6.cellE 2 _ rfl
        have K7 := Aside0.mk (K6.put 2 (.int .i64 x2) _ rfl)
        have t7 := K7.out.cellE 1 _ rfl
        have t8 := K7.out.cellE 2 _ rfl
        have HA3 := Aside0.mk (at_step HA2.out g2)
        have HL3 : Aside0 (∀ a', st6 = .ok () a' → cnt + 1 ≤ 4096 ∧ f ≠ 0) := ⟨fun a' h => by
          obtain ⟨a1, h1⟩ := agree_alive g2 h
          obtain ⟨a2, h2⟩ := HL2.out a1 h1
          exact (hL.out a2 h2).2⟩
        clear K6 k1 k2 g2 HN2 HA2 HL2
        by_cases hx : x1 ≤ x2
        · have z : decide (x2 < x1) = false := decide_eq_false (by omega)
          have hA4 : Aside0 (At st6 d (fun a2 => (manyD (valueD bs (f - 1)) (0 : Int).toNat (cnt + 1) a2).bind fun l a4 => .ok (⟨1, x1, x2, 0, 0, l.1⟩, l.2) a4)) := ⟨at_mono HA3.out fun a _ => by rw [if_pos hx]; rfl⟩
          clear hx
          go_wp2_with fail
          go_meet
          exact ⟨0, st6, x1, x2, 0, 0, rfl, by omega, K7, hA4, HL3⟩
        · have z : decide (x2 < x1) = true := decide_eq_true (by omega)
          have hA4 : Aside0 (At (failS st6 180 a) d (fun a2 => (manyD (valueD bs (f - 1)) (0 : Int).toNat (cnt + 1) a2).bind fun l a4 => .ok (⟨1, x1, x2, 0, 0, l.1⟩, l.2) a4)) := ⟨at_fail HA3.out fun a _ => by rw [if_neg hx]⟩
          have HF := Aside0.mk (fail47 y A cap bs st6 180 a _ K7.out.va.es (by decide))
          clear hx
          go_wp2_with (go_at_call 47; refine HF.out.mono ?_)
          first | rintro e w8 rfl k1 k2 | rintro e w8 ⟨rfl, k1, k2⟩
          have K8 := Aside0.mk (K7.out.num k1 k2)
          clear k1 k2
          go_wp2_with fail
          go_meet
          exact ⟨0, _, x1, x2, 0, 0, rfl, by omega, K8, hA4, ⟨fun _ h => (fail_alive h).elim⟩⟩
      by_cases hk4 : k = 4
      · subst hk4
        have HA1 : Aside0 (At st2 d (fun a1 => (numD bs a1 2 0 65535).bind fun mi a2 => (numD bs a2 2 0 65535).bind fun m a3 => if mi ≤ 1000 ∧ (m = 65535 ∨ mi ≤ m ∧ m ≤ 1000) then (manyD (valueD bs (f - 1)) 1 (cnt + 1) a3).bind fun l a4 => .ok (⟨4, 0, 0, mi, if m = 65535 then -1 else m, l.1⟩, l.2) a4 else .bad 180 a)) := ⟨at_mono hA.out fun a1 he => by
          obtain ⟨_, _, hf0⟩ := hL.out a1 he
          obtain ⟨f', rfl⟩ : ∃ f', f = f' + 1 := ⟨f - 1, by omega⟩
          rfl⟩
        have HN1 := Aside0.mk (num44 y A cap bs st2 2 0 65535 w3 HK0.out.va.es (by omega))
        clear hA hk1
        go_wp2_with (go_at_call 44; refine HN1.out.mono ?_)
        first | rintro e w4 x3 rfl st4 g1 hx3 k1 k2 | rintro e w4 x3 st4 rfl g1 hx3 k1 k2 | rintro e w4 ⟨x3, st4, rfl, g1, hx3, k1, k2⟩
        have K4 := HK0.out.num k1 k2
        have f4 := K4.frz
        have t4 := K4.cellE 3 _ rfl
        have K5 := Aside0.mk (K4.put 3 (.int .i64 x3) _ rfl)
        have HA2 := Aside0.mk (at_step HA1.out g1)
        have HL2 : Aside0 (∀ a', st4 = .ok () a' → ∃ a, st2 = .ok () a) := ⟨fun a' h => agree_alive g1 h⟩
        have HN2 := Aside0.mk (num44 y A cap bs st4 2 0 65535 _ K5.out.va.es (by omega))
        have hx3' : 0 ≤ x3 ∧ x3 ≤ 65535 := by omega
        clear K4 k1 k2 g1 HN1 HA1 hx3
        go_wp2_with (go_at_call 44; refine HN2.out.mono ?_)
        first | rintro e w6 m rfl st6 g2 hm k1 k2 | rintro e w6 m st6 rfl g2 hm k1 k2 | rintro e w6 ⟨m, st6, rfl, g2, hm, k1, k2⟩
        have K6 := K5.out.num k1 k2
        have f6 := K6.frz
        have t6 := K6.cellE 4 _ rfl
        have K7 := Aside0.mk (K6.put 4 (.int .i64 m) _ rfl)
        have f7 := K7.out.frz
        have t7 := K7.out.cellE 3 _ rfl
        have t8 := K7.out.cellE 4 _ rfl
        have HA3 := Aside0.mk (at_step HA2.out g2)
        have HL3 : Aside0 (∀ a', st6 = .ok () a' → cnt + 1 ≤ 4096 ∧ f ≠ 0) := ⟨fun a' h => by
          obtain ⟨a1, h1⟩ := agree_alive g2 h
          obtain ⟨a2, h2⟩ := HL2.out a1 h1
          exact (hL.out a2 h2).2⟩
        have hm' : 0 ≤ m ∧ m ≤ 65535 := by omega
        clear K6 k1 k2 g2 HN2 HA2 HL2 hm
        by_cases hmm : m = 65535
        · subst hmm
          have K9 := Aside0.mk (K7.out.put 4 (.int .i64 (-1)) _ rfl)
          have u7 := K9.out.cellE 3 _ rfl
          have u8 := K9.out.cellE 4 _ rfl
          by_cases hx : x3 ≤ 1000
          · have z : decide (1000 < x3) = false := decide_eq_false (by omega)
            have hA4 : Aside0 (At st6 d (fun a2 => (manyD (valueD bs (f - 1)) (1 : Int).toNat (cnt + 1) a2).bind fun l a4 => .ok (⟨4, 0, 0, x3, -1, l.1⟩, l.2) a4)) := ⟨at_mono HA3.out fun a _ => by rw [if_pos ⟨hx, .inl rfl⟩]; rfl⟩
            clear hx
            go_wp2_with fail
            go_meet
            exact ⟨1, st6, 0, 0, x3, -1, rfl, by omega, K9, hA4, HL3⟩
          · have z : decide (1000 < x3) = true := decide_eq_true (by omega)
            have hA4 : Aside0 (At (failS st6 180 a) d (fun a2 => (manyD (valueD bs (f - 1)) (1 : Int).toNat (cnt + 1) a2).bind fun l a4 => .ok (⟨4, 0, 0, x3, -1, l.1⟩, l.2) a4)) := ⟨at_fail HA3.out fun a _ => by rw [if_neg (fun h => hx h.1)]⟩
            have HF := Aside0.mk (fail47 y A cap bs st6 180 a _ K9.out.va.es (by decide))
            clear hx
            go_wp2_with (go_at_call 47; refine HF.out.mono ?_)
            first | rintro e w8 rfl k1 k2 | rintro e w8 ⟨rfl, k1, k2⟩
            have K8 := Aside0.mk (K9.out.num k1 k2)
            clear k1 k2
            go_wp2_with fail
            go_meet
            exact ⟨1, _, 0, 0, x3, -1, rfl, by omega, K8, hA4, ⟨fun _ h => (fail_alive h).elim⟩⟩
        · obtain ⟨y1, y2⟩ := bf hmm
          have y3 : decide (0 ≤ m) = true := decide_eq_true (by omega)
          by_cases hx : x3 ≤ 1000 ∧ x3 ≤ m ∧ m ≤ 1000
          · have z1 : decide (1000 < x3) = false := decide_eq_false (by omega)
            have z2 : decide (m < x3) = false := decide_eq_false (by omega)
            have z3 : decide (1000 < m) = false := decide_eq_false (by omega)
            have hA4 : Aside0 (At st6 d (fun a2 => (manyD (valueD bs (f - 1)) (1 : Int).toNat (cnt + 1) a2).bind fun l a4 => .ok (⟨4, 0, 0, x3, m, l.1⟩, l.2) a4)) := ⟨at_mono HA3.out fun a _ => by rw [if_pos ⟨hx.1, .inr hx.2⟩, if_neg hmm]; rfl⟩
            clear hx hmm
            go_wp2_with fail
            go_meet
            exact ⟨1, st6, 0, 0, x3, m, rfl, by omega, K7, hA4, HL3⟩
          · have hA4 : Aside0 (At (failS st6 180 a) d (fun a2 => (manyD (valueD bs (f - 1)) (1 : Int).toNat (cnt + 1) a2).bind fun l a4 => .ok (⟨4, 0, 0, x3, m, l.1⟩, l.2) a4)) := ⟨at_fail HA3.out fun a _ => by rw [if_neg (fun h => h.2.elim hmm fun h2 => hx ⟨h.1, h2⟩)]⟩
            have HF := Aside0.mk (fail47 y A cap bs st6 180 a _ K7.out.va.es (by decide))
            have T : (decide (1000 < x3) = true) ∨ (decide (1000 < x3) = false ∧ decide (m < x3) = true) ∨ (decide (1000 < x3) = false ∧ decide (m < x3) = false ∧ decide (1000 < m) = true) := by
              by_cases g1 : 1000 < x3
              · exact .inl (decide_eq_true g1)
              by_cases g2 : m < x3
              · exact .inr (.inl ⟨decide_eq_false g1, decide_eq_true g2⟩)
              · exact .inr (.inr ⟨decide_eq_false g1, decide_eq_false g2, decide_eq_true (by omega)⟩)
            clear hx hmm
            rcases T with z1 | ⟨z1, z2⟩ | ⟨z1, z2, z3⟩
            all_goals
              go_wp2_with (go_at_call 47; refine HF.out.mono ?_)
              first | rintro e w8 rfl k1 k2 | rintro e w8 ⟨rfl, k1, k2⟩
              have K8 := Aside0.mk (K7.out.num k1 k2)
              clear k1 k2
              go_wp2_with fail
              go_meet
              exact ⟨1, _, 0, 0, x3, m, rfl, by omega, K8, hA4, ⟨fun _ h => (fail_alive h).elim⟩⟩
      · obtain ⟨b1, b2⟩ := bf hk1
        obtain ⟨b3, b4⟩ := bf hk4
        have HA1 : Aside0 (At st2 d (fun a1 => (numD bs a1 2 0 65535).bind fun n a2 => if 1 < n ∨ n = 0 ∧ k = 2 then (manyD (valueD bs (f - 1)) n.toNat (cnt + 1) a2).bind fun l a3 => .ok (⟨k, 0, 0, 0, 0, l.1⟩, l.2) a3 else .bad 180 a)) := ⟨at_mono hA.out fun a1 he => by
          obtain ⟨_, _, hf0⟩ := hL.out a1 he
          obtain ⟨f', rfl⟩ : ∃ f', f = f' + 1 := ⟨f - 1, by omega⟩
          show (if k = 1 then _ else if k = 4 then _ else _) = _
          rw [if_neg hk1, if_neg hk4]
          rfl⟩
        have HN1 := Aside0.mk (num44 y A cap bs st2 2 0 65535 w3 HK0.out.va.es (by omega))
        clear hA
        go_wp2_with (go_at_call 44; refine HN1.out.mono ?_)
        first | rintro e w4 n rfl st4 g1 hn k1 k2 | rintro e w4 n st4 rfl g1 hn k1 k2 | rintro e w4 ⟨n, st4, rfl, g1, hn, k1, k2⟩
        have K4 := Aside0.mk (HK0.out.num k1 k2)
        have HA2 := Aside0.mk (at_step HA1.out g1)
        have HL3 : Aside0 (∀ a', st4 = .ok () a' → (k = 2 ∨ k = 3) ∧ cnt + 1 ≤ 4096 ∧ f ≠ 0) := ⟨fun a' h => by
          obtain ⟨a2, h2⟩ := agree_alive g1 h
          have := hL.out a2 h2
          exact ⟨by omega, this.2⟩⟩
        have hn' : 0 ≤ n ∧ n ≤ 65535 := by omega
        clear k1 k2 g1 HN1 HA1 hn
        by_cases hbad : n = 1 ∨ n = 0 ∧ k = 3
        · have hA4 : Aside0 (At (failS st4 180 a) d (fun a2 => (manyD (valueD bs (f - 1)) n.toNat (cnt + 1) a2).bind fun l a4 => .ok (⟨k, 0, 0, 0, 0, l.1⟩, l.2) a4)) := ⟨at_fail HA2.out fun a _ => by rw [if_neg (by omega)]⟩
          have HF := Aside0.mk (fail47 y A cap bs st4 180 a _ K4.out.va.es (by decide))
          clear hk1 hk4
          rcases hbad with rfl | ⟨rfl, rfl⟩
          all_goals
            go_wp2_with (go_at_call 47; refine HF.out.mono ?_)
            first | rintro e w8 rfl k1 k2 | rintro e w8 ⟨rfl, k1, k2⟩
            have K8 := Aside0.mk (K4.out.num k1 k2)
            clear k1 k2
            go_wp2_with fail
            go_meet
            exact ⟨_, _, 0, 0, 0, 0, rfl, by omega, K8, hA4, ⟨fun _ h => (fail_alive h).elim⟩⟩
        · have hA4 : Aside0 (At st4 d (fun a2 => (manyD (valueD bs (f - 1)) n.toNat (cnt + 1) a2).bind fun l a4 => .ok (⟨k, 0, 0, 0, 0, l.1⟩, l.2) a4)) := ⟨at_mono HA2.out fun a' he => by rw [if_pos (by have := (HL3.out a' he).1; omega)]⟩
          have HL4 : Aside0 (∀ a', st4 = .ok () a' → cnt + 1 ≤ 4096 ∧ f ≠ 0) := ⟨fun a' h => (HL3.out a' h).2⟩
          have T : (n = 0 ∧ (k == 3) = false) ∨ (n ≠ 0 ∧ n ≠ 1) := by
            by_cases g : n = 0
            · exact .inl ⟨g, (bf (show k ≠ 3 by omega)).1⟩
            · exact .inr ⟨g, by omega⟩
          clear hk1 hk4 hbad HL3
          rcases T with ⟨rfl, z1⟩ | ⟨g0, g1⟩
          · go_wp2_with fail
            go_meet
            exact ⟨_, _, 0, 0, 0, 0, rfl, by omega, K4, hA4, HL4⟩
          · obtain ⟨z1, z2⟩ := bf g0
            obtain ⟨z3, z4⟩ := bf g1
            go_wp2_with fail
            go_meet
            exact ⟨_, _, 0, 0, 0, 0, rfl, by omega, K4, hA4, HL4⟩
    case rest =>
      obtain ⟨N, st3, x1, x2, x3, x4, rfl, hN, hK, hA2, hL2⟩ := hcut
      clear HK0 hA hL
      have HI := Aside0.mk IH
      clear IH
      go_wp2
      go_loopw [11] (fun i wr => ∃ (j : Nat) (st4 : Rdd Unit) (c : Nat) (xs : List S40) (v : Value), i = .int .i64 j ∧ j ≤ 65535 ∧ j ≤ N.toNat ∧ xs.length = j ∧ Aside0 (Vk y A cap bs st4 C (c : Int) w E #[.int .i64 k, .int .i64 x1, .int .i64 x2, .int .i64 x3, .int .i64 x4, v] wr) ∧ Aside0 (Kd.N k40 40 wr (E + 1) (fun k => E + 1 ≤ k) v xs) ∧ Aside0 (At st4 d (fun a2 => (manyD (valueD bs (f - 1)) (N.toNat - j) c a2).bind fun l a4 => .ok (⟨k, x1, x2, x3, x4, xs ++ l.1⟩, l.2) a4)) ∧ Aside0 (∀ a', st4 = .ok () a' → c ≤ 4096 ∧ f ≠ 0)) (fun i _ => N.toNat - (intOf i).toNat)
      case atStart => exact ⟨0, st3, cnt + 1, [], .slice none 0 0, rfl, Nat.zero_le _, Nat.zero_le _, rfl, ⟨hK.out⟩, ⟨Kd.N_nil _ _ _ _ _⟩, hA2, hL2⟩
      case round =>
        obtain ⟨j, st4, c, xs, v, rfl, hj1, hj2, hxk, hV, hNv, hA, hLc⟩ := hrel
        have HXK := Aside0.mk hxk
        clear hxk
        obtain ⟨t4, _, _, _, _, d2, _, _⟩ := hV.out.va.es.at
        have hne0 := hV.out.va.es.ne0
        by_cases hlt : (j : Int) < N
        · rcases st4 with ⟨⟨⟩, a4⟩ | ⟨er, p⟩
          · dsimp only [eOf] at d2
            obtain ⟨hc4, hf0⟩ := hLc.out a4 rfl
            obtain ⟨f', hf'⟩ : ∃ f', f = f' + 1 := ⟨f - 1, by omega⟩
            obtain ⟨m, hm⟩ : ∃ m, N.toNat - j = m + 1 := ⟨N.toNat - j - 1, by omega⟩
            have hff : f - 1 = f' := by omega
            have hly := hV.out.va.ly
            have hlc := hV.out.va.lc
            have HS := HI.out f' hf' y A cap bs C c a4 wr hV.out.va.es hV.out.va.cs (fun p hp hl => (hV.out.va.la p hp hl).2) hc4
            rw [show 65 - (f' : Int) = deep + 1 by have := HDEEP.out; omega] at HS
            have HS := Aside0.mk HS
            have HA1 : Aside0 (At (.ok () a4) d (fun a2 => (valueD bs f' c a2).bind fun x a1 => (manyD (valueD bs f') m x.2 a1).bind fun l a4 => .ok (⟨k, x1, x2, x3, x4, (xs ++ [x.1]) ++ l.1⟩, l.2) a4)) := ⟨at_mono hA.out fun a2 _ => by
              rw [hm, hff, many_succ]
              simp only [List.append_assoc, List.cons_append, List.nil_append]⟩
            have hwl : E + 1 ≤ wr.heap.size := blk_lt hV.out.be
            have hdp : deep ≤ 64 ∧ 0 ≤ deep := by have := HDEEP.out; omega
            have HM1 : Aside0 (N.toNat - (j + 1) = m) := ⟨by omega⟩
            have HFF := Aside0.mk hff
            clear hff hf' hf0 hm hA
            go_wp2_with (go_at_call 94; refine HS.out.mono ?_)
            rintro e w5 ⟨x, c', st5, B, cp, rfl, lc, hF, k1, k2, k3, hag, hc5⟩
            have V5 := hV.out.val k1 k2 k3
            have hsz5 := k3.size
            have hA5 := below_alloc (Below.refl _ w5) (.cells #[.int .i64 x.f0, .int .i64 x.f1, .int .i64 x.f2, .int .i64 x.f3, .int .i64 x.f4, .slice B x.f5.length cp] 40)
            have V6 := V5.more hA5
            have N5 := N_mv2 hNv.out k3 (show y < E + 1 by omega) (show C < E + 1 by omega)
            have N6 := Aside0.mk (Kd.N_step N5 fun k hk hlt => hA5.block k hlt)
            have F6 := Aside0.mk (Kd.F_below hF hA5)
            have HA2 := Aside0.mk (at_step HA1.out hag)
            have HLc := Aside0.mk hc5
            have t6 := V6.cellE 5 _ rfl
            have HV6 := Aside0.mk V6
            have HF0 : Aside0 (f ≠ 0) := ⟨(hLc.out a4 rfl).2⟩
            clear k1 k2 k3 hag hF V5 V6 N5 hA5 hc5 HA1
            go_wp2_with (at_builtin; refine Kd.N_append k40 (w0 := w5.alloc (.cells #[.int .i64 x.f0, .int .i64 x.f1, .int .i64 x.f2, .int .i64 x.f3, .int .i64 x.f4, .slice B x.f5.length cp] 40)) (E + 1) rfl (.tmp 138) (.tmp 140) 38 40 (.agg #[.int .i64 0, .int .i64 0, .int .i64 0, .int .i64 0, .int .i64 0, .slice none 0 0]) 64 rfl Tryz.underlying38 info40 rfl (by decide) (by omega) v xs x [.int .i64 x.f0, .int .i64 x.f1, .int .i64 x.f2, .int .i64 x.f3, .int .i64 x.f4, .slice B x.f5.length cp] (fun k => E + 1 ≤ k) (fun k => wr.heap.size ≤ k) rfl (congrArg (fun n => Value.slice (some ⟨n, 0, none⟩) 1 1) (World.size_alloc _ _).symm) (k40_mkF _ _ x lc F6.out) ?o1 ?o2 N6.out (Below.refl _ _) ?o3 ?o4 ?_)
            case o1 => exact fun k hk => ⟨by omega, fun e => absurd (Kd.N_lt hNv.out k e.symm) (by omega)⟩
            case o2 => exact fun k hk => by simp at hk; omega
            case o3 => simp; omega
            case o4 => rw [HXK.out]; omega
            intro v1 w6 hN6 hB6 _ _
            obtain ⟨Av1, cv1, hv1, _, _⟩ := Kd.N_reads hN6
            obtain ⟨nl, hnl⟩ : ∃ nl, nl = (xs ++ [x]).length := ⟨_, rfl⟩
            rw [← hnl] at hv1
            subst hv1
            clear hnl
            have V7 := HV6.out.base hB6 (Nat.le_refl _)
            have f7 := V7.frz
            have t7 := V7.cellE 5 _ rfl
            have V8 := Aside0.mk (V7.put 5 (.slice Av1 nl cv1) _ rfl)
            have N8 := Aside0.mk (Kd.N_step (w1 := w6.setCell ⟨E, 5, none⟩ (.slice Av1 nl cv1)) hN6 fun k hk hlt => Below.heap_setCell _ _ _ _ (show k ≠ E by omega))
            clear hN6 hB6 V7
            go_wp2
            go_roundw
            case rel => exact ⟨j + 1, st5, c', xs ++ [x], .slice Av1 nl cv1, by go_num, by omega, by omega, by rw [List.length_append]; simp [HXK.out], V8, N8, ⟨by rw [HM1.out, HFF.out]; exact HA2.out⟩, ⟨fun a' h => ⟨HLc.out a' h, HF0.out⟩⟩⟩
            case measure => simp [intOf]; omega
          · dsimp only [eOf] at d2
            obtain ⟨y1, y2⟩ := bf (hne0 er p rfl)
            obtain ⟨st4, hst⟩ : ∃ st4 : Rdd Unit, st4 = .bad er p := ⟨_, rfl⟩
            rw [← hst] at hV hA hLc
            have hAe : Aside0 (At st4 d (fun a2 => .ok (⟨k, x1, x2, x3, x4, xs⟩, c) a2)) := ⟨by
              have := hA.out
              rw [hst] at this ⊢
              exact this⟩
            clear hA hst
            obtain ⟨Av, cv, rfl, lcv, _⟩ := Kd.N_reads hNv.out
            have HF := Aside0.mk (Kd.N_F hNv.out)
            have BR := hV.out.va.br
            have HLE := hV.out.le
            have q0 := hV.out.cellE 0 _ rfl
            have q1 := hV.out.cellE 1 _ rfl
            have q2 := hV.out.cellE 2 _ rfl
            have q3 := hV.out.cellE 3 _ rfl
            have q4 := hV.out.cellE 4 _ rfl
            have q5 := hV.out.cellE 5 _ rfl
            have g0 : wr.frozen? ⟨w.heap.size, 0, none⟩ = false := blk_frozen BR 0
            have g1 : wr.frozen? ⟨w.heap.size, 1, none⟩ = false := blk_frozen BR 1
            have g2 : wr.frozen? ⟨w.heap.size, 2, none⟩ = false := blk_frozen BR 2
            have g3 : wr.frozen? ⟨w.heap.size, 3, none⟩ = false := blk_frozen BR 3
            have g4 : wr.frozen? ⟨w.heap.size, 4, none⟩ = false := blk_frozen BR 4
            have g5 : wr.frozen? ⟨w.heap.size, 5, none⟩ = false := blk_frozen BR 5
            have z0 : wr.cell? ⟨w.heap.size, 0, none⟩ = some (.int .i64 0) := (blk_cell BR 0).trans rfl
            have z1 : wr.cell? ⟨w.heap.size, 1, none⟩ = some (.int .i64 0) := (blk_cell BR 1).trans rfl
            have z2 : wr.cell? ⟨w.heap.size, 2, none⟩ = some (.int .i64 0) := (blk_cell BR 2).trans rfl
            have z3 : wr.cell? ⟨w.heap.size, 3, none⟩ = some (.int .i64 0) := (blk_cell BR 3).trans rfl
            have z4 : wr.cell? ⟨w.heap.size, 4, none⟩ = some (.int .i64 0) := (blk_cell BR 4).trans rfl
            have z5 : wr.cell? ⟨w.heap.size, 5, none⟩ = some (.slice none 0 0) := (blk_cell BR 5).trans rfl
            have BR := Aside0.mk BR
            go_wp2
            refine bodyPost_ret (results_cell_row rfl _ _ w.heap.size 40 #[.int .i64 k, .int .i64 x1, .int .i64 x2, .int .i64 x3, .int .i64 x4, .slice Av xs.length cv] (0, 0) _ rfl (put6_blk BR.out _ _ _ _ _ _) Tryz.underlying40 rfl (by kernel_rfl)) rfl ?_
            refine ⟨⟨k, x1, x2, x3, x4, xs⟩, c, st4, Av, cv, rfl, lcv, ?_, ?_, ?_, ?_, ?_, fun a' h => (hLc.out a' h).1⟩
            · exact Kd.F_mono (put6_F HF.out (fun k hk e => by omega) _ _ _ _ _ _) fun k hk => by omega
            · exact put6_es hV.out.va.es (by have := hV.out.va.ly; omega) (fun p hp hl => by have := (hV.out.va.la p hp hl).1; omega) _ _ _ _ _ _
            · exact (put6_other (by have := hV.out.va.lc; omega) _ _ _ _ _ _).trans hV.out.va.cs
            · exact put6_mv hV.out.va.mv hyl (Nat.le_refl _) _ _ _ _ _ _
            · exact at_agree (by rw [HD.out]; exact hAe.out)
        · have hAe : Aside0 (At st4 d (fun a2 => .ok (⟨k, x1, x2, x3, x4, xs⟩, c) a2)) := ⟨at_mono hA.out fun a2 _ => by
            rw [show N.toNat - j = 0 by omega, manyD, Rdd.bind_ok, List.append_nil]⟩
          have zlt : decide ((j : Int) < N) = false := decide_eq_false hlt
          clear hA
          obtain ⟨Av, cv, rfl, lcv, _⟩ := Kd.N_reads hNv.out
          have HF := Aside0.mk (Kd.N_F hNv.out)
          have BR := hV.out.va.br
          have HLE := hV.out.le
          have q0 := hV.out.cellE 0 _ rfl
          have q1 := hV.out.cellE 1 _ rfl
          have q2 := hV.out.cellE 2 _ rfl
          have q3 := hV.out.cellE 3 _ rfl
          have q4 := hV.out.cellE 4 _ rfl
          have q5 := hV.out.cellE 5 _ rfl
          have g0 : wr.frozen? ⟨w.heap.size, 0, none⟩ = false := blk_frozen BR 0
          have g1 : wr.frozen? ⟨w.heap.size, 1, none⟩ = false := blk_frozen BR 1
          have g2 : wr.frozen? ⟨w.heap.size, 2, none⟩ = false := blk_frozen BR 2
          have g3 : wr.frozen? ⟨w.heap.size, 3, none⟩ = false := blk_frozen BR 3
          have g4 : wr.frozen? ⟨w.heap.size, 4, none⟩ = false := blk_frozen BR 4
          have g5 : wr.frozen? ⟨w.heap.size, 5, none⟩ = false := blk_frozen BR 5
          have z0 : wr.cell? ⟨w.heap.size, 0, none⟩ = some (.int .i64 0) := (blk_cell BR 0).trans rfl
          have z1 : wr.cell? ⟨w.heap.size, 1, none⟩ = some (.int .i64 0) := (blk_cell BR 1).trans rfl
          have z2 : wr.cell? ⟨w.heap.size, 2, none⟩ = some (.int .i64 0) := (blk_cell BR 2).trans rfl
          have z3 : wr.cell? ⟨w.heap.size, 3, none⟩ = some (.int .i64 0) := (blk_cell BR 3).trans rfl
          have z4 : wr.cell? ⟨w.heap.size, 4, none⟩ = some (.int .i64 0) := (blk_cell BR 4).trans rfl
          have z5 : wr.cell? ⟨w.heap.size, 5, none⟩ = some (.slice none 0 0) := (blk_cell BR 5).trans rfl
          have BR := Aside0.mk BR
          go_wp2
          refine bodyPost_ret (results_cell_row rfl _ _ w.heap.size 40 #[.int .i64 k, .int .i64 x1, .int .i64 x2, .int .i64 x3, .int .i64 x4, .slice Av xs.length cv] (0, 0) _ rfl (put6_blk BR.out _ _ _ _ _ _) Tryz.underlying40 rfl (by kernel_rfl)) rfl ?_
          refine ⟨⟨k, x1, x2, x3, x4, xs⟩, c, st4, Av, cv, rfl, lcv, ?_, ?_, ?_, ?_, ?_, fun a' h => (hLc.out a' h).1⟩
          · exact Kd.F_mono (put6_F HF.out (fun k hk e => by omega) _ _ _ _ _ _) fun k hk => by omega
          · exact put6_es hV.out.va.es (by have := hV.out.va.ly; omega) (fun p hp hl => by have := (hV.out.va.la p hp hl).1; omega) _ _ _ _ _ _
          · exact (put6_other (by have := hV.out.va.lc; omega) _ _ _ _ _ _).trans hV.out.va.cs
          · exact put6_mv hV.out.va.mv hyl (Nat.le_refl _) _ _ _ _ _ _
          · exact at_agree (by rw [HD.out]; exact hAe.out)
theorem val_every : ∀ f, f ≤ 64 → ValU f
  | 0, h => val_step 0 h (fun f' e => by omega)
  | f + 1, h => val_step (f + 1) h (fun f' e => by
    obtain rfl : f = f' := by omega
    exact val_every f (by omega))
end Go.Proofs.YtpnkifincadakaaGreatDoor.Wr
end
section
namespace Go.Pk
open Go.Proofs.YtpnkifincadakaaGreatDoor.PPackSpecs
open Go.Proofs.YtpnkifincadakaaGreatDoor.Wr (leN)
theorem many_all {α σ : Type} {on : σ → Nat → Rdd (α × σ)} {P : α → Prop} (h : ∀ s a x s' a', on s a = .ok (x, s') a' → P x) : ∀ n s a l s' a', manyD on n s a = .ok (l, s') a' → l.length = n ∧ ∀ x, x ∈ l → P x
  | 0, s, a, l, s', a', e => by
    rw [manyD] at e
    cases e
    exact ⟨rfl, fun x hx => by cases hx⟩
  | n + 1, s, a, l, s', a', e => by
    rw [manyD] at e
    cases ho : on s a with
    | bad e1 p => rw [ho] at e; cases e
    | ok x a1 =>
      rw [ho, Rdd.bind_ok] at e
      cases hm : manyD on n x.2 a1 with
      | bad e1 p => rw [hm] at e; cases e
      | ok l1 a2 =>
        rw [hm, Rdd.bind_ok] at e
        cases e
        obtain ⟨h1, h2⟩ := many_all h n x.2 a1 l1.1 l1.2 _ hm
        refine ⟨by simp [h1], fun y hy => ?_⟩
        rcases List.mem_cons.1 hy with rfl | hy
        · exact h s a x.1 x.2 a1 ho
        · exact h2 y hy
theorem limL_all : ∀ {l : List S40}, (∀ x, x ∈ l → limE x) → limL l
  | [], _ => trivial
  | y :: r, h => ⟨h y (by simp), limL_all fun x hx => h x (by simp [hx])⟩
theorem bind_inv {α β : Type} {r : Rdd α} {f : α → Nat → Rdd β} {y : β} {a' : Nat} (h : r.bind f = .ok y a') : ∃ x a, r = .ok x a ∧ f x a = .ok y a' := by
  cases r with
  | ok x a => exact ⟨x, a, rfl, h⟩
  | bad e p => cases h
theorem value_lim (bs : List Int) : ∀ f cnt a x c a', valueD bs f cnt a = .ok (x, c) a' → limE x
  | 0, cnt, a, x, c, a', h => by
    rw [valueD] at h
    obtain ⟨_, _, _, h⟩ := bind_inv h
    cases h
  | f + 1, cnt, a, x, c, a', h => by
    rw [valueD] at h
    obtain ⟨k, a1, _, h⟩ := bind_inv h
    split at h
    · cases h
    split at h
    · obtain ⟨lo, a2, _, h⟩ := bind_inv h
      obtain ⟨hi, a3, _, h⟩ := bind_inv h
      split at h
      · cases h
        exact ⟨Nat.zero_le _, trivial⟩
      · cases h
    split at h
    · obtain ⟨lo, a2, _, h⟩ := bind_inv h
      obtain ⟨hi, a3, _, h⟩ := bind_inv h
      split at h
      · obtain ⟨l, a4, hl, h⟩ := bind_inv h
        cases h
        obtain ⟨h1, h2⟩ := many_all (fun s a x s' a' e => value_lim bs f s a x s' a' e) _ _ _ l.1 l.2 _ hl
        exact ⟨by show l.1.length ≤ _; omega, limL_all h2⟩
      · cases h
    · obtain ⟨n, a2, hn, h⟩ := bind_inv h
      obtain ⟨hn0, hn1⟩ := (numD_ok hn).2.2.2
      split at h
      · obtain ⟨l, a4, hl, h⟩ := bind_inv h
        cases h
        obtain ⟨h1, h2⟩ := many_all (fun s a x s' a' e => value_lim bs f s a x s' a' e) _ _ _ l.1 l.2 _ hl
        exact ⟨by show l.1.length ≤ _; omega, limL_all h2⟩
      · cases h
theorem end_eq {bs : List Int} (hby : ∀ b, b ∈ bs → 0 ≤ b ∧ b < 256) (a : Nat) : endD bs a = (numD bs a 4 0 4294967295).bind fun n a1 => if n = (crc (bs.take a) : Nat) then if a1 < bs.length then .bad 180 a1 else .ok () a1 else .bad 181 a := by
  unfold endD numD takeD
  split
  · rfl
  · obtain ⟨h0, h1⟩ := Go.Proofs.YtpnkifincadakaaGreatDoor.Wr.leN_one hby a 4 (by omega)
    rw [show (256 : Int) ^ 4 = 4294967296 from rfl] at h1
    simp only [Rdd.bind]
    rw [if_neg (show ¬ (leN ((bs.drop a).take 4) < 0 ∨ 4294967295 < leN ((bs.drop a).take 4)) by omega)]
end Go.Pk
namespace Go.Proofs.YtpnkifincadakaaGreatDoor.Wr
open Go.RowKit Go.Pk Go.Proofs.YtpnkifincadakaaGreatDoorW.PrintWords Go.Proofs.YtpnkifincadakaaGreatDoor.PPackSpecs
open Go.Am (rsum_any)
set_option maxHeartbeats 16000000 in
set_option maxRecDepth 100000 in
theorem end49 (y : Nat) (A : Option Addr) (cap : Nat) (bs : List Int) (st : Rdd Unit) (w : World) (h : ES y A cap bs st w) :
    Calls Tryz.prog 49 #[.pointer (some ⟨y, 0, none⟩)] w fun r w' => ∃ st', r = .returned (.tuple #[]) ∧ Agree (endD bs) st () st' ∧ ES y A cap bs st' w' ∧ Mv y w w' := by
  obtain ⟨t, htl, hta, c0, c1, c2, c3, f⟩ := h.at
  have H := Aside0.mk h
  have hne := h.ne0
  have hby := h.byt
  have hcap := h.cap
  have hlim := h.lim
  have HN := Aside0.mk (num44 y A cap bs st 4 0 4294967295 w h (by omega))
  clear h
  rcases st with ⟨⟨⟩, a⟩ | ⟨e', p'⟩
  rotate_left
  · dsimp only [eOf, pOf] at c2 c3
    obtain ⟨z1, z2⟩ := bf (hne e' p' rfl)
    clear hta HN hby
    go_enter Tryz.func49, Tryz.ntmps49
    go_wp2
    refine bodyPost_ret (v := .tuple #[]) (by first | rfl | simp [results, Tryz.results49, go_sem]) rfl ?_
    exact ⟨.bad e' p', rfl, rfl, H.out, Mv.refl _ _⟩
  dsimp only [eOf, pOf] at c2 c3
  obtain rfl := hta a rfl
  have hcl := crc_lt (bs.take t)
  have HBT : Aside0 (Bytes (bs.take t)) := ⟨fun b hb => hby b (List.mem_of_mem_take hb)⟩
  have HEQ := Aside0.mk (end_eq hby t)
  have hlt : (bs.take t).length = t := by rw [List.length_take]; omega
  have HLT := Aside0.mk hlt
  have hwt : IntKind.i64.wrap (t : Int) = t := by rw [IntKind.wrap_i64]; omega
  have htc : t ≤ cap := by omega
  clear hta hne hby hlt
  go_enter Tryz.func49, Tryz.ntmps49
  go_wp2_with (go_at_call 44; refine HN.out.mono ?_)
  first | rintro e w1 n rfl st1 g1 hn k1 k2 | rintro e w1 n st1 rfl g1 hn k1 k2 | rintro e w1 ⟨n, st1, rfl, g1, hn, k1, k2⟩
  have A1 := Aside0.mk (at_step (d := endD bs t) (at_start (a := t) HEQ.out.symm) g1)
  obtain ⟨t1, ht1, hta1, d0, d1, d2, d3, df⟩ := k1.at
  have hne1 := k1.ne0
  have K1 := Aside0.mk k1
  have M1 := Aside0.mk k2
  clear k1 k2 g1 HN HEQ
  rcases st1 with ⟨⟨⟩, a1⟩ | ⟨er, p⟩
  rotate_left
  · dsimp only [eOf, pOf] at d2 d3
    obtain ⟨z1, z2⟩ := bf (hne1 er p rfl)
    have hA : Aside0 (Agree (endD bs) (.ok () t) () (.bad er p)) := ⟨at_agree A1.out⟩
    clear A1 hta1
    go_wp2_with fail
    go_quiet (fail)
    obtain ⟨nq0, rfl⟩ : ∃ k, k = nq := ⟨_, rfl⟩
    have R0 := Aside0.mk (K1.out.drewN nq0)
    go_wp2
    go_end0
    exact ⟨_, rfl, hA.out, R0.out.1, M1.out.trans R0.out.2⟩
  dsimp only [eOf, pOf] at d2 d3
  obtain rfl := hta1 a1 rfl
  have HS := Aside0.mk (rsum_any A t cap (bs.take t) w1 HLT.out (by omega) HBT.out (fun j x hj => by
    have hjl := (List.getElem?_eq_some_iff.1 hj).1
    rw [HLT.out] at hjl
    rw [List.getElem?_take_of_lt hjl] at hj
    obtain ⟨p, hA, _, hc⟩ := K1.out.row j x hj
    exact ⟨p, hA, hc⟩))
  generalize crc (bs.take t) = s at *
  clear hta1
  by_cases hns : n = (s : Int)
  rotate_left
  · have hA : Aside0 (At (failS (.ok () t1) 181 t) (endD bs t) (fun a => .ok () a)) := ⟨at_fail A1.out fun a _ => by rw [if_neg hns]⟩
    have HF := Aside0.mk (fail47 y A cap bs (.ok () t1) 181 t w1 K1.out (by decide))
    obtain ⟨z1, z2⟩ := bf hns
    clear A1
    go_wp2_with (go_at_call 39; refine HS.out.mono ?_)
    rintro e w2 ⟨rfl, rfl⟩
    go_wp2_with (go_at_call 47; refine HF.out.mono ?_)
    first | rintro e w3 rfl k1 k2 | rintro e w3 ⟨rfl, k1, k2⟩
    obtain ⟨t3, _, _, e0, e1, e2, e3, ef⟩ := k1.at
    dsimp only [eOf, pOf, failS] at e2 e3
    have K3 := Aside0.mk k1
    have M3 := Aside0.mk (M1.out.trans k2)
    clear k1 k2
    go_wp2_with fail
    go_quiet (fail)
    obtain ⟨nq0, rfl⟩ : ∃ k, k = nq := ⟨_, rfl⟩
    have R0 := Aside0.mk (K3.out.drewN nq0)
    go_wp2
    go_end0
    exact ⟨_, rfl, at_agree hA.out, R0.out.1, M3.out.trans R0.out.2⟩
  subst hns
  by_cases hbl : t1 < bs.length
  · have hA : Aside0 (At (failS (.ok () t1) 180 t1) (endD bs t) (fun a => .ok () a)) := ⟨at_fail A1.out fun a ha => by
      cases ha
      rw [if_pos rfl, if_pos hbl]⟩
    have HF := Aside0.mk fun w' h' => fail47 y A cap bs (.ok () t1) 180 t1 w' h' (by decide)
    have z : decide ((t1 : Int) < (bs.length : Int)) = true := decide_eq_true (by omega)
    clear A1
    go_wp2_with (go_at_call 39; refine HS.out.mono ?_)
    rintro e w2 ⟨rfl, rfl⟩
    go_wp2_with fail
    go_quiet (fail)
    obtain ⟨nq0, rfl⟩ : ∃ k, k = nq := ⟨_, rfl⟩
    have R0 := Aside0.mk (K1.out.drewN nq0)
    go_wp2_with (go_at_call 47; refine (HF.out _ R0.out.1).mono ?_)
    first | rintro e w3 rfl k1 k2 | rintro e w3 ⟨rfl, k1, k2⟩
    have K3 := Aside0.mk k1
    have M3 := Aside0.mk ((M1.out.trans R0.out.2).trans k2)
    clear k1 k2
    go_wp2
    go_end0
    exact ⟨_, rfl, at_agree hA.out, K3.out, M3.out⟩
  · have hA : Aside0 (At (.ok () t1) (endD bs t) (fun a => .ok () a)) := ⟨at_mono A1.out fun a ha => by
      cases ha
      rw [if_pos rfl, if_neg hbl]⟩
    have z : decide ((t1 : Int) < (bs.length : Int)) = false := decide_eq_false (by omega)
    clear A1
    go_wp2_with (go_at_call 39; refine HS.out.mono ?_)
    rintro e w2 ⟨rfl, rfl⟩
    go_wp2_with fail
    go_quiet (fail)
    obtain ⟨nq0, rfl⟩ : ∃ k, k = nq := ⟨_, rfl⟩
    have R0 := Aside0.mk (K1.out.drewN nq0)
    go_wp2
    go_end0
    exact ⟨_, rfl, at_agree hA.out, R0.out.1, M1.out.trans R0.out.2⟩
end Go.Proofs.YtpnkifincadakaaGreatDoor.Wr
end
section
namespace Go.Proofs.YtpnkifincadakaaGreatDoor.Wr
open Go.RowKit Go.Pk Go.Proofs.YtpnkifincadakaaGreatDoorW.PrintWords Go.Proofs.YtpnkifincadakaaGreatDoor.PPackSpecs
theorem put6_mv1 {g : Nat} {w0 w : World} (h : Mv g w0 w) (hg : g < w0.heap.size) {N : Nat} (hN : w0.heap.size ≤ N) (a b d f e : Int) (v : Value) : Mv g w0 (put6 w N a b d f e v) :=
  (((((h.far hg (p := ⟨N, 0, none⟩) hN _).far hg (p := ⟨N, 1, none⟩) hN _).far hg (p := ⟨N, 2, none⟩) hN _).far hg (p := ⟨N, 3, none⟩) hN _).far hg (p := ⟨N, 4, none⟩) hN _).far hg (p := ⟨N, 5, none⟩) hN _
set_option maxHeartbeats 16000000 in
set_option maxRecDepth 100000 in
theorem pattern46 (y : Nat) (A : Option Addr) (cap : Nat) (bs : List Int) (a : Nat) (w : World) (h : ES y A cap bs (.ok () a) w) :
    Calls Tryz.prog 46 #[.pointer (some ⟨y, 0, none⟩)] w fun r w' => ∃ (x : S40) (st' : Rdd Unit) (B : Option Addr) (cp : Nat), r = .returned (.agg #[.int .i64 x.f0, .int .i64 x.f1, .int .i64 x.f2, .int .i64 x.f3, .int .i64 x.f4, .slice B x.f5.length cp]) ∧ x.f5.length ≤ cp ∧ Kd.F k40 w' (fun k => w.heap.size ≤ k) B x.f5.length x.f5 ∧ ES y A cap bs st' w' ∧ Mv y w w' ∧ Agree (patternD bs) (.ok () a) x st' := by
  have hyl := h.ylt
  have hlA : ∀ p, A = some p → 0 < bs.length → p.block < w.heap.size := fun p hp hl => by
    obtain ⟨q, hq, _, hcc⟩ := h.row 0 _ (List.getElem?_eq_getElem hl)
    rw [hp] at hq
    cases hq
    have := cell_lt hcc
    rw [add_block] at this
    exact this
  have hA1 := below_alloc (Below.refl _ w) (.cells #[.int .i64 0, .int .i64 0, .int .i64 0, .int .i64 0, .int .i64 0, .slice none 0 0] 40)
  have hA2 := below_alloc hA1 (.cells #[.int .i64 0] 3)
  have V2 := h.below hA2
  have BR2 := blk_alloc (blk_new w (.cells #[.int .i64 0, .int .i64 0, .int .i64 0, .int .i64 0, .int .i64 0, .slice none 0 0] 40)) (.cells #[.int .i64 0] 3)
  have C2 := blk_new (w.alloc (.cells #[.int .i64 0, .int .i64 0, .int .i64 0, .int .i64 0, .int .i64 0, .slice none 0 0] 40)) (.cells #[.int .i64 0] 3)
  rw [World.size_alloc] at C2
  obtain ⟨t, _, hta, _, c1, _, _, _⟩ := (h.below hA1).at
  rw [hta a rfl] at c1
  have HV := Aside0.mk (val_every 64 (Nat.le_refl _) y A cap bs (w.heap.size + 1) 0 a _ V2 C2 (fun p hp hl => by have := hlA p hp hl; omega) (by omega))
  have M2 := Aside0.mk (Mv.of_below hA2 (Nat.le_of_lt hyl))
  have HBR := Aside0.mk BR2
  clear hta h hA1 hA2 V2 BR2 C2
  go_enter Tryz.func46, Tryz.ntmps46
  go_wp2_with (go_at_call 94; refine HV.out.mono ?_)
  rintro e w5 ⟨x, c, st5, B, cp, rfl, lc, hF, k1, k2, k3, hag, _⟩
  have BR5 := k3.blk HBR.out (by omega) (by omega)
  have M5 := k3.one M2.out (by omega) hyl
  have hs5 : w.heap.size < w5.heap.size := blk_lt BR5
  have HAG := Aside0.mk (agree_at hag)
  have hA6 := below_alloc (Below.refl _ w5) (.cells #[.int .i64 x.f0, .int .i64 x.f1, .int .i64 x.f2, .int .i64 x.f3, .int .i64 x.f4, .slice B x.f5.length cp] 40)
  have X6 := blk_new w5 (.cells #[.int .i64 x.f0, .int .i64 x.f1, .int .i64 x.f2, .int .i64 x.f3, .int .i64 x.f4, .slice B x.f5.length cp] 40)
  have F6 := Kd.F_below hF hA6
  have K6 := k1.below hA6
  have M6 := M5.trans (Mv.of_below hA6 (Nat.le_of_lt k1.ylt))
  have BR6 := (hA6.block _ hs5).trans BR5
  obtain ⟨t6, _, _, d0, d1, d2, d3, df⟩ := K6.at
  have hne6 := K6.ne0
  have K6 := Aside0.mk K6
  have M6 := Aside0.mk M6
  have F6 := Aside0.mk (Kd.F_mono F6 (ok' := fun k => w.heap.size < k) (fun k hk => by simp at hk; omega))
  have BR6 := Aside0.mk BR6
  have X6 := Aside0.mk X6
  clear k1 k2 k3 hag hF M5 BR5 hA6 M2 HBR HV
  rcases st5 with ⟨⟨⟩, a5⟩ | ⟨er, p⟩
  rotate_left
  · dsimp only [eOf, pOf] at d2 d3
    obtain ⟨y1, y2⟩ := bf (hne6 er p rfl)
    have hA : Aside0 (Agree (patternD bs) (.ok () a) x (.bad er p)) := ⟨at_agree (dec := patternD bs) (by
      have h1 : valueD bs 64 0 a = .bad er p := HAG.out
      show patternD bs a = .bad er p
      rw [patternD, h1]
      rfl)⟩
    clear HAG
    go_upto_region 4 with fail
    obtain ⟨w6, hw6⟩ : ∃ w6, w6 = (w5.alloc (.cells #[.int .i64 x.f0, .int .i64 x.f1, .int .i64 x.f2, .int .i64 x.f3, .int .i64 x.f4, .slice B x.f5.length cp] 40)) := ⟨_, rfl⟩
    rw [← hw6] at K6 M6 F6 BR6 X6 d0 d1 d2 d3 df ⊢
    clear hw6
    have BR7 := BR6.out
    have X7 := X6.out
    have g0 : w6.frozen? ⟨w.heap.size, 0, none⟩ = false := blk_frozen BR7 0
    have g1 : w6.frozen? ⟨w.heap.size, 1, none⟩ = false := blk_frozen BR7 1
    have g2 : w6.frozen? ⟨w.heap.size, 2, none⟩ = false := blk_frozen BR7 2
    have g3 : w6.frozen? ⟨w.heap.size, 3, none⟩ = false := blk_frozen BR7 3
    have g4 : w6.frozen? ⟨w.heap.size, 4, none⟩ = false := blk_frozen BR7 4
    have g5 : w6.frozen? ⟨w.heap.size, 5, none⟩ = false := blk_frozen BR7 5
    have z0 : w6.cell? ⟨w.heap.size, 0, none⟩ = some (.int .i64 0) := (blk_cell BR7 0).trans rfl
    have z1 : w6.cell? ⟨w.heap.size, 1, none⟩ = some (.int .i64 0) := (blk_cell BR7 1).trans rfl
    have z2 : w6.cell? ⟨w.heap.size, 2, none⟩ = some (.int .i64 0) := (blk_cell BR7 2).trans rfl
    have z3 : w6.cell? ⟨w.heap.size, 3, none⟩ = some (.int .i64 0) := (blk_cell BR7 3).trans rfl
    have z4 : w6.cell? ⟨w.heap.size, 4, none⟩ = some (.int .i64 0) := (blk_cell BR7 4).trans rfl
    have z5 : w6.cell? ⟨w.heap.size, 5, none⟩ = some (.slice none 0 0) := (blk_cell BR7 5).trans rfl
    have q0 : w6.cell? ⟨w5.heap.size, 0, none⟩ = some (.int .i64 x.f0) := (blk_cell X7 0).trans rfl
    have q1 : w6.cell? ⟨w5.heap.size, 1, none⟩ = some (.int .i64 x.f1) := (blk_cell X7 1).trans rfl
    have q2 : w6.cell? ⟨w5.heap.size, 2, none⟩ = some (.int .i64 x.f2) := (blk_cell X7 2).trans rfl
    have q3 : w6.cell? ⟨w5.heap.size, 3, none⟩ = some (.int .i64 x.f3) := (blk_cell X7 3).trans rfl
    have q4 : w6.cell? ⟨w5.heap.size, 4, none⟩ = some (.int .i64 x.f4) := (blk_cell X7 4).trans rfl
    have q5 : w6.cell? ⟨w5.heap.size, 5, none⟩ = some (.slice B x.f5.length cp) := (blk_cell X7 5).trans rfl
    have BR7 := Aside0.mk BR7
    clear X7
    go_wp2
    refine bodyPost_ret (results_cell_row rfl _ _ w.heap.size 40 #[.int .i64 x.f0, .int .i64 x.f1, .int .i64 x.f2, .int .i64 x.f3, .int .i64 x.f4, .slice B x.f5.length cp] (0, 0) _ rfl (put6_blk BR7.out _ _ _ _ _ _) Tryz.underlying40 rfl (by kernel_rfl)) rfl ?_
    refine ⟨x, .bad er p, B, cp, rfl, lc, ?_, ?_, ?_, hA.out⟩
    · exact Kd.F_mono (put6_F F6.out (fun k hk e => by omega) _ _ _ _ _ _) fun k hk => by omega
    · exact put6_es K6.out (by omega) (fun p hp hl => by have := hlA p hp hl; omega) _ _ _ _ _ _
    · exact put6_mv1 M6.out hyl (Nat.le_refl _) _ _ _ _ _ _
  dsimp only [eOf, pOf] at d2 d3
  have hv : valueD bs 64 0 a = .ok (x, c) a5 := HAG.out
  have HCK := Aside0.mk (check82 x (value_lim bs 64 0 a x c a5 hv) B cp (w5.alloc (.cells #[.int .i64 x.f0, .int .i64 x.f1, .int .i64 x.f2, .int .i64 x.f3, .int .i64 x.f4, .slice B x.f5.length cp] 40)) (Kd.F_now F6.out) lc)
  have HP : Aside0 (patternD bs a = if chk x = 0 then .ok x a5 else .bad 180 a) := ⟨by rw [patternD, hv]; rfl⟩
  clear hv HAG
  by_cases hc : chk x = 0
  · rw [hc] at HCK
    have hA : Aside0 (Agree (patternD bs) (.ok () a) x (.ok () a5)) := ⟨at_agree (dec := patternD bs) (show patternD bs a = .ok x a5 by rw [HP.out, if_pos hc])⟩
    clear hc HP
    go_wp2_with (go_at_call 82; refine HCK.out.mono ?_)
    first | rintro e w7 rfl k7 | rintro e w7 ⟨rfl, k7⟩
    have K7 := Aside0.mk (K6.out.below k7)
    have M7 := Aside0.mk (M6.out.trans (Mv.of_below k7 (Nat.le_of_lt K6.out.ylt)))
    have F7 := Aside0.mk (Kd.F_below F6.out k7)
    have BR8 := Aside0.mk ((k7.block _ (blk_lt BR6.out)).trans BR6.out)
    have X8 := Aside0.mk ((k7.block _ (blk_lt X6.out)).trans X6.out)
    clear k7
    have BR7 := BR8.out
    have X7 := X8.out
    have g0 : w7.frozen? ⟨w.heap.size, 0, none⟩ = false := blk_frozen BR7 0
    have g1 : w7.frozen? ⟨w.heap.size, 1, none⟩ = false := blk_frozen BR7 1
    have g2 : w7.frozen? ⟨w.heap.size, 2, none⟩ = false := blk_frozen BR7 2
    have g3 : w7.frozen? ⟨w.heap.size, 3, none⟩ = false := blk_frozen BR7 3
    have g4 : w7.frozen? ⟨w.heap.size, 4, none⟩ = false := blk_frozen BR7 4
    have g5 : w7.frozen? ⟨w.heap.size, 5, none⟩ = false := blk_frozen BR7 5
    have z0 : w7.cell? ⟨w.heap.size, 0, none⟩ = some (.int .i64 0) := (blk_cell BR7 0).trans rfl
    have z1 : w7.cell? ⟨w.heap.size, 1, none⟩ = some (.int .i64 0) := (blk_cell BR7 1).trans rfl
    have z2 : w7.cell? ⟨w.heap.size, 2, none⟩ = some (.int .i64 0) := (blk_cell BR7 2).trans rfl
    have z3 : w7.cell? ⟨w.heap.size, 3, none⟩ = some (.int .i64 0) := (blk_cell BR7 3).trans rfl
    have z4 : w7.cell? ⟨w.heap.size, 4, none⟩ = some (.int .i64 0) := (blk_cell BR7 4).trans rfl
    have z5 : w7.cell? ⟨w.heap.size, 5, none⟩ = some (.slice none 0 0) := (blk_cell BR7 5).trans rfl
    have q0 : w7.cell? ⟨w5.heap.size, 0, none⟩ = some (.int .i64 x.f0) := (blk_cell X7 0).trans rfl
    have q1 : w7.cell? ⟨w5.heap.size, 1, none⟩ = some (.int .i64 x.f1) := (blk_cell X7 1).trans rfl
    have q2 : w7.cell? ⟨w5.heap.size, 2, none⟩ = some (.int .i64 x.f2) := (blk_cell X7 2).trans rfl
    have q3 : w7.cell? ⟨w5.heap.size, 3, none⟩ = some (.int .i64 x.f3) := (blk_cell X7 3).trans rfl
    have q4 : w7.cell? ⟨w5.heap.size, 4, none⟩ = some (.int .i64 x.f4) := (blk_cell X7 4).trans rfl
    have q5 : w7.cell? ⟨w5.heap.size, 5, none⟩ = some (.slice B x.f5.length cp) := (blk_cell X7 5).trans rfl
    have BR7 := Aside0.mk BR7
    clear X7
    go_wp2
    refine bodyPost_ret (results_cell_row rfl _ _ w.heap.size 40 #[.int .i64 x.f0, .int .i64 x.f1, .int .i64 x.f2, .int .i64 x.f3, .int .i64 x.f4, .slice B x.f5.length cp] (0, 0) _ rfl (put6_blk BR7.out _ _ _ _ _ _) Tryz.underlying40 rfl (by kernel_rfl)) rfl ?_
    refine ⟨x, .ok () a5, B, cp, rfl, lc, ?_, ?_, ?_, hA.out⟩
    · exact Kd.F_mono (put6_F F7.out (fun k hk e => by omega) _ _ _ _ _ _) fun k hk => by omega
    · exact put6_es K7.out (by omega) (fun p hp hl => by have := hlA p hp hl; omega) _ _ _ _ _ _
    · exact put6_mv1 M7.out hyl (Nat.le_refl _) _ _ _ _ _ _
  · have hA : Aside0 (Agree (patternD bs) (.ok () a) x (.bad 180 a)) := ⟨at_agree (dec := patternD bs) (show patternD bs a = .bad 180 a by rw [HP.out, if_neg hc])⟩
    obtain ⟨y1, y2⟩ := bf hc
    generalize chk x = ck at *
    clear hc HP
    go_wp2_with (go_at_call 82; refine HCK.out.mono ?_)
    first | rintro e w7 rfl k7 | rintro e w7 ⟨rfl, k7⟩
    have K7 := Aside0.mk (K6.out.below k7)
    have M7 := Aside0.mk (M6.out.trans (Mv.of_below k7 (Nat.le_of_lt K6.out.ylt)))
    have F7 := Aside0.mk (Kd.F_below F6.out k7)
    have BR8 := Aside0.mk ((k7.block _ (blk_lt BR6.out)).trans BR6.out)
    have X8 := Aside0.mk ((k7.block _ (blk_lt X6.out)).trans X6.out)
    have HF := Aside0.mk (fail47 y A cap bs (.ok () a5) 180 a w7 K7.out (by decide))
    clear k7
    go_wp2_with (go_at_call 47; refine HF.out.mono ?_)
    first | rintro e w8 rfl k1 k2 | rintro e w8 ⟨rfl, k1, k2⟩
    have K9 := Aside0.mk k1
    have M9 := Aside0.mk (M7.out.trans k2)
    have F9 := Aside0.mk (Kd.F_step F7.out fun k hk hlt => k2.keep k hlt (by omega))
    have BR9 := Aside0.mk (k2.blk BR8.out (by omega))
    have X9 := Aside0.mk (k2.blk X8.out (by omega))
    clear k1 k2
    have BR7 := BR9.out
    have X7 := X9.out
    have g0 : w8.frozen? ⟨w.heap.size, 0, none⟩ = false := blk_frozen BR7 0
    have g1 : w8.frozen? ⟨w.heap.size, 1, none⟩ = false := blk_frozen BR7 1
    have g2 : w8.frozen? ⟨w.heap.size, 2, none⟩ = false := blk_frozen BR7 2
    have g3 : w8.frozen? ⟨w.heap.size, 3, none⟩ = false := blk_frozen BR7 3
    have g4 : w8.frozen? ⟨w.heap.size, 4, none⟩ = false := blk_frozen BR7 4
    have g5 : w8.frozen? ⟨w.heap.size, 5, none⟩ = false := blk_frozen BR7 5
    have z0 : w8.cell? ⟨w.heap.size, 0, none⟩ = some (.int .i64 0) := (blk_cell BR7 0).trans rfl
    have z1 : w8.cell? ⟨w.heap.size, 1, none⟩ = some (.int .i64 0) := (blk_cell BR7 1).trans rfl
    have z2 : w8.cell? ⟨w.heap.size, 2, none⟩ = some (.int .i64 0) := (blk_cell BR7 2).trans rfl
    have z3 : w8.cell? ⟨w.heap.size, 3, none⟩ = some (.int .i64 0) := (blk_cell BR7 3).trans rfl
    have z4 : w8.cell? ⟨w.heap.size, 4, none⟩ = some (.int .i64 0) := (blk_cell BR7 4).trans rfl
    have z5 : w8.cell? ⟨w.heap.size, 5, none⟩ = some (.slice none 0 0) := (blk_cell BR7 5).trans rfl
    have q0 : w8.cell? ⟨w5.heap.size, 0, none⟩ = some (.int .i64 x.f0) := (blk_cell X7 0).trans rfl
    have q1 : w8.cell? ⟨w5.heap.size, 1, none⟩ = some (.int .i64 x.f1) := (blk_cell X7 1).trans rfl
    have q2 : w8.cell? ⟨w5.heap.size, 2, none⟩ = some (.int .i64 x.f2) := (blk_cell X7 2).trans rfl
    have q3 : w8.cell? ⟨w5.heap.size, 3, none⟩ = some (.int .i64 x.f3) := (blk_cell X7 3).trans rfl
    have q4 : w8.cell? ⟨w5.heap.size, 4, none⟩ = some (.int .i64 x.f4) := (blk_cell X7 4).trans rfl
    have q5 : w8.cell? ⟨w5.heap.size, 5, none⟩ = some (.slice B x.f5.length cp) := (blk_cell X7 5).trans rfl
    have BR7 := Aside0.mk BR7
    clear X7
    go_wp2
    refine bodyPost_ret (results_cell_row rfl _ _ w.heap.size 40 #[.int .i64 x.f0, .int .i64 x.f1, .int .i64 x.f2, .int .i64 x.f3, .int .i64 x.f4, .slice B x.f5.length cp] (0, 0) _ rfl (put6_blk BR7.out _ _ _ _ _ _) Tryz.underlying40 rfl (by kernel_rfl)) rfl ?_
    refine ⟨x, .bad 180 a, B, cp, rfl, lc, ?_, ?_, ?_, hA.out⟩
    · exact Kd.F_mono (put6_F F9.out (fun k hk e => by omega) _ _ _ _ _ _) fun k hk => by omega
    · exact put6_es K9.out (by omega) (fun p hp hl => by have := hlA p hp hl; omega) _ _ _ _ _ _
    · exact put6_mv1 M9.out hyl (Nat.le_refl _) _ _ _ _ _ _
end Go.Proofs.YtpnkifincadakaaGreatDoor.Wr
end
