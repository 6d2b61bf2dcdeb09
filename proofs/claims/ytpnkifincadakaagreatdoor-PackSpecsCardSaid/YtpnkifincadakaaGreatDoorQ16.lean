/- Proved: part 16 of the proof of PackSpecs (PPackSpecsx10, Pl2, Pl3, Pl4). Conditions: each theorem states its own. -/
import Derived.Test.YtpnkifincadakaaGreatDoorQ14
import Derived.Test.YtpnkifincadakaaGreatDoorQ15
set_option linter.unusedVariables false
set_option linter.unusedSimpArgs false
section
namespace Go.Proofs.YtpnkifincadakaaGreatDoor.PPackSpecs
open Go.RowKit Go.Proofs.YtpnkifincadakaaGreatDoorW.PrintWords Go.Proofs.YtpnkifincadakaaGreatDoorW.PrintLast Go.Proofs.YtpnkifincadakaaGreatDoorW.PrintMore
attribute [local go_sem] max2_int min2_int max_two min_two
def graftref18_number.l0 : Nat → Int → Int → List Int → Int → Option (List Int)
  | 0, _, _, _, _ => none
  | k + 1, x0, x1, x5, x6 => if x6 < x1 then (if 0 ≤ (wrap64 (8 * x6)) then (if x5.length < 140737488355328 then (graftref18_number.l0 k x0 x1 (x5 ++ [(shr .i64 x0 (wrap64 (8 * x6))) % 256]) (wrap64 (x6 + 1))) else (none)) else (none)) else (some x5)
def graftref18_number.f (k : Nat) (a0 : Int) (a1 : Int) : Option (List Int) := graftref18_number.l0 k a0 a1 ([] : List Int) 0
theorem graftref18_number.mono_l : ∀ k, (∀ y0 y1 y2 y3, LeO (graftref18_number.l0 k y0 y1 y2 y3) (graftref18_number.l0 (k + 1) y0 y1 y2 y3))
  | 0 => fun _ _ _ _ r h => by simp [graftref18_number.l0] at h
  | k + 1 => by
    have ih0 := graftref18_number.mono_l k
    · intro y0 y1 y2 y3
      unfold graftref18_number.l0
      repeat' first
      | (with_reducible exact ih0 _ _ _ _)
      | (with_reducible exact LeO.refl _)
      | (with_reducible exact LeO.none _)
      | (with_reducible refine LeO.ite ?_ ?_)
      | (with_reducible refine LeO.bind ?_ (fun _ => ?_))
      | exact ih0 _ _ _ _
      | exact LeO.none _
      | refine LeO.ite ?_ ?_
      | refine LeO.bind ?_ (fun _ => ?_)
theorem graftref18_number.mono : ∀ a0 a1 k, LeO (graftref18_number.f k a0 a1) (graftref18_number.f (k + 1) a0 a1) := by
  intro a0 a1 k
  have ih0 := graftref18_number.mono_l k
  unfold graftref18_number.f
  repeat' first
      | (with_reducible exact ih0 _ _ _ _)
      | (with_reducible exact LeO.refl _)
      | (with_reducible exact LeO.none _)
      | (with_reducible refine LeO.ite ?_ ?_)
      | (with_reducible refine LeO.bind ?_ (fun _ => ?_))
      | exact ih0 _ _ _ _
      | exact LeO.none _
      | refine LeO.ite ?_ ?_
      | refine LeO.bind ?_ (fun _ => ?_)
set_option maxHeartbeats 8000000 in
set_option maxRecDepth 100000 in
theorem graftref18_number.calls (k : Nat) (a0 : Int) (a1 : Int) (r : List Int) (w : World) (h : graftref18_number.f k a0 a1 = some r) :
    Calls Tryz.prog 37 #[.int .i64 a0, .int .i64 a1] w fun e w' => ∃ v0_ : Value, e = .returned (v0_) ∧ Kd.R (Kd.int .u8) 5 w' w.heap.size (fun _ => True) v0_ r ∧ Below w.heap.size w w' := by
  have HB := Aside0.mk (Below.refl w.heap.size w)
  have H : (graftref18_number.l0 k a0 a1 ([] : List Int) 0) = some r := h
  clear h
  have H' := Aside0.mk H
  clear H
  go_enter Tryz.func37, Tryz.ntmps37
  go_wp2
  go_loopg [5, 6] k (fun kq v5 v6 w' => ∃ (x5_1 : List Int) (x6_1 : Int), v6 = .int .i64 x6_1 ∧ Aside0 (graftref18_number.l0 kq a0 a1 x5_1 x6_1 = some r) ∧ Aside0 (kq ≤ k) ∧ Aside0 (Kd.R (Kd.int .u8) 5 w' w.heap.size (fun _ => True) v5 x5_1) ∧ Aside0 (Below w.heap.size w w'))
  case atStart => exact ⟨(([] : List Int)), (0), (by first | rfl | (simp; done) | (simp [*]; done)), H', ⟨Nat.le_refl _⟩, ⟨by first | exact Kd.R_nil _ _ _ _ _ | exact Kd.N_nil _ _ _ _ _ | exact Kd.V_nil _ _ _ _ _ | exact Kd.Q_nil _ _ _ _ _ | exact Kd.S_nil _ _ _ _ _⟩, ⟨by repeat (first | (with_reducible first | exact HB.out | apply below_alloc | apply pw_below_drewN | apply below_drew1) | exact HB.out)⟩⟩
  case round =>
    clear H'
    try clear p2
    obtain ⟨x5_1, x6_1, rfl, HA, HK1, HO_5, HB⟩ := hrel
    cases gk with
    | zero => exact absurd HA.out (by simp [graftref18_number.l0])
    | succ k1 =>
      have H := HA.out
      clear HA
      simp only [graftref18_number.l0] at H
      by_cases c3 : x6_1 < a1
      · rw [if_pos c3] at H
        have c3b0 : decide (x6_1 < a1) = true := decide_eq_true c3
        clear c3
        obtain ⟨ji4, hji4⟩ : ∃ j_ : Int, (wrap64 (8 * x6_1)) = j_ := ⟨_, rfl⟩
        replace H : (if 0 ≤ (ji4) then (if x5_1.length < 140737488355328 then (graftref18_number.l0 k1 a0 a1 (x5_1 ++ [(shr .i64 a0 (ji4)) % 256]) (wrap64 (x6_1 + 1))) else (none)) else (none)) = some r := by first | (rw [hji4] at H; exact H) | (simp only [hji4] at H ⊢; exact H)
        have hji4w : (IntKind.i64.wrap (8 * x6_1)) = ji4 := (i64_w _).trans hji4
        by_cases c5 : 0 ≤ (ji4)
        · rw [if_pos c5] at H
          have c5b0 := eq_true c5
          have c5b1 : decide (0 ≤ (ji4)) = true := decide_eq_true c5
          clear c5
          obtain ⟨ji6, hji6⟩ : ∃ j_ : Int, (shr .i64 a0 (ji4)) = j_ := ⟨_, rfl⟩
          replace H : (if x5_1.length < 140737488355328 then (graftref18_number.l0 k1 a0 a1 (x5_1 ++ [(ji6) % 256]) (wrap64 (x6_1 + 1))) else (none)) = some r := by first | (rw [hji6] at H; exact H) | (simp only [hji6] at H ⊢; exact H)
          have hji6_ : (a0 / 2 ^ min (ji4).toNat 64) = ji6 := hji6
          have hji6z : (ji4) ≤ 64 → (a0 / 2 ^ (ji4).toNat) = ji6 := shr_small hji6
          by_cases c7 : x5_1.length < 140737488355328
          · rw [if_pos c7] at H
            have LMc7 := Aside0.mk c7
            clear c7
            obtain ⟨y276, hy276⟩ : ∃ y_ : List Int, y_ = (x5_1 ++ [(ji6) % 256]) := ⟨_, rfl⟩
            replace H : (graftref18_number.l0 k1 a0 a1 y276 (wrap64 (x6_1 + 1))) = some r := by first | (rw [hy276]; with_reducible exact H) | (have H2_ := (Option.bind_some _ _).symm.trans H; rw [hy276]; with_reducible exact H2_) | (have H2_ := (Option.bind_some _ _).symm.trans H; with_reducible exact H2_) | with_reducible exact H | (rw [hy276]; exact H) | exact H
            have Ny276 := Aside0.mk hy276
            clear hy276
            have H' := Aside0.mk H
            clear H
            go_wp2_with (first | ((with_reducible refine gate_builtin (b := .append) (xs := #[.tmp 12, .tmp 18]) rfl ?_); at_builtin; refine Kd.R_append (Kd.int .u8) (w0 := w) w.heap.size rfl (.tmp 12) (.tmp 18) 30 5 (.int .u8 0) 1 rfl Tryz.underlying30 info5 rfl (by decide) (by omega) u5 x5_1 ((ji6) % 256) [.int .u8 ((ji6) % 256)] (fun _ => True) (fun _ => False) rfl rfl ?aP (fun _ hk => hk.elim) ?aF ?aO ?aB ?aS ?aL ?_; (case aP => exact rfl); (case aB => exact (by repeat (first | (with_reducible first | exact HB.out | apply below_alloc | apply pw_below_drewN | apply below_drew1) | exact HB.out))); (case aF => exact (fun _ _ => trivial)); (case aO => exact (by (with_reducible repeat (first | apply Kd.R_alloc | apply Kd.R_drewN | apply Kd.R_drew)); exact HO_5.out)); (case aS => exact (below_size (by repeat (first | (with_reducible first | exact HB.out | apply below_alloc | apply pw_below_drewN | apply below_drew1) | exact HB.out)))); (case aL => have := LMc7.out; omega); intro v277 w8 ho hb hg hat; rw [← Ny276.out] at ho; have n0_ := Aside0.mk (hb); have n1_ := Aside0.mk (ho); clear HB; clear HO_5; have HB := n0_; have HO278 := n1_; clear n0_ n1_; clear ho hb hg hat))
            go_roundg k1
            case measure => have := HK1.out; omega
            case rel => exact ⟨(y276), (wrap64 (x6_1 + 1)), (by first | rfl | (simp; done) | (simp [*]; done)), H', ⟨by have := HK1.out; omega⟩, ⟨by (with_reducible repeat (first | apply Kd.R_alloc | apply Kd.R_drewN | apply Kd.R_drew)); exact HO278.out⟩, ⟨by repeat (first | (with_reducible first | exact HB.out | apply below_alloc | apply pw_below_drewN | apply below_drew1) | exact HB.out)⟩⟩
          · rw [if_neg c7] at H
            exact absurd H (by simp)
        · rw [if_neg c5] at H
          exact absurd H (by simp)
      · rw [if_neg c3] at H
        have c3b0 : decide (x6_1 < a1) = false := decide_eq_false c3
        clear c3
        obtain rfl := Option.some.inj H
        go_wp2
        go_ret
        exact ⟨_, by first | rfl | (simp [errW_none, errW_some] <;> rfl) | (simp [*, errW_none, errW_some] <;> rfl), by (with_reducible repeat (first | apply Kd.R_alloc | apply Kd.R_drewN | apply Kd.R_drew)); exact HO_5.out, by repeat (first | (with_reducible first | exact HB.out | apply below_alloc | apply pw_below_drewN | apply below_drew1) | exact HB.out)⟩
mutual
def graftref2_Guard.l0 : Nat → List (S40) → Int → Int → Option (Int)
  | 0, _, _, _ => none
  | k + 1, x3, x4, x5 => graftref2_Guard.l1 k x3 x4 x5 ([] : List (S40)) 0
def graftref2_Guard.l1 : Nat → List (S40) → Int → Int → List (S40) → Int → Option (Int)
  | 0, _, _, _, _, _ => none
  | k + 1, x3, x4, x5, x6, x7 => if x7 < (x3.length : Int) then (if 0 ≤ x7 then (if (wrap64 (x4 + (((rd_T40 x3 x7).f5).length : Int))) > 4096 then (some 2) else (if x6.length + ((rd_T40 x3 x7).f5).length < 2199023255552 then (graftref2_Guard.l1 k x3 (wrap64 (x4 + (((rd_T40 x3 x7).f5).length : Int))) x5 (x6 ++ ((rd_T40 x3 x7).f5)) (wrap64 (x7 + 1))) else (none))) else (none)) else (if (x6.length : Int) = 0 then (if x5 > 64 then (some 5) else (some 0)) else (graftref2_Guard.l0 k x6 x4 (wrap64 (x5 + 1))))
end
def graftref2_Guard.f (k : Nat) (a0_0 : Int) (a0_1 : Int) (a0_2 : Int) (a0_3 : Int) (a0_4 : Int) (l0_5 : List (S40)) : Option (Int) := graftref2_Guard.l0 k (([(⟨a0_0, a0_1, a0_2, a0_3, a0_4, l0_5⟩ : S40)] : List (S40))) 1 1
set_option maxHeartbeats 8000000 in
set_option maxRecDepth 100000 in
theorem graftref2_Guard.calls (k : Nat) (a0_0 : Int) (a0_1 : Int) (a0_2 : Int) (a0_3 : Int) (a0_4 : Int) (P0_5_ : Nat → Prop) (A0_5 : Option Addr) (c0_5 : Nat) (l0_5 : List (S40)) (r : Int) (w : World) (hs0_5 : Kd.V k40 40 w w.heap.size (fun k_ => P0_5_ k_) (.slice A0_5 l0_5.length c0_5) l0_5) (h : graftref2_Guard.f k a0_0 a0_1 a0_2 a0_3 a0_4 l0_5 = some r) :
    Calls Tryz.prog 146 #[.agg #[.int .i64 a0_0, .int .i64 a0_1, .int .i64 a0_2, .int .i64 a0_3, .int .i64 a0_4, .slice A0_5 l0_5.length c0_5]] w fun e w' => e = .returned (.int .i64 r) ∧ Below w.heap.size w w' := by
  have hu40 := Tryz.underlying40
  have HO0_5 := Aside0.mk (show Kd.V k40 40 w w.heap.size (fun k_ => (P0_5_ k_ ∨ w.heap.size ≤ k_)) (.slice A0_5 l0_5.length c0_5) l0_5 from Kd.V_mono hs0_5 (fun k_ hk => .inl hk))
  have HB := Aside0.mk (Below.refl w.heap.size w)
  have H : (graftref2_Guard.l0 k (([(⟨a0_0, a0_1, a0_2, a0_3, a0_4, l0_5⟩ : S40)] : List (S40))) 1 1) = some r := h
  clear h
  obtain ⟨y287, hy287⟩ : ∃ y_ : List (S40), y_ = (([(⟨a0_0, a0_1, a0_2, a0_3, a0_4, l0_5⟩ : S40)] : List (S40))) := ⟨_, rfl⟩
  replace H : (graftref2_Guard.l0 k y287 1 1) = some r := by first | (rw [hy287]; with_reducible exact H) | (have H2_ := (Option.bind_some _ _).symm.trans H; rw [hy287]; with_reducible exact H2_) | (have H2_ := (Option.bind_some _ _).symm.trans H; with_reducible exact H2_) | with_reducible exact H | (rw [hy287]; exact H) | exact H
  have Ny287 := Aside0.mk hy287
  clear hy287
  have H' := Aside0.mk H
  clear H
  go_enter Tryz.func146, Tryz.ntmps146
  go_wp2_with (first | ((with_reducible refine gate_dst (N := 1) rfl ?_); refine box_event ?hg (N := 1) ?hd (cs := #[.int .i64 a0_0, .int .i64 a0_1, .int .i64 a0_2, .int .i64 a0_3, .int .i64 a0_4, .slice A0_5 l0_5.length c0_5]) (t := 40) ?hr ?_; (case hd => rfl); (case hg => rfl); (case hr => first | (go_simp; done) | (go_simp; rfl)); intro gb286 hg w2 hbox hb; have n0_ := Aside0.mk (Kd.V_below (Kd.V_elderB (by (with_reducible repeat (first | apply Kd.V_alloc | apply Kd.V_drewN | apply Kd.V_drew)); exact HO0_5.out) gb286 (Nat.le_of_eq hg.symm)) hb); have n1_ := Aside0.mk (below_step (by repeat (first | (with_reducible first | exact HB.out | apply below_alloc | apply pw_below_drewN | apply below_drew1) | exact HB.out)) hb); have n2_ := Aside0.mk (hbox); have n3_ := Aside0.mk ((by rw [hg]; exact (below_size (by repeat (first | (with_reducible first | exact HB.out | apply below_alloc | apply pw_below_drewN | apply below_drew1) | exact HB.out))) : w.heap.size ≤ gb286)); have n4_ := Aside0.mk ((by rw [hg]; exact (below_size (by repeat (first | (with_reducible first | exact HB.out | apply below_alloc | apply pw_below_drewN | apply below_drew1) | exact HB.out))) : w.heap.size ≤ gb286)); clear HO0_5; clear HB; have HO0_5 := n0_; have HB := n1_; have BK286 := n2_; have GW286 := n3_; have GE286 := n4_; clear n0_ n1_ n2_ n3_ n4_; clear hb hbox hg; have hcz3_0 : w2.cell? ⟨gb286, 0, none⟩ = some (.int .i64 a0_0) := (blk_cell BK286.out 0).trans rfl; have hcz3_1 : w2.cell? ⟨gb286, 1, none⟩ = some (.int .i64 a0_1) := (blk_cell BK286.out 1).trans rfl; have hcz3_2 : w2.cell? ⟨gb286, 2, none⟩ = some (.int .i64 a0_2) := (blk_cell BK286.out 2).trans rfl; have hcz3_3 : w2.cell? ⟨gb286, 3, none⟩ = some (.int .i64 a0_3) := (blk_cell BK286.out 3).trans rfl; have hcz3_4 : w2.cell? ⟨gb286, 4, none⟩ = some (.int .i64 a0_4) := (blk_cell BK286.out 4).trans rfl; have hcz3_5 : w2.cell? ⟨gb286, 5, none⟩ = some (.slice A0_5 l0_5.length c0_5) := (blk_cell BK286.out 5).trans rfl; have hfz3_0 := blk_frozen BK286.out 0; have hfz3_1 := blk_frozen BK286.out 1; have hfz3_2 := blk_frozen BK286.out 2; have hfz3_3 := blk_frozen BK286.out 3; have hfz3_4 := blk_frozen BK286.out 4; have hfz3_5 := blk_frozen BK286.out 5) | ((with_reducible refine gate_dst (N := 9) rfl ?_); refine Kd.N_lit k40 _ 40 ?hg (N' := 9) ?hd (xs := ([(⟨a0_0, a0_1, a0_2, a0_3, a0_4, l0_5⟩ : S40)] : List (S40))) (inner := [.int .i64 a0_0, .int .i64 a0_1, .int .i64 a0_2, .int .i64 a0_3, .int .i64 a0_4, .slice A0_5 l0_5.length c0_5]) (ok := (fun k_ => (P0_5_ k_ ∨ w.heap.size ≤ k_) ∧ k_ ≠ gb286)) (okp := (fun k_ => (P0_5_ k_ ∨ w.heap.size ≤ k_) ∧ k_ ≠ gb286)) ?hr ?hp (fun _ hk => hk) ((show ∀ k_, w2.heap.size ≤ k_ → (fun k_ => (P0_5_ k_ ∨ w.heap.size ≤ k_) ∧ k_ ≠ gb286) k_ from fun k_ hk => ⟨(.inr (Nat.le_trans (below_size (by repeat (first | (with_reducible first | exact HB.out | apply below_alloc | apply pw_below_drewN | apply below_drew1 | refine below_set ?_ GE286.out) | exact HB.out))) hk)), Kd.freshB (g := gb286) (o := .cells #[.int .i64 a0_0, .int .i64 a0_1, .int .i64 a0_2, .int .i64 a0_3, .int .i64 a0_4, .slice A0_5 l0_5.length c0_5] 40 (0, 0)) (by (with_reducible repeat (first | refine blk_drewN ?_ _ | refine blk_drew ?_ | refine blk_alloc ?_ _)); exact BK286.out) k_ hk⟩) _ (Nat.le_refl _)) (Below.refl _ _) (Nat.le_refl _) (by simp) ?_; (case hd => rfl); (case hg => rfl); (case hr => first | (go_simp; done) | (go_simp; rfl)); (case hp => exact (Reps.c6 (show Kd.FK k40 _ _ (⟨a0_0, a0_1, a0_2, a0_3, a0_4, l0_5⟩ : S40) [.int .i64 a0_0, .int .i64 a0_1, .int .i64 a0_2, .int .i64 a0_3, .int .i64 a0_4, .slice A0_5 l0_5.length c0_5] from (k40_mkF _ _ (⟨a0_0, a0_1, a0_2, a0_3, a0_4, l0_5⟩ : S40) (Kd.V_reads' (Kd.V_mono (ok' := (fun k_ => (P0_5_ k_ ∨ w.heap.size ≤ k_) ∧ k_ ≠ gb286)) (HO0_5.out) (fun k_ hk => ⟨hk.1, hk.2⟩))).2.1 (Kd.V_F (Kd.V_mono (ok' := (fun k_ => (P0_5_ k_ ∨ w.heap.size ≤ k_) ∧ k_ ≠ gb286)) (HO0_5.out) (fun k_ hk => ⟨hk.1, hk.2⟩))))) (Reps.none _ _))); intro v288 w4 ho5 hb hg_ hnew_; clear hg_ hnew_; (first | rw [← Ny287.out] at ho5 | (simp only [Int.reduceToNat] at ho5; rw [← Ny287.out] at ho5)); have n0_ := Aside0.mk (Kd.V_elder' (by (with_reducible repeat (first | apply Kd.V_alloc | apply Kd.V_drewN | apply Kd.V_drew)); exact HO0_5.out) (Kd.N_base ho5) hb); have n1_ := Aside0.mk (Kd.N_lower ho5 (below_size (by repeat (first | (with_reducible first | exact HB.out | apply below_alloc | apply pw_below_drewN | apply below_drew1 | refine below_set ?_ GE286.out) | exact HB.out)))); have n2_ := Aside0.mk (blk_below (g := gb286) (o := .cells #[.int .i64 a0_0, .int .i64 a0_1, .int .i64 a0_2, .int .i64 a0_3, .int .i64 a0_4, .slice A0_5 l0_5.length c0_5] 40 (0, 0)) (by (with_reducible repeat (first | refine blk_drewN ?_ _ | refine blk_drew ?_ | refine blk_alloc ?_ _)); exact BK286.out) hb); have n3_ := Aside0.mk (below_step (by repeat (first | (with_reducible first | exact HB.out | apply below_alloc | apply pw_below_drewN | apply below_drew1 | refine below_set ?_ GE286.out) | exact HB.out)) hb); clear HO0_5; clear BK286; clear HB; have HO0_5 := n0_; have HO289 := n1_; have BK286 := n2_; have HB := n3_; clear n0_ n1_ n2_ n3_; clear hb ho5))
  go_loopg [3, 4, 5] k (fun kq v3 v4 v5 w' => ∃ (x3_1 : List (S40)) (x4_1 : Int) (x5_1 : Int), v4 = .int .i64 x4_1 ∧ v5 = .int .i64 x5_1 ∧ Aside0 (graftref2_Guard.l0 kq x3_1 x4_1 x5_1 = some r) ∧ Aside0 (kq ≤ k) ∧ Aside0 (Kd.N k40 40 w' w.heap.size (fun k_ => (P0_5_ k_ ∨ w.heap.size ≤ k_) ∧ k_ ≠ gb286) v3 x3_1) ∧ Aside0 (Kd.V k40 40 w' w.heap.size (fun k_ => (P0_5_ k_ ∨ w.heap.size ≤ k_) ∧ some k_ ≠ (v3 : Value).ownBlock ∧ k_ ≠ gb286) (.slice A0_5 l0_5.length c0_5) l0_5) ∧ Aside0 (w'.heap[gb286]? = some (.cells #[.int .i64 a0_0, .int .i64 a0_1, .int .i64 a0_2, .int .i64 a0_3, .int .i64 a0_4, (.slice A0_5 l0_5.length c0_5)] 40 (0, 0))) ∧ Aside0 (Below w.heap.size w w'))
  case atStart => exact ⟨(y287), (1), (1), (by first | rfl | (simp; done) | (simp [*]; done)), (by first | rfl | (simp; done) | (simp [*]; done)), H', ⟨Nat.le_refl _⟩, ⟨by (with_reducible repeat (first | apply Kd.N_alloc | apply Kd.N_drewN | apply Kd.N_drew)); exact HO289.out⟩, ⟨by (with_reducible repeat (first | apply Kd.V_alloc | apply Kd.V_drewN | apply Kd.V_drew)); exact Kd.V_mono HO0_5.out (fun _ hk => ⟨hk.1.1, ⟨hk.2, hk.1.2⟩⟩)⟩, ⟨by (with_reducible repeat (first | refine blk_drewN ?_ _ | refine blk_drew ?_ | refine blk_alloc ?_ _)); exact BK286.out⟩, ⟨by repeat (first | (with_reducible first | exact HB.out | apply below_alloc | apply pw_below_drewN | apply below_drew1 | refine below_set ?_ GE286.out) | exact HB.out)⟩⟩
  case round =>
    clear H'
    try clear c1
    try clear p2
    try clear hcz3_0
    try clear hcz3_1
    try clear hcz3_2
    try clear hcz3_3
    try clear hcz3_4
    try clear hcz3_5
    try clear hfz3_0
    try clear hfz3_1
    try clear hfz3_2
    try clear hfz3_3
    try clear hfz3_4
    try clear hfz3_5
    obtain ⟨x3_1, x4_1, x5_1, rfl, rfl, HA, HK1, HO_3, HO_287005, BK286, HB⟩ := hrel
    cases gk with
    | zero => exact absurd HA.out (by simp [graftref2_Guard.l0])
    | succ k1 =>
      have H := HA.out
      clear HA
      simp only [graftref2_Guard.l0] at H
      have H' := Aside0.mk H
      clear H
      go_wp2
      go_loopg [4, 6, 7] k1 (fun kq v4 v6 v7 w' => ∃ (x4_2 : Int) (x6_2 : List (S40)) (x7_2 : Int), v4 = .int .i64 x4_2 ∧ v7 = .int .i64 x7_2 ∧ Aside0 (graftref2_Guard.l1 kq x3_1 x4_2 x5_1 x6_2 x7_2 = some r) ∧ Aside0 (kq ≤ k1) ∧ Aside0 (Kd.N k40 40 w' w.heap.size (fun k_ => (P0_5_ k_ ∨ w.heap.size ≤ k_) ∧ some k_ ≠ (v6 : Value).ownBlock ∧ k_ ≠ gb286) u3 x3_1) ∧ Aside0 (Kd.N k40 40 w' w.heap.size (fun k_ => (P0_5_ k_ ∨ w.heap.size ≤ k_) ∧ some k_ ≠ (u3 : Value).ownBlock ∧ k_ ≠ gb286) v6 x6_2) ∧ Aside0 (Kd.V k40 40 w' w.heap.size (fun k_ => (P0_5_ k_ ∨ w.heap.size ≤ k_) ∧ some k_ ≠ (u3 : Value).ownBlock ∧ some k_ ≠ (v6 : Value).ownBlock ∧ k_ ≠ gb286) (.slice A0_5 l0_5.length c0_5) l0_5) ∧ Aside0 (w'.heap[gb286]? = some (.cells #[.int .i64 a0_0, .int .i64 a0_1, .int .i64 a0_2, .int .i64 a0_3, .int .i64 a0_4, (.slice A0_5 l0_5.length c0_5)] 40 (0, 0))) ∧ Aside0 (Below w.heap.size w w'))
      case atStart => exact ⟨(x4_1), (([] : List (S40))), (0), (by first | rfl | (simp; done) | (simp [*]; done)), (by first | rfl | (simp; done) | (simp [*]; done)), H', ⟨Nat.le_refl _⟩, ⟨by (with_reducible repeat (first | apply Kd.N_alloc | apply Kd.N_drewN | apply Kd.N_drew)); exact Kd.N_mono HO_3.out (fun _ hk => ⟨hk.1, ⟨(by simp [Value.ownBlock]), hk.2⟩⟩)⟩, ⟨by first | exact Kd.R_nil _ _ _ _ _ | exact Kd.N_nil _ _ _ _ _ | exact Kd.V_nil _ _ _ _ _ | exact Kd.Q_nil _ _ _ _ _ | exact Kd.S_nil _ _ _ _ _⟩, ⟨by (with_reducible repeat (first | apply Kd.V_alloc | apply Kd.V_drewN | apply Kd.V_drew)); exact Kd.V_mono HO_287005.out (fun _ hk => ⟨hk.1, ⟨hk.2.1, ⟨(by simp [Value.ownBlock]), hk.2.2⟩⟩⟩)⟩, ⟨by (with_reducible repeat (first | refine blk_drewN ?_ _ | refine blk_drew ?_ | refine blk_alloc ?_ _)); exact BK286.out⟩, ⟨by repeat (first | (with_reducible first | exact HB.out | apply below_alloc | apply pw_below_drewN | apply below_drew1 | refine below_set ?_ GE286.out) | exact HB.out)⟩⟩
      case round =>
        clear H'
        try clear c1
        try clear p2
        try clear hcz3_0
        try clear hcz3_1
        try clear hcz3_2
        try clear hcz3_3
        try clear hcz3_4
        try clear hcz3_5
        try clear hfz3_0
        try clear hfz3_1
        try clear hfz3_2
        try clear hfz3_3
        try clear hfz3_4
        try clear hfz3_5
        try clear p2
        obtain ⟨x4_2, x6_2, x7_2, rfl, rfl, HA, HK2, HO_3, HO_6, HO_287005, BK286, HB⟩ := hrel
        cases gk with
        | zero => exact absurd HA.out (by simp [graftref2_Guard.l1])
        | succ k2 =>
          have H := HA.out
          clear HA
          simp only [graftref2_Guard.l1] at H
          by_cases c6 : x7_2 < (x3_1.length : Int)
          · rw [if_pos c6] at H
            have c6b0 : decide (x7_2 < (x3_1.length : Int)) = true := decide_eq_true c6
            clear c6
            by_cases c7 : 0 ≤ x7_2
            · rw [if_pos c7] at H
              have c7b0 : decide (0 ≤ x7_2) = true := decide_eq_true c7
              clear c7
              by_cases c8 : (wrap64 (x4_2 + (((rd_T40 x3_1 x7_2).f5).length : Int))) > 4096
              · rw [if_pos c8] at H
                have c8b0 : decide (4096 < (wrap64 (x4_2 + (((rd_T40 x3_1 x7_2).f5).length : Int)))) = true := decide_eq_true c8
                clear c8
                obtain rfl := Option.some.inj H
                obtain ⟨Ao9, co9, eo9⟩ := Kd.N_slice HO_3.out
                subst eo9
                have p290 : 0 ≤ (x7_2 : Int) := of_decide_eq_true (by first | (with_reducible assumption) | assumption)
                have q290 : x7_2 < (x3_1.length : Int) := of_decide_eq_true (by first | (with_reducible assumption) | assumption)
                obtain ⟨ad290, A290_5, c290_5, e290, hx290_0, hx290_1, hx290_2, hx290_3, hx290_4, hx290_5, hl290_5, hi290_5⟩ := at_T40 (Kd.N_reads' HO_3.out).2.2 x7_2 p290 q290
                cases e290
                obtain ⟨ce290, hce290, hMe290, hcc290⟩ := Kd.N_get HO_3.out z40 x7_2 p290 (by first | exact q290 | exact of_decide_eq_true (by first | (with_reducible assumption) | assumption) | (have e_ := (Kd.N_reads' HO_3.out).1; omega))
                obtain ⟨ua290_5, uc290_5, rfl, ul290_5, ge290_5⟩ := k40_openF hMe290
                have hv290_5 := hcc290 5 _ rfl
                rw [add_field _ _ 5 (by omega)] at hv290_5
                replace hv290_5 := Option.some.inj (hv290_5.symm.trans hx290_5)
                injection hv290_5 with hva_ hvn_ hvc_
                rw [hva_] at ge290_5
                rw [hvc_] at ul290_5
                have HL290_5 := Aside0.mk (show Kd.V k40 40 _ w.heap.size _ _ ((rd_T40 x3_1 x7_2).f5) from Kd.V_mk ul290_5 ge290_5)
                clear hva_ hvn_ hvc_ ge290_5 ul290_5
                clear hcc290 hce290
                have HR290_5 := Aside0.mk hi290_5
                have HC290_5 := Aside0.mk hl290_5
                clear hi290_5 hl290_5
                replace p290 := eq_true p290
                replace q290 := eq_true q290
                go_wp2
                go_ret
                exact ⟨by first | rfl | (simp [errW_none, errW_some] <;> rfl) | (simp [*, errW_none, errW_some] <;> rfl), by repeat (first | (with_reducible first | exact HB.out | apply below_alloc | apply pw_below_drewN | apply below_drew1 | refine below_set ?_ GE286.out) | exact HB.out)⟩
              · rw [if_neg c8] at H
                have c8b0 : decide (4096 < (wrap64 (x4_2 + (((rd_T40 x3_1 x7_2).f5).length : Int)))) = false := decide_eq_false c8
                clear c8
                by_cases c10 : x6_2.length + ((rd_T40 x3_1 x7_2).f5).length < 2199023255552
                · rw [if_pos c10] at H
                  have LMc10 := Aside0.mk c10
                  clear c10
                  obtain ⟨y292, hy292⟩ : ∃ y_ : List (S40), y_ = (x6_2 ++ ((rd_T40 x3_1 x7_2).f5)) := ⟨_, rfl⟩
                  replace H : (graftref2_Guard.l1 k2 x3_1 (wrap64 (x4_2 + (((rd_T40 x3_1 x7_2).f5).length : Int))) x5_1 y292 (wrap64 (x7_2 + 1))) = some r := by first | (rw [hy292]; with_reducible exact H) | (have H2_ := (Option.bind_some _ _).symm.trans H; rw [hy292]; with_reducible exact H2_) | (have H2_ := (Option.bind_some _ _).symm.trans H; with_reducible exact H2_) | with_reducible exact H | (rw [hy292]; exact H) | exact H
                  have Ny292 := Aside0.mk hy292
                  clear hy292
                  have H' := Aside0.mk H
                  clear H
                  obtain ⟨Ao11, co11, eo11⟩ := Kd.N_slice HO_3.out
                  subst eo11
                  have p290 : 0 ≤ (x7_2 : Int) := of_decide_eq_true (by first | (with_reducible assumption) | assumption)
                  have q290 : x7_2 < (x3_1.length : Int) := of_decide_eq_true (by first | (with_reducible assumption) | assumption)
                  obtain ⟨ad290, A290_5, c290_5, e290, hx290_0, hx290_1, hx290_2, hx290_3, hx290_4, hx290_5, hl290_5, hi290_5⟩ := at_T40 (Kd.N_reads' HO_3.out).2.2 x7_2 p290 q290
                  cases e290
                  obtain ⟨ce290, hce290, hMe290, hcc290⟩ := Kd.N_get HO_3.out z40 x7_2 p290 (by first | exact q290 | exact of_decide_eq_true (by first | (with_reducible assumption) | assumption) | (have e_ := (Kd.N_reads' HO_3.out).1; omega))
                  obtain ⟨ua290_5, uc290_5, rfl, ul290_5, ge290_5⟩ := k40_openF hMe290
                  have hv290_5 := hcc290 5 _ rfl
                  rw [add_field _ _ 5 (by omega)] at hv290_5
                  replace hv290_5 := Option.some.inj (hv290_5.symm.trans hx290_5)
                  injection hv290_5 with hva_ hvn_ hvc_
                  rw [hva_] at ge290_5
                  rw [hvc_] at ul290_5
                  have HL290_5 := Aside0.mk (show Kd.V k40 40 _ w.heap.size _ _ ((rd_T40 x3_1 x7_2).f5) from Kd.V_mk ul290_5 ge290_5)
                  clear hva_ hvn_ hvc_ ge290_5 ul290_5
                  clear hcc290 hce290
                  have HR290_5 := Aside0.mk hi290_5
                  have HC290_5 := Aside0.mk hl290_5
                  clear hi290_5 hl290_5
                  replace p290 := eq_true p290
                  replace q290 := eq_true q290
                  have p291 : 0 ≤ (x7_2 : Int) := of_decide_eq_true (by first | (with_reducible assumption) | assumption)
                  have q291 : x7_2 < (x3_1.length : Int) := of_decide_eq_true (by first | (with_reducible assumption) | assumption)
                  obtain ⟨ad291, A291_5, c291_5, e291, hx291_0, hx291_1, hx291_2, hx291_3, hx291_4, hx291_5, hl291_5, hi291_5⟩ := at_T40 (Kd.N_reads' HO_3.out).2.2 x7_2 p291 q291
                  obtain rfl : ad290 = ad291 := (by injection e291)
                  obtain ⟨ce291, hce291, hMe291, hcc291⟩ := Kd.N_get HO_3.out z40 x7_2 p291 (by first | exact q291 | exact of_decide_eq_true (by first | (with_reducible assumption) | assumption) | (have e_ := (Kd.N_reads' HO_3.out).1; omega))
                  obtain ⟨ua291_5, uc291_5, rfl, ul291_5, ge291_5⟩ := k40_openF hMe291
                  have hv291_5 := hcc291 5 _ rfl
                  rw [add_field _ _ 5 (by omega)] at hv291_5
                  replace hv291_5 := Option.some.inj (hv291_5.symm.trans hx291_5)
                  injection hv291_5 with hva_ hvn_ hvc_
                  rw [hva_] at ge291_5
                  rw [hvc_] at ul291_5
                  have HL291_5 := Aside0.mk (show Kd.V k40 40 _ w.heap.size _ _ ((rd_T40 x3_1 x7_2).f5) from Kd.V_mk ul291_5 ge291_5)
                  clear hva_ hvn_ hvc_ ge291_5 ul291_5
                  clear hcc291 hce291
                  have HR291_5 := Aside0.mk hi291_5
                  have HC291_5 := Aside0.mk hl291_5
                  clear hi291_5 hl291_5
                  replace p291 := eq_true p291
                  replace q291 := eq_true q291
                  have ea_ := Option.some.inj (hx290_5.symm.trans hx291_5)
                  injection ea_ with ea_ en_ ec_
                  subst ea_
                  subst ec_
                  clear en_
                  go_wp2_with (first | ((with_reducible refine gate_builtin (b := .append) (xs := #[.tmp 26, .tmp 31]) rfl ?_); at_builtin; refine Kd.N_append_rows k40 (w0 := w) w.heap.size rfl (.tmp 26) (.tmp 31) 38 40 (.agg #[(.int .i64 0), (.int .i64 0), (.int .i64 0), (.int .i64 0), (.int .i64 0), (.slice none 0 0)]) 64 rfl Tryz.underlying38 info40 rfl (by decide) (by omega) u6 x6_2 ((rd_T40 x3_1 x7_2).f5) _ _ _ (fun k_ => (P0_5_ k_ ∨ w.heap.size ≤ k_) ∧ some k_ ≠ (.slice (some ad290) x3_1.length co11 : Value).ownBlock ∧ k_ ≠ gb286) (fun k_ => ((fun k_ => (P0_5_ k_ ∨ w.heap.size ≤ k_) ∧ some k_ ≠ (.slice (some ad290) x3_1.length co11 : Value).ownBlock ∧ k_ ≠ gb286)) k_ ∧ some k_ ≠ (u6 : Value).ownBlock) rfl rfl ?aO ?aR (fun _ hk => hk) ?aF ?aB ?aS ?aL ?_; (case aR => exact (by skip; exact Kd.V_F (Kd.V_mono (ok' := (fun k_ => ((fun k_ => (P0_5_ k_ ∨ w.heap.size ≤ k_) ∧ some k_ ≠ (.slice (some ad290) x3_1.length co11 : Value).ownBlock ∧ k_ ≠ gb286)) k_ ∧ some k_ ≠ (u6 : Value).ownBlock)) (HL291_5.out) (fun k_ hk => ⟨⟨hk.1.1, ⟨hk.2, hk.1.2.2⟩⟩, hk.1.2.1⟩)))); (case aB => exact (by repeat (first | (with_reducible first | exact HB.out | apply below_alloc | apply pw_below_drewN | apply below_drew1 | refine below_set ?_ GE286.out) | exact HB.out))); (case aF => exact (fun k_ hk => ⟨(.inr (Nat.le_trans (below_size (by repeat (first | (with_reducible first | exact HB.out | apply below_alloc | apply pw_below_drewN | apply below_drew1 | refine below_set ?_ GE286.out) | exact HB.out))) hk)), Kd.fresh' (Kd.N_lt (by (with_reducible repeat (first | apply Kd.N_alloc | apply Kd.N_drewN | apply Kd.N_drew)); exact HO_3.out)) k_ hk, Kd.freshB (g := gb286) (o := .cells #[.int .i64 a0_0, .int .i64 a0_1, .int .i64 a0_2, .int .i64 a0_3, .int .i64 a0_4, .slice A0_5 l0_5.length c0_5] 40 (0, 0)) (by (with_reducible repeat (first | refine blk_drewN ?_ _ | refine blk_drew ?_ | refine blk_alloc ?_ _)); exact BK286.out) k_ hk⟩)); (case aO => exact (by (with_reducible repeat (first | apply Kd.N_alloc | apply Kd.N_drewN | apply Kd.N_drew)); exact HO_6.out)); (case aS => exact (below_size (by repeat (first | (with_reducible first | exact HB.out | apply below_alloc | apply pw_below_drewN | apply below_drew1 | refine below_set ?_ GE286.out) | exact HB.out)))); (case aL => have := LMc10.out; omega); intro v293 w12 ho hb hg hat; rw [← Ny292.out] at ho; have n0_ := Aside0.mk (Kd.N_afterv (ok := (fun k_ => (P0_5_ k_ ∨ w.heap.size ≤ k_) ∧ k_ ≠ gb286)) (by (with_reducible repeat (first | apply Kd.N_alloc | apply Kd.N_drewN | apply Kd.N_drew)); exact Kd.N_mono HO_3.out (fun _ hk => ⟨⟨hk.1, hk.2.2⟩, hk.2.1⟩)) hg hat); have n1_ := Aside0.mk (Kd.V_afterv (ok := (fun k_ => (P0_5_ k_ ∨ w.heap.size ≤ k_) ∧ some k_ ≠ (.slice (some ad290) x3_1.length co11 : Value).ownBlock ∧ k_ ≠ gb286)) (by (with_reducible repeat (first | apply Kd.V_alloc | apply Kd.V_drewN | apply Kd.V_drew)); exact Kd.V_mono HO_287005.out (fun _ hk => ⟨⟨hk.1, ⟨hk.2.1, hk.2.2.2⟩⟩, hk.2.2.1⟩)) hg hat); have n2_ := Aside0.mk (blk_grown (g := gb286) (o := .cells #[.int .i64 a0_0, .int .i64 a0_1, .int .i64 a0_2, .int .i64 a0_3, .int .i64 a0_4, .slice A0_5 l0_5.length c0_5] 40 (0, 0)) (by (with_reducible repeat (first | refine blk_drewN ?_ _ | refine blk_drew ?_ | refine blk_alloc ?_ _)); exact BK286.out) hg (Kd.N_away HO_6.out (fun _ hk => hk.2.2))); have n3_ := Aside0.mk (Kd.V_afterv (ok := (fun k_ => (P0_5_ k_ ∨ w.heap.size ≤ k_) ∧ some k_ ≠ (.slice (some ad290) x3_1.length co11 : Value).ownBlock ∧ k_ ≠ gb286)) (by (with_reducible repeat (first | apply Kd.V_alloc | apply Kd.V_drewN | apply Kd.V_drew)); exact Kd.V_mono HL290_5.out (fun _ hk => ⟨⟨hk.1.1, ⟨hk.2, hk.1.2.2⟩⟩, hk.1.2.1⟩)) hg hat); have n4_ := Aside0.mk (Kd.V_afterv (ok := (fun k_ => (P0_5_ k_ ∨ w.heap.size ≤ k_) ∧ some k_ ≠ (.slice (some ad290) x3_1.length co11 : Value).ownBlock ∧ k_ ≠ gb286)) (by (with_reducible repeat (first | apply Kd.V_alloc | apply Kd.V_drewN | apply Kd.V_drew)); exact Kd.V_mono HL291_5.out (fun _ hk => ⟨⟨hk.1.1, ⟨hk.2, hk.1.2.2⟩⟩, hk.1.2.1⟩)) hg hat); have n5_ := Aside0.mk (hb); have n6_ := Aside0.mk (ho); clear HO_3; clear HO_287005; clear BK286; clear HL290_5; clear HL291_5; clear HB; clear HO_6; have HO_3 := n0_; have HO_287005 := n1_; have BK286 := n2_; have HL290_5 := n3_; have HL291_5 := n4_; have HB := n5_; have HO294 := n6_; clear n0_ n1_ n2_ n3_ n4_ n5_ n6_; clear ho hb hg hat))
                  go_roundg k2
                  case measure => have := HK1.out; have := HK2.out; omega
                  case rel => exact ⟨(wrap64 (x4_2 + (((rd_T40 x3_1 x7_2).f5).length : Int))), (y292), (wrap64 (x7_2 + 1)), (by first | rfl | (simp; done) | (simp [*]; done)), (by first | rfl | (simp; done) | (simp [*]; done)), H', ⟨by have := HK1.out; have := HK2.out; omega⟩, ⟨by (with_reducible repeat (first | apply Kd.N_alloc | apply Kd.N_drewN | apply Kd.N_drew)); exact Kd.N_mono HO_3.out (fun _ hk => ⟨hk.1.1, ⟨hk.2, hk.1.2⟩⟩)⟩, ⟨by (with_reducible repeat (first | apply Kd.N_alloc | apply Kd.N_drewN | apply Kd.N_drew)); exact HO294.out⟩, ⟨by (with_reducible repeat (first | apply Kd.V_alloc | apply Kd.V_drewN | apply Kd.V_drew)); exact Kd.V_mono HO_287005.out (fun _ hk => ⟨hk.1.1, ⟨hk.1.2.1, ⟨hk.2, hk.1.2.2⟩⟩⟩)⟩, ⟨by (with_reducible repeat (first | refine blk_drewN ?_ _ | refine blk_drew ?_ | refine blk_alloc ?_ _)); exact BK286.out⟩, ⟨by repeat (first | (with_reducible first | exact HB.out | apply below_alloc | apply pw_below_drewN | apply below_drew1 | refine below_set ?_ GE286.out) | exact HB.out)⟩⟩
                · rw [if_neg c10] at H
                  exact absurd H (by simp)
            · rw [if_neg c7] at H
              exact absurd H (by simp)
          · rw [if_neg c6] at H
            have c6b0 : decide (x7_2 < (x3_1.length : Int)) = false := decide_eq_false c6
            clear c6
            by_cases c13 : (x6_2.length : Int) = 0
            · rw [if_pos c13] at H
              have c13b0 : ((x6_2.length : Int) == 0) = true := beq_iff_eq.mpr c13
              have c13b1 : ((x6_2.length : Int) != 0) = false := bne_eq_false_iff_eq.mpr c13
              clear c13
              by_cases c14 : x5_1 > 64
              · rw [if_pos c14] at H
                have c14b0 : decide (64 < x5_1) = true := decide_eq_true c14
                clear c14
                obtain rfl := Option.some.inj H
                obtain ⟨Ao15, co15, eo15⟩ := Kd.N_slice HO_3.out
                subst eo15
                obtain ⟨Ao16, co16, eo16⟩ := Kd.N_slice HO_6.out
                subst eo16
                go_wp2
                go_ret
                exact ⟨by first | rfl | (simp [errW_none, errW_some] <;> rfl) | (simp [*, errW_none, errW_some] <;> rfl), by repeat (first | (with_reducible first | exact HB.out | apply below_alloc | apply pw_below_drewN | apply below_drew1 | refine below_set ?_ GE286.out) | exact HB.out)⟩
              · rw [if_neg c14] at H
                have c14b0 : decide (64 < x5_1) = false := decide_eq_false c14
                clear c14
                obtain rfl := Option.some.inj H
                obtain ⟨Ao17, co17, eo17⟩ := Kd.N_slice HO_3.out
                subst eo17
                obtain ⟨Ao18, co18, eo18⟩ := Kd.N_slice HO_6.out
                subst eo18
                go_wp2
                go_ret
                exact ⟨by first | rfl | (simp [errW_none, errW_some] <;> rfl) | (simp [*, errW_none, errW_some] <;> rfl), by repeat (first | (with_reducible first | exact HB.out | apply below_alloc | apply pw_below_drewN | apply below_drew1 | refine below_set ?_ GE286.out) | exact HB.out)⟩
            · rw [if_neg c13] at H
              have c13b0 : ((x6_2.length : Int) == 0) = false := beq_eq_false_iff_ne.mpr c13
              have c13b1 : ((x6_2.length : Int) != 0) = true := bne_iff_ne.mpr c13
              have c13b2 : ¬ (x6_2 = []) := fun h_ => c13 (by rw [h_]; rfl)
              have H' := Aside0.mk H
              clear H
              obtain ⟨Ao19, co19, eo19⟩ := Kd.N_slice HO_3.out
              subst eo19
              obtain ⟨Ao20, co20, eo20⟩ := Kd.N_slice HO_6.out
              subst eo20
              go_wp2
              go_roundg k2
              case measure => have := HK1.out; have := HK2.out; omega
              case rel => exact ⟨(x6_2), (x4_2), (wrap64 (x5_1 + 1)), (by first | rfl | (simp; done) | (simp [*]; done)), (by first | rfl | (simp; done) | (simp [*]; done)), H', ⟨by have := HK1.out; have := HK2.out; omega⟩, ⟨by (with_reducible repeat (first | apply Kd.N_alloc | apply Kd.N_drewN | apply Kd.N_drew)); exact Kd.N_mono HO_6.out (fun _ hk => ⟨hk.1, hk.2.2⟩)⟩, ⟨by (with_reducible repeat (first | apply Kd.V_alloc | apply Kd.V_drewN | apply Kd.V_drew)); exact Kd.V_mono HO_287005.out (fun _ hk => ⟨hk.1, ⟨hk.2.2.1, hk.2.2.2⟩⟩)⟩, ⟨by (with_reducible repeat (first | refine blk_drewN ?_ _ | refine blk_drew ?_ | refine blk_alloc ?_ _)); exact BK286.out⟩, ⟨by repeat (first | (with_reducible first | exact HB.out | apply below_alloc | apply pw_below_drewN | apply below_drew1 | refine below_set ?_ GE286.out) | exact HB.out)⟩⟩
end Go.Proofs.YtpnkifincadakaaGreatDoor.PPackSpecs
end
section
namespace Go.Pk
open Go.RowKit Go.Proofs.YtpnkifincadakaaGreatDoorW.PrintWords Go.Proofs.YtpnkifincadakaaGreatDoor.PPackSpecs
mutual
/-- No list is longer than memory. -/
def limE : S40 → Prop | ⟨_, _, _, _, _, l⟩ => l.length ≤ 140737488355328 ∧ limL l
def limL : List S40 → Prop | [] => True | x :: r => limE x ∧ limL r
end
theorem limE_eq (e : S40) : limE e = (e.f5.length ≤ 140737488355328 ∧ limL e.f5) := by cases e; simp [limE]
theorem limL_mem : ∀ {l : List S40} {x : S40}, limL l → x ∈ l → limE x
  | y :: r, x, h, hm => by
    simp only [limL] at h
    rcases List.mem_cons.1 hm with rfl | hm
    · exact h.1
    · exact limL_mem h.2 hm
theorem limL_append : ∀ {a b : List S40}, limL a → limL b → limL (a ++ b)
  | [], b, _, h => h
  | x :: a, b, h, k => by simp only [limL] at h; simp only [List.cons_append, limL]; exact ⟨h.1, limL_append h.2 k⟩
theorem limL_kids : ∀ {l : List S40}, limL l → limL (kids l)
  | [], _ => by simp [kids, limL]
  | x :: r, h => by
    simp only [limL] at h
    rw [limE_eq] at h
    have := limL_kids h.2
    simp only [kids, List.flatMap_cons]
    exact limL_append h.1.2 this
theorem kids_snoc {l : List S40} {i : Nat} (h : i < l.length) : kids (l.take (i + 1)) = kids (l.take i) ++ l[i].f5 := by
  unfold kids
  rw [List.take_succ_eq_append_getElem h, List.flatMap_append]
  simp
theorem kids_le {l : List S40} (i : Nat) : (kids (l.take i)).length ≤ (kids l).length := by
  unfold kids
  conv => rhs; rw [← List.take_append_drop i l]
  rw [List.flatMap_append, List.length_append]
  omega
theorem guard_level (n : Nat) : ∀ (l : List S40) (c : Int) (d k : Nat), sizeL l ≤ n → l ≠ [] → 3 * sizeL l + 3 ≤ k → limL l → 1 ≤ c → c ≤ 4096 → l.length ≤ c → d ≤ c →
    graftref2_Guard.l0 k l c d = some (if 4096 < c + sizeL (kids l) then 2 else if 64 < d + depL (kids l) then 5 else 0) := by
  induction n with
  | zero => intro l c d k hn hne; have := length_le_sizeL l; have : l.length ≠ 0 := by simpa using hne
            omega
  | succ n ih =>
    intro l c d k hn hne hk hlim hc0 hc1 hlc hdc
    have hln : 1 ≤ l.length := by have : l.length ≠ 0 := by simpa using hne
                                  omega
    have hsk := sizeL_kids l
    have hloop : ∀ (m i k : Nat), l.length - i = m → i ≤ l.length → (l.length - i) + 3 * sizeL (kids l) + 4 ≤ k → c + (kids (l.take i)).length ≤ 4096 →
        graftref2_Guard.l1 k l (c + (kids (l.take i)).length) d (kids (l.take i)) i = some (if 4096 < c + sizeL (kids l) then 2 else if 64 < d + depL (kids l) then 5 else 0) := by
      intro m
      induction m with
      | zero =>
        intro i k hm hi hk hle
        obtain ⟨k, rfl⟩ : ∃ m, k = m + 1 := ⟨k - 1, by omega⟩
        obtain rfl : i = l.length := by omega
        simp only [graftref2_Guard.l1]
        rw [if_neg (by omega)]
        rw [List.take_length] at hle ⊢
        by_cases he : kids l = []
        · rw [if_pos (by rw [he]; rfl), he]
          have z1 : sizeL ([] : List S40) = 0 := by simp [sizeL]
          have z2 : depL ([] : List S40) = 0 := by simp [depL]
          rw [if_neg (show ¬ (4096 : Int) < c + (sizeL ([] : List S40) : Int) by rw [z1]; omega)]
          by_cases h64 : 64 < d
          · rw [if_pos (by omega), if_pos (by rw [z2]; omega)]
          · rw [if_neg (by omega), if_neg (by rw [z2]; omega)]
        · have hkl := length_le_sizeL (kids l)
          have hkn : (kids l).length ≠ 0 := by simpa using he
          rw [if_neg (by omega), w64 (by omega) (by omega), show ((d : Int) + 1) = ((d + 1 : Nat) : Int) by omega]
          have hsk2 := sizeL_kids (kids l)
          have hdk := depL_kids (kids l) he
          rw [ih (kids l) (c + (kids l).length) (d + 1) k (by omega) he (by omega) (limL_kids hlim) (by omega) hle (by omega) (by omega)]
          rw [show c + ((kids l).length : Int) + (sizeL (kids (kids l)) : Int) = c + (sizeL (kids l) : Int) by omega, show d + 1 + depL (kids (kids l)) = d + depL (kids l) by omega]
      | succ m ihm =>
        intro i k hm hi hk hle
        have hlt : i < l.length := by omega
        obtain ⟨k, rfl⟩ : ∃ m, k = m + 1 := ⟨k - 1, by omega⟩
        have hlx := limL_mem hlim (List.getElem_mem hlt)
        rw [limE_eq] at hlx
        have hks := kids_snoc hlt
        have hkl := kids_le (l := l) (i + 1)
        have hkz := length_le_sizeL (kids l)
        simp only [graftref2_Guard.l1]
        rw [if_pos (by omega), if_pos (by omega), rd40 hlt, w64 (by omega) (by omega)]
        rw [hks, List.length_append] at hkl
        by_cases hbig : c + ((kids (l.take i)).length : Int) + (l[i].f5.length : Int) > 4096
        · rw [if_pos hbig, if_pos (by omega)]
        · rw [if_neg hbig, if_pos (by omega), w64 (by omega) (by omega), ← hks, show ((i : Int) + 1) = ((i + 1 : Nat) : Int) by omega]
          have := ihm (i + 1) k (by omega) (by omega) (by omega) (by rw [hks, List.length_append]; omega)
          rw [← this, hks, List.length_append]
          congr 1
          omega
    obtain ⟨k, rfl⟩ : ∃ m, k = m + 1 := ⟨k - 1, by omega⟩
    simp only [graftref2_Guard.l0]
    have := hloop l.length 0 k (by omega) (by omega) (by omega) (by simp [kids]; omega)
    simpa [kids] using this
theorem guard_any (e : S40) (h : limE e) (k : Nat) (hk : 3 * sizeE e + 3 ≤ k) : graftref2_Guard.f k e.f0 e.f1 e.f2 e.f3 e.f4 e.f5 = some (if 4096 < sizeE e then 2 else if 64 < depE e then 5 else 0) := by
  unfold graftref2_Guard.f
  have hs : sizeL [e] = sizeE e := by simp [sizeL]
  have hk0 : kids [e] = e.f5 := by simp [kids]
  have := guard_level (sizeL [e]) [e] 1 1 k (Nat.le_refl _) (by simp) (by rw [hs]; exact hk) (by simp [limL, h]) (by omega) (by omega) (by simp) (by omega)
  rw [hk0] at this
  rw [show ([(⟨e.f0, e.f1, e.f2, e.f3, e.f4, e.f5⟩ : S40)] : List S40) = [e] by cases e; rfl]
  rw [show (1 : Int) = ((1 : Nat) : Int) by rfl] at this ⊢
  rw [this, sizeE_eq, depE_eq]
  congr 1
  by_cases h1 : 4096 < 1 + sizeL e.f5
  · rw [if_pos (by omega), if_pos h1]
  · rw [if_neg (by omega), if_neg h1]
end Go.Pk
end
section
namespace Go.Pk
open Go.RowKit Go.Proofs.YtpnkifincadakaaGreatDoorW.PrintWords Go.Proofs.YtpnkifincadakaaGreatDoor.PPackSpecs
def symOk (x : S85) (nl nn : Nat) : Bool :=
  if x.f0 = 1 then decide (0 ≤ x.f1 ∧ x.f1 < (nl : Int)) else if x.f0 = 2 then decide (x.f1 = 0) else if x.f0 = 3 then decide (0 ≤ x.f1 ∧ x.f1 < (nn : Int)) else false
def rightLong (l : List S67) : Bool := l.any fun p => decide (16 < p.f1.length)
def lexErr : List S42 → Int
  | [] => 0
  | x :: r => if 64 < x.f0.size then 2 else if chk x.f2 = 0 then lexErr r else chk x.f2
def nameLong (l : List ByteArray) : Bool := l.any fun s => decide (64 < s.size)
def prodBad (nl nn : Nat) (p : S67) : Bool := decide (p.f0 < 0 ∨ (nn : Int) ≤ p.f0) || p.f1.any fun x => !symOk x nl nn
def specErr (lex : List S42) (names : List ByteArray) (start : Int) (prods : List S67) : Int :=
  if 64 < lex.length ∨ 128 < names.length ∨ 512 < prods.length then 2
  else if rightLong prods = true then 2
  else if lexErr lex = 0 then
    if nameLong names = true then 2
    else if start < 0 ∨ (names.length : Int) ≤ start then 70
    else if (prods.any (prodBad lex.length names.length)) = true then 70
    else 0
  else lexErr lex
theorem any_drop {α : Type} (f : α → Bool) {l : List α} {i : Nat} (h : i < l.length) : (l.drop i).any f = (f l[i] || (l.drop (i + 1)).any f) := by
  rw [List.drop_eq_getElem_cons h]; rfl
theorem lexErr_drop {l : List S42} {i : Nat} (h : i < l.length) : lexErr (l.drop i) = if 64 < l[i].f0.size then 2 else if chk l[i].f2 = 0 then lexErr (l.drop (i + 1)) else chk l[i].f2 := by
  rw [List.drop_eq_getElem_cons h]; rfl
end Go.Pk
end
section
namespace Go.Pk
open Go.RowKit Go.Proofs.YtpnkifincadakaaGreatDoorW.PrintWords Go.Proofs.YtpnkifincadakaaGreatDoor.PPackSpecs
theorem rd42 {l : List S42} {i : Nat} (h : i < l.length) : rd_T42 l (i : Int) = l[i] := by
  unfold rd_T42
  rw [Int.toNat_natCast, List.getD_eq_getElem?_getD, List.getElem?_eq_getElem h]
  rfl
theorem rd67 {l : List S67} {i : Nat} (h : i < l.length) : rd_T67 l (i : Int) = l[i] := by
  unfold rd_T67
  rw [Int.toNat_natCast, List.getD_eq_getElem?_getD, List.getElem?_eq_getElem h]
  rfl
theorem i_succ (i : Nat) (h : i < 9223372036854775807) : wrap64 ((i : Int) + 1) = ((i + 1 : Nat) : Int) := by rw [w64 (by omega) (by omega)]; omega
end Go.Pk
end
