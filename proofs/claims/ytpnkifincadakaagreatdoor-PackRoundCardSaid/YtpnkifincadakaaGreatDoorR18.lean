/- Proved: part 18 of the proof of PackRound (Ps1, PPackSpecsx5). Conditions: each theorem states its own. -/
import Derived.ArgAppend
import Derived.Deep.AppendLies
import Derived.Lib.SlBytesConst
import Derived.Test.YtpnkifincadakaaGreatDoorR14
import Derived.Test.YtpnkifincadakaaGreatDoorR15
import Derived.Test.YtpnkifincadakaaGreatDoorR16
import Derived.Test.YtpnkifincadakaaGreatDoorR17
set_option linter.unusedVariables false
set_option linter.unusedSimpArgs false
section
namespace Go.Pk
open Go.RowKit Go.Proofs.YtpnkifincadakaaGreatDoorW.PrintWords Go.Proofs.YtpnkifincadakaaGreatDoor.PPackSpecs Go.Proofs.YtpnkifincadakaaGreatDoor.Wr
theorem lexErr_zero : ∀ (l : List S42), lexErr l = 0 → ∀ x, x ∈ l → x.f0.size ≤ 64 ∧ sizeE x.f2 ≤ 4096 ∧ rightE x.f2 = true
  | y :: r, h, x, hx => by
    unfold lexErr at h
    by_cases h1 : 64 < y.f0.size
    · rw [if_pos h1] at h; omega
    rw [if_neg h1] at h
    by_cases h2 : chk y.f2 = 0
    · rw [if_pos h2] at h
      rcases List.mem_cons.1 hx with rfl | hx
      · refine ⟨by omega, ?_, ?_⟩
        · unfold chk at h2
          split at h2
          · omega
          · omega
        · cases hg : rightE x.f2 with
          | true => rfl
          | false =>
            exfalso
            unfold chk at h2
            rw [hg, if_pos rfl] at h2
            split at h2
            · omega
            · split at h2 <;> omega
      · exact lexErr_zero r h x hx
    · rw [if_neg h2] at h; exact absurd h h2
theorem any_false {α : Type} {f : α → Bool} {l : List α} (h : ¬ l.any f = true) : ∀ x, x ∈ l → f x = false := fun x hx => by
  cases hf : f x with
  | false => rfl
  | true => exact absurd (List.any_eq_true.2 ⟨x, hx, hf⟩) h
structure Fits (lex : List S42) (names : List ByteArray) (prods : List S67) : Prop where
  l0 : lex.length ≤ 64
  l1 : names.length ≤ 128
  l3 : prods.length ≤ 512
  rl : ∀ p, p ∈ prods → p.f1.length ≤ 16
  ns : ∀ x, x ∈ names → x.size ≤ 64
  lx : ∀ x, x ∈ lex → x.f0.size ≤ 64 ∧ sizeE x.f2 ≤ 4096 ∧ rightE x.f2 = true
theorem spec_fits {lex : List S42} {names : List ByteArray} {start : Int} {prods : List S67} (h : specErr lex names start prods = 0) : Fits lex names prods := by
  unfold specErr at h
  by_cases h1 : 64 < lex.length ∨ 128 < names.length ∨ 512 < prods.length
  · rw [if_pos h1] at h; omega
  rw [if_neg h1] at h
  by_cases h2 : rightLong prods = true
  · rw [if_pos h2] at h; omega
  rw [if_neg h2] at h
  by_cases h3 : lexErr lex = 0
  · rw [if_pos h3] at h
    by_cases h4 : nameLong names = true
    · rw [if_pos h4] at h; omega
    refine ⟨by omega, by omega, by omega, fun p hp => ?_, fun x hx => ?_, lexErr_zero lex h3⟩
    · have := any_false h2 p hp; simpa using this
    · have := any_false h4 x hx; simpa using this
  · rw [if_neg h3] at h; exact absurd h h3
theorem flat_small {α : Type} (f : α → List Int) (m : Nat) : ∀ (l : List α), (∀ x, x ∈ l → (f x).length ≤ m) → (l.flatMap f).length ≤ m * l.length
  | [], _ => by simp
  | x :: r, h => by
    have h1 := h x (List.mem_cons_self ..)
    have h2 := flat_small f m r fun y hy => h y (List.mem_cons_of_mem _ hy)
    rw [List.flatMap_cons, List.length_append, List.length_cons, Nat.mul_add]
    omega
theorem enc_small {lex : List S42} {names : List ByteArray} {prods : List S67} (start : Int) (h : Fits lex names prods) : (encSpec lex names start prods).length + 4 ≤ 67108864 := by
  have h0 := flat_small encRule 20600 lex fun x hx => by
    have hx := h.lx x hx
    have := enc_len.1 x.f2
    unfold encRule encName
    simp only [List.length_append, List.length_cons, List.length_nil, bytesOf_length]
    omega
  have h1 := flat_small encName 65 names fun x hx => by
    have hx := h.ns x hx
    unfold encName
    simp only [List.length_cons, bytesOf_length]
    omega
  have h3 := flat_small encProd 40 prods fun x hx => by
    have hx := h.rl x hx
    have := flat_small encSym 2 x.f1 fun y _ => by unfold encSym; simp
    unfold encProd
    simp only [List.length_append, List.length_cons, List.length_nil]
    omega
  have l0 := h.l0
  have l1 := h.l1
  have l3 := h.l3
  unfold encSpec
  simp only [List.length_append, List.length_cons, List.length_nil, b2, magic]
  have : 20600 * lex.length ≤ 20600 * 64 := Nat.mul_le_mul_left _ l0
  have : 65 * names.length ≤ 65 * 128 := Nat.mul_le_mul_left _ l1
  have : 40 * prods.length ≤ 40 * 512 := Nat.mul_le_mul_left _ l3
  omega
def told (lex : List S42) (names : List ByteArray) (start : Int) (prods : List S67) : List Int := if specErr lex names start prods = 0 then summed (encSpec lex names start prods) else []
theorem told_small (lex : List S42) (names : List ByteArray) (start : Int) (prods : List S67) : (told lex names start prods).length ≤ 67108864 := by
  unfold told
  split
  · rename_i h
    have := enc_small start (spec_fits h)
    unfold summed
    rw [List.length_append]
    simp only [b4, List.length_cons, List.length_nil]
    omega
  · simp
end Go.Pk
namespace Go.Proofs.YtpnkifincadakaaGreatDoor.Wr
open Go.RowKit Go.Pk Go.Proofs.YtpnkifincadakaaGreatDoorW.PrintWords Go.Proofs.YtpnkifincadakaaGreatDoor.PPackSpecs
open Go.Am (TabVar)
theorem F_C {α : Type} {d : Kd α} {w w' : World} {A : Option Addr} {n : Nat} {xs : List α} (h : Fb d w w.heap.size A n xs) (hb : Below w.heap.size w w') : d.C w' A n xs := Kd.C_below (Kd.F_now h) hb
theorem spec8 (lex : List S42) (names : List ByteArray) (start : Int) (prods : List S67) (A0 A1 A3 : Option Addr) (c0 c1 c3 : Nat) (w : World)
    (h0 : Fb k42 w w.heap.size A0 lex.length lex) (h1 : Fb Kd.string w w.heap.size A1 names.length names) (h3 : Fb k67 w w.heap.size A3 prods.length prods) (hT : TabVar w) (hw : 0 < w.heap.size) :
    Calls Tryz.prog 8 #[.agg #[.slice A0 lex.length c0, .slice A1 names.length c1, .int .i64 start, .slice A3 prods.length c3]] w fun e w' => ∃ v, e = .returned (.tuple #[v, .int .i64 (specErr lex names start prods)]) ∧
      Ob w' w.heap.size v (told lex names start prods) ∧ Below w.heap.size w w' := by
  have HR : ∀ w' : World, Below w.heap.size w w' → Calls Tryz.prog 24 #[.agg #[.slice A0 lex.length c0, .slice A1 names.length c1, .int .i64 start, .slice A3 prods.length c3]] w' fun e w'' => e = .returned (.int .i64 (specErr lex names start prods)) ∧ Below w'.heap.size w' w'' :=
    fun w' hb => right_any lex names start prods A0 A1 A3 c0 c1 c3 w' (F_C h0 hb) (F_C h1 hb) (F_C h3 hb)
  by_cases he : specErr lex names start prods = 0
  · have hto : told lex names start prods = summed (encSpec lex names start prods) := by unfold told; rw [if_pos he]
    rw [he] at HR ⊢
    rw [hto]
    exact spec_ok lex names start prods A0 A1 A3 c0 c1 c3 w h0 h1 h3 hT hw (enc_small start (spec_fits he)) HR
  · have hto : told lex names start prods = [] := by unfold told; rw [if_neg he]
    rw [hto]
    refine (spec_err (.slice none 0 0) (.slice none 0 0) (.slice none 0 0) start _ A0 A1 A3 lex.length names.length prods.length c0 c1 c3 w he HR).mono ?_
    rintro e w' ⟨rfl, hb⟩
    exact ⟨_, rfl, own_nil w' w.heap.size 5 1, hb⟩
end Go.Proofs.YtpnkifincadakaaGreatDoor.Wr
end
section
namespace Go.Proofs.YtpnkifincadakaaGreatDoor.PPackSpecs
open Go.RowKit Go.Proofs.YtpnkifincadakaaGreatDoorW.PrintWords Go.Proofs.YtpnkifincadakaaGreatDoorW.PrintLast Go.Proofs.YtpnkifincadakaaGreatDoorW.PrintMore
attribute [local go_sem] max2_int min2_int max_two min_two
mutual
def graftlaw18_count.l0 : Nat → Int → Int → Int → Int → Int → Int → Int → Int → Int → List (S40) → Option (Int × Int)
  | 0, _, _, _, _, _, _, _, _, _, _ => none
  | k + 1, x1, x2, x8, x9, x147000, x147001, x147002, x147003, x147004, x147005 => if x9 < (x147005.length : Int) then (if x2 < 5000 then (if x1 < 100 then (if 0 ≤ x9 then ((graftlaw18_count.f k ((rd_T40 x147005 x9).f0) ((rd_T40 x147005 x9).f1) ((rd_T40 x147005 x9).f2) ((rd_T40 x147005 x9).f3) ((rd_T40 x147005 x9).f4) ((rd_T40 x147005 x9).f5) (wrap64 (x1 + 1)) x2).bind fun bt148 => (graftlaw18_count.l0 k x1 bt148.1 (mx x8 bt148.2) (wrap64 (x9 + 1)) x147000 x147001 x147002 x147003 x147004 x147005)) else (none)) else (some (x2, x8))) else (some (x2, x8))) else (some (x2, x8))
def graftlaw18_count.f : Nat → Int → Int → Int → Int → Int → List (S40) → Int → Int → Option (Int × Int)
  | 0, _, _, _, _, _, _, _, _ => none
  | k + 1, a0_0, a0_1, a0_2, a0_3, a0_4, l0_5, a1, a2 => graftlaw18_count.l0 k a1 (wrap64 (a2 + 1)) a1 0 a0_0 a0_1 a0_2 a0_3 a0_4 l0_5
end
theorem graftlaw18_count.mono_l : ∀ k, (∀ y0 y1 y2 y3 y4 y5 y6 y7, LeO (graftlaw18_count.f k y0 y1 y2 y3 y4 y5 y6 y7) (graftlaw18_count.f (k + 1) y0 y1 y2 y3 y4 y5 y6 y7)) ∧ (∀ y0 y1 y2 y3 y4 y5 y6 y7 y8 y9, LeO (graftlaw18_count.l0 k y0 y1 y2 y3 y4 y5 y6 y7 y8 y9) (graftlaw18_count.l0 (k + 1) y0 y1 y2 y3 y4 y5 y6 y7 y8 y9))
  | 0 => ⟨fun _ _ _ _ _ _ _ _ r h => by simp [graftlaw18_count.f] at h, fun _ _ _ _ _ _ _ _ _ _ r h => by simp [graftlaw18_count.l0] at h⟩
  | k + 1 => by
    obtain ⟨ih0, ih1⟩ := graftlaw18_count.mono_l k
    refine ⟨?_, ?_⟩
    · intro y0 y1 y2 y3 y4 y5 y6 y7
      unfold graftlaw18_count.f
      repeat' first
      | (with_reducible exact ih0 _ _ _ _ _ _ _ _)
      | (with_reducible exact ih1 _ _ _ _ _ _ _ _ _ _)
      | (with_reducible exact LeO.refl _)
      | (with_reducible exact LeO.none _)
      | (with_reducible refine LeO.ite ?_ ?_)
      | (with_reducible refine LeO.bind ?_ (fun _ => ?_))
      | exact ih0 _ _ _ _ _ _ _ _
      | exact ih1 _ _ _ _ _ _ _ _ _ _
      | exact LeO.none _
      | refine LeO.ite ?_ ?_
      | refine LeO.bind ?_ (fun _ => ?_)
    · intro y0 y1 y2 y3 y4 y5 y6 y7 y8 y9
      unfold graftlaw18_count.l0
      repeat' first
      | (with_reducible exact ih0 _ _ _ _ _ _ _ _)
      | (with_reducible exact ih1 _ _ _ _ _ _ _ _ _ _)
      | (with_reducible exact LeO.refl _)
      | (with_reducible exact LeO.none _)
      | (with_reducible refine LeO.ite ?_ ?_)
      | (with_reducible refine LeO.bind ?_ (fun _ => ?_))
      | exact ih0 _ _ _ _ _ _ _ _
      | exact ih1 _ _ _ _ _ _ _ _ _ _
      | exact LeO.none _
      | refine LeO.ite ?_ ?_
      | refine LeO.bind ?_ (fun _ => ?_)
theorem graftlaw18_count.mono : ∀ a0 a1 a2 a3 a4 a5 a6 a7 k, LeO (graftlaw18_count.f k a0 a1 a2 a3 a4 a5 a6 a7) (graftlaw18_count.f (k + 1) a0 a1 a2 a3 a4 a5 a6 a7) := by
  intro a0 a1 a2 a3 a4 a5 a6 a7 k
  obtain ⟨ih0, ih1⟩ := graftlaw18_count.mono_l k
  exact ih0 a0 a1 a2 a3 a4 a5 a6 a7
set_option maxHeartbeats 8000000 in
set_option maxRecDepth 100000 in
theorem graftlaw18_count.calls (k : Nat) : ∀ (a0_0 : Int) (a0_1 : Int) (a0_2 : Int) (a0_3 : Int) (a0_4 : Int) (A0_5 : Option Addr) (c0_5 : Nat) (l0_5 : List (S40)) (a1 : Int) (a2 : Int) (r1 : Int) (r2 : Int) (w : World) (hr0_5 : Kd.C k40 w A0_5 l0_5.length l0_5) (hc0_5 : l0_5.length ≤ c0_5) (h : graftlaw18_count.f k a0_0 a0_1 a0_2 a0_3 a0_4 l0_5 a1 a2 = some (r1, r2)),
    Calls Tryz.prog 74 #[.agg #[.int .i64 a0_0, .int .i64 a0_1, .int .i64 a0_2, .int .i64 a0_3, .int .i64 a0_4, .slice A0_5 l0_5.length c0_5], .int .i64 a1, .int .i64 a2] w fun e w' => e = .returned (.tuple #[.int .i64 r1, .int .i64 r2]) ∧ Below w.heap.size w w' := by
  induction k using Nat.strongRecOn with
  | _ k ih =>
  intro a0_0 a0_1 a0_2 a0_3 a0_4 A0_5 c0_5 l0_5 a1 a2 r1 r2 w hr0_5 hc0_5 h
  cases k with
  | zero => exact absurd h (by simp [graftlaw18_count.f])
  | succ k =>
  simp only [graftlaw18_count.f] at h
  have hu40 := Tryz.underlying40
  have HR0_5 := Aside0.mk hr0_5
  have HC0_5 := Aside0.mk hc0_5
  clear hr0_5 hc0_5
  have HB := Aside0.mk (Below.refl w.heap.size w)
  have H : (graftlaw18_count.l0 k a1 (wrap64 (a2 + 1)) a1 0 a0_0 a0_1 a0_2 a0_3 a0_4 l0_5) = some (r1, r2) := h
  clear h
  have H' := Aside0.mk H
  clear H
  go_enter Tryz.func74, Tryz.ntmps74
  go_wp2_with (first | ((with_reducible refine gate_dst (N := 3) rfl ?_); refine box_event ?hg (N := 3) ?hd (cs := #[.int .i64 a0_0, .int .i64 a0_1, .int .i64 a0_2, .int .i64 a0_3, .int .i64 a0_4, .slice A0_5 l0_5.length c0_5]) (t := 40) ?hr ?_; (case hd => rfl); (case hg => rfl); (case hr => first | (go_simp; done) | (go_simp; rfl)); intro gb146 hg w4 hbox hb; have n0_ := Aside0.mk (below_step (by repeat (first | (with_reducible first | exact HB.out | apply below_alloc | apply pw_below_drewN | apply below_drew1) | exact HB.out)) hb); have n1_ := Aside0.mk (hbox); have n2_ := Aside0.mk ((by rw [hg]; exact (below_size (by repeat (first | (with_reducible first | exact HB.out | apply below_alloc | apply pw_below_drewN | apply below_drew1) | exact HB.out))) : w.heap.size ≤ gb146)); have n3_ := Aside0.mk ((by rw [hg]; exact (below_size (by repeat (first | (with_reducible first | exact HB.out | apply below_alloc | apply pw_below_drewN | apply below_drew1) | exact HB.out))) : w.heap.size ≤ gb146)); clear HB; have HB := n0_; have BK146 := n1_; have GW146 := n2_; have GE146 := n3_; clear n0_ n1_ n2_ n3_; clear hb hbox hg))
  go_loopg [2, 8, 9] k (fun kq v2 v8 v9 w' => ∃ (x2_1 : Int) (x8_1 : Int) (x9_1 : Int), v2 = .int .i64 x2_1 ∧ v8 = .int .i64 x8_1 ∧ v9 = .int .i64 x9_1 ∧ Aside0 (graftlaw18_count.l0 kq a1 x2_1 x8_1 x9_1 a0_0 a0_1 a0_2 a0_3 a0_4 l0_5 = some (r1, r2)) ∧ Aside0 (kq ≤ k) ∧ Aside0 (w'.heap[gb146]? = some (.cells #[.int .i64 a0_0, .int .i64 a0_1, .int .i64 a0_2, .int .i64 a0_3, .int .i64 a0_4, (.slice A0_5 l0_5.length c0_5)] 40 (0, 0))) ∧ Aside0 (Below w.heap.size w w'))
  case atStart => exact ⟨(wrap64 (a2 + 1)), (a1), (0), (by first | rfl | (simp; done) | (simp [*]; done)), (by first | rfl | (simp; done) | (simp [*]; done)), (by first | rfl | (simp; done) | (simp [*]; done)), H', ⟨Nat.le_refl _⟩, ⟨by (with_reducible repeat (first | refine blk_drewN ?_ _ | refine blk_drew ?_ | refine blk_alloc ?_ _)); exact BK146.out⟩, ⟨by repeat (first | (with_reducible first | exact HB.out | apply below_alloc | apply pw_below_drewN | apply below_drew1 | refine below_set ?_ GE146.out) | exact HB.out)⟩⟩
  case round =>
    clear H'
    try clear p2
    obtain ⟨x2_1, x8_1, x9_1, rfl, rfl, rfl, HA, HK1, BK146, HB⟩ := hrel
    cases gk with
    | zero => exact absurd HA.out (by simp [graftlaw18_count.l0])
    | succ k1 =>
      have H := HA.out
      clear HA
      simp only [graftlaw18_count.l0] at H
      by_cases c5 : x9_1 < (l0_5.length : Int)
      · rw [if_pos c5] at H
        have c5b0 : decide (x9_1 < (l0_5.length : Int)) = true := decide_eq_true c5
        clear c5
        by_cases c6 : x2_1 < 5000
        · rw [if_pos c6] at H
          have c6b0 : decide (x2_1 < 5000) = true := decide_eq_true c6
          clear c6
          by_cases c7 : a1 < 100
          · rw [if_pos c7] at H
            have c7b0 : decide (a1 < 100) = true := decide_eq_true c7
            clear c7
            by_cases c8 : 0 ≤ x9_1
            · rw [if_pos c8] at H
              have c8b0 : decide (0 ≤ x9_1) = true := decide_eq_true c8
              clear c8
              replace H := Option.bind_eq_some_iff.mp H
              obtain ⟨⟨t148, t149⟩, A90, H⟩ := H
              replace H : (graftlaw18_count.l0 k1 a1 t148 (mx x8_1 t149) (wrap64 (x9_1 + 1)) a0_0 a0_1 a0_2 a0_3 a0_4 l0_5) = some (r1, r2) := H
              have A9 := Aside0.mk A90
              clear A90
              obtain ⟨ji10, hji10⟩ : ∃ j_ : Int, (mx x8_1 t149) = j_ := ⟨_, rfl⟩
              replace H : (graftlaw18_count.l0 k1 a1 t148 ji10 (wrap64 (x9_1 + 1)) a0_0 a0_1 a0_2 a0_3 a0_4 l0_5) = some (r1, r2) := by first | (rw [hji10] at H; exact H) | (simp only [hji10] at H ⊢; exact H)
              (try rw [hji10] at A9)
              have hji10_ : (if x8_1 < t149 then t149 else x8_1) = ji10 := hji10
              have H' := Aside0.mk H
              clear H
              have hcz11_0 : wr.cell? ⟨gb146, 0, none⟩ = some (.int .i64 a0_0) := (blk_cell BK146.out 0).trans rfl
              have hcz11_1 : wr.cell? ⟨gb146, 1, none⟩ = some (.int .i64 a0_1) := (blk_cell BK146.out 1).trans rfl
              have hcz11_2 : wr.cell? ⟨gb146, 2, none⟩ = some (.int .i64 a0_2) := (blk_cell BK146.out 2).trans rfl
              have hcz11_3 : wr.cell? ⟨gb146, 3, none⟩ = some (.int .i64 a0_3) := (blk_cell BK146.out 3).trans rfl
              have hcz11_4 : wr.cell? ⟨gb146, 4, none⟩ = some (.int .i64 a0_4) := (blk_cell BK146.out 4).trans rfl
              have hcz11_5 : wr.cell? ⟨gb146, 5, none⟩ = some (.slice A0_5 l0_5.length c0_5) := (blk_cell BK146.out 5).trans rfl
              have hfz11_0 := blk_frozen BK146.out 0
              have hfz11_1 := blk_frozen BK146.out 1
              have hfz11_2 := blk_frozen BK146.out 2
              have hfz11_3 := blk_frozen BK146.out 3
              have hfz11_4 := blk_frozen BK146.out 4
              have hfz11_5 := blk_frozen BK146.out 5
              have p147 : 0 ≤ (x9_1 : Int) := of_decide_eq_true (by first | (with_reducible assumption) | assumption)
              have q147 : x9_1 < (l0_5.length : Int) := of_decide_eq_true (by first | (with_reducible assumption) | assumption)
              obtain ⟨ad147, A147_5, c147_5, e147, hx147_0, hx147_1, hx147_2, hx147_3, hx147_4, hx147_5, hl147_5, hi147_5⟩ := at_T40 HR0_5.out x9_1 p147 q147
              cases e147
              replace hx147_0 := (HB.out.cell (World.block_lt_of_cell? w _ hx147_0)).trans hx147_0
              replace hx147_1 := (HB.out.cell (World.block_lt_of_cell? w _ hx147_1)).trans hx147_1
              replace hx147_2 := (HB.out.cell (World.block_lt_of_cell? w _ hx147_2)).trans hx147_2
              replace hx147_3 := (HB.out.cell (World.block_lt_of_cell? w _ hx147_3)).trans hx147_3
              replace hx147_4 := (HB.out.cell (World.block_lt_of_cell? w _ hx147_4)).trans hx147_4
              replace hx147_5 := (HB.out.cell (World.block_lt_of_cell? w _ hx147_5)).trans hx147_5
              have HR147_5 := Aside0.mk hi147_5
              have HC147_5 := Aside0.mk hl147_5
              clear hi147_5 hl147_5
              replace p147 := eq_true p147
              replace q147 := eq_true q147
              go_wp2_with (first | ((with_reducible refine gate_callee (f := 74) rfl ?_); refine goesL_ (some 39) rfl rfl Tryz.func74 (by kernel_rfl) rfl #[.agg #[.int .i64 ((rd_T40 l0_5 x9_1).f0), .int .i64 ((rd_T40 l0_5 x9_1).f1), .int .i64 ((rd_T40 l0_5 x9_1).f2), .int .i64 ((rd_T40 l0_5 x9_1).f3), .int .i64 ((rd_T40 l0_5 x9_1).f4), .slice A147_5 ((rd_T40 l0_5 x9_1).f5).length c147_5], .int .i64 (wrap64 (a1 + 1)), .int .i64 x2_1] rfl (by (try simp only [List.map_toArray, List.map_cons, List.map_nil]); first | done | rfl | (simp only [List.length_drop, List.length_take]; rfl)) ?_; (with_reducible refine (ih k1 (by have := HK1.out; omega) ((rd_T40 l0_5 x9_1).f0) ((rd_T40 l0_5 x9_1).f1) ((rd_T40 l0_5 x9_1).f2) ((rd_T40 l0_5 x9_1).f3) ((rd_T40 l0_5 x9_1).f4) _ _ ((rd_T40 l0_5 x9_1).f5) (wrap64 (a1 + 1)) x2_1 t148 t149 _ ?side1 ?side2 A9.out).mono ?_); (case side1 => repeat (first | exact (Kd.C_below HR147_5.out HB.out) | (with_reducible refine Kd.C_alloc ?_ _) | (with_reducible refine Kd.C_drewN ?_ _) | (with_reducible refine Kd.C_drew ?_))); (case side2 => exact HC147_5.out); rintro e w12 ⟨rfl, hb⟩; refine ⟨_, rfl, ?_⟩; have n0_ := Aside0.mk (blk_below (g := gb146) (o := .cells #[.int .i64 a0_0, .int .i64 a0_1, .int .i64 a0_2, .int .i64 a0_3, .int .i64 a0_4, .slice (some ad147) l0_5.length c0_5] 40 (0, 0)) (by (with_reducible repeat (first | refine blk_drewN ?_ _ | refine blk_drew ?_ | refine blk_alloc ?_ _)); exact BK146.out) hb); have n1_ := Aside0.mk (below_step (by repeat (first | (with_reducible first | exact HB.out | apply below_alloc | apply pw_below_drewN | apply below_drew1 | refine below_set ?_ GE146.out) | exact HB.out)) hb); clear BK146; clear HB; have BK146 := n0_; have HB := n1_; clear n0_ n1_; (try clear hb); (try clear hb2); (try clear hk); (try clear hi)))
              go_roundg k1
              case measure => have := HK1.out; omega
              case rel => exact ⟨(t148), (ji10), (wrap64 (x9_1 + 1)), (by first | rfl | (simp; done) | (simp [*]; done)), (by first | rfl | (simp; done) | (simp only [← hji10] <;> (first | rfl | simp)) | (simp [*]; done)), (by first | rfl | (simp; done) | (simp [*]; done)), H', ⟨by have := HK1.out; omega⟩, ⟨by (with_reducible repeat (first | refine blk_drewN ?_ _ | refine blk_drew ?_ | refine blk_alloc ?_ _)); exact BK146.out⟩, ⟨by repeat (first | (with_reducible first | exact HB.out | apply below_alloc | apply pw_below_drewN | apply below_drew1 | refine below_set ?_ GE146.out) | exact HB.out)⟩⟩
            · rw [if_neg c8] at H
              exact absurd H (by simp)
          · rw [if_neg c7] at H
            have c7b0 : decide (a1 < 100) = false := decide_eq_false c7
            clear c7
            simp only [Option.some.injEq, Prod.mk.injEq] at H
            obtain ⟨rfl, rfl⟩ := H
            have hcz13_0 : wr.cell? ⟨gb146, 0, none⟩ = some (.int .i64 a0_0) := (blk_cell BK146.out 0).trans rfl
            have hcz13_1 : wr.cell? ⟨gb146, 1, none⟩ = some (.int .i64 a0_1) := (blk_cell BK146.out 1).trans rfl
            have hcz13_2 : wr.cell? ⟨gb146, 2, none⟩ = some (.int .i64 a0_2) := (blk_cell BK146.out 2).trans rfl
            have hcz13_3 : wr.cell? ⟨gb146, 3, none⟩ = some (.int .i64 a0_3) := (blk_cell BK146.out 3).trans rfl
            have hcz13_4 : wr.cell? ⟨gb146, 4, none⟩ = some (.int .i64 a0_4) := (blk_cell BK146.out 4).trans rfl
            have hcz13_5 : wr.cell? ⟨gb146, 5, none⟩ = some (.slice A0_5 l0_5.length c0_5) := (blk_cell BK146.out 5).trans rfl
            have hfz13_0 := blk_frozen BK146.out 0
            have hfz13_1 := blk_frozen BK146.out 1
            have hfz13_2 := blk_frozen BK146.out 2
            have hfz13_3 := blk_frozen BK146.out 3
            have hfz13_4 := blk_frozen BK146.out 4
            have hfz13_5 := blk_frozen BK146.out 5
            go_wp2
            go_ret2
            exact ⟨by first | rfl | (simp [errW_none, errW_some] <;> rfl) | (simp [*, errW_none, errW_some] <;> rfl), by repeat (first | (with_reducible first | exact HB.out | apply below_alloc | apply pw_below_drewN | apply below_drew1 | refine below_set ?_ GE146.out) | exact HB.out)⟩
        · rw [if_neg c6] at H
          have c6b0 : decide (x2_1 < 5000) = false := decide_eq_false c6
          clear c6
          simp only [Option.some.injEq, Prod.mk.injEq] at H
          obtain ⟨rfl, rfl⟩ := H
          have hcz14_0 : wr.cell? ⟨gb146, 0, none⟩ = some (.int .i64 a0_0) := (blk_cell BK146.out 0).trans rfl
          have hcz14_1 : wr.cell? ⟨gb146, 1, none⟩ = some (.int .i64 a0_1) := (blk_cell BK146.out 1).trans rfl
          have hcz14_2 : wr.cell? ⟨gb146, 2, none⟩ = some (.int .i64 a0_2) := (blk_cell BK146.out 2).trans rfl
          have hcz14_3 : wr.cell? ⟨gb146, 3, none⟩ = some (.int .i64 a0_3) := (blk_cell BK146.out 3).trans rfl
          have hcz14_4 : wr.cell? ⟨gb146, 4, none⟩ = some (.int .i64 a0_4) := (blk_cell BK146.out 4).trans rfl
          have hcz14_5 : wr.cell? ⟨gb146, 5, none⟩ = some (.slice A0_5 l0_5.length c0_5) := (blk_cell BK146.out 5).trans rfl
          have hfz14_0 := blk_frozen BK146.out 0
          have hfz14_1 := blk_frozen BK146.out 1
          have hfz14_2 := blk_frozen BK146.out 2
          have hfz14_3 := blk_frozen BK146.out 3
          have hfz14_4 := blk_frozen BK146.out 4
          have hfz14_5 := blk_frozen BK146.out 5
          go_wp2
          go_ret2
          exact ⟨by first | rfl | (simp [errW_none, errW_some] <;> rfl) | (simp [*, errW_none, errW_some] <;> rfl), by repeat (first | (with_reducible first | exact HB.out | apply below_alloc | apply pw_below_drewN | apply below_drew1 | refine below_set ?_ GE146.out) | exact HB.out)⟩
      · rw [if_neg c5] at H
        have c5b0 : decide (x9_1 < (l0_5.length : Int)) = false := decide_eq_false c5
        clear c5
        simp only [Option.some.injEq, Prod.mk.injEq] at H
        obtain ⟨rfl, rfl⟩ := H
        have hcz15_0 : wr.cell? ⟨gb146, 0, none⟩ = some (.int .i64 a0_0) := (blk_cell BK146.out 0).trans rfl
        have hcz15_1 : wr.cell? ⟨gb146, 1, none⟩ = some (.int .i64 a0_1) := (blk_cell BK146.out 1).trans rfl
        have hcz15_2 : wr.cell? ⟨gb146, 2, none⟩ = some (.int .i64 a0_2) := (blk_cell BK146.out 2).trans rfl
        have hcz15_3 : wr.cell? ⟨gb146, 3, none⟩ = some (.int .i64 a0_3) := (blk_cell BK146.out 3).trans rfl
        have hcz15_4 : wr.cell? ⟨gb146, 4, none⟩ = some (.int .i64 a0_4) := (blk_cell BK146.out 4).trans rfl
        have hcz15_5 : wr.cell? ⟨gb146, 5, none⟩ = some (.slice A0_5 l0_5.length c0_5) := (blk_cell BK146.out 5).trans rfl
        have hfz15_0 := blk_frozen BK146.out 0
        have hfz15_1 := blk_frozen BK146.out 1
        have hfz15_2 := blk_frozen BK146.out 2
        have hfz15_3 := blk_frozen BK146.out 3
        have hfz15_4 := blk_frozen BK146.out 4
        have hfz15_5 := blk_frozen BK146.out 5
        go_wp2
        go_ret2
        exact ⟨by first | rfl | (simp [errW_none, errW_some] <;> rfl) | (simp [*, errW_none, errW_some] <;> rfl), by repeat (first | (with_reducible first | exact HB.out | apply below_alloc | apply pw_below_drewN | apply below_drew1 | refine below_set ?_ GE146.out) | exact HB.out)⟩
def graftlaw18_small.f (k : Nat) (a0_0 : Int) (a0_1 : Int) (a0_2 : Int) (a0_3 : Int) (a0_4 : Int) (l0_5 : List (S40)) : Option (Bool) := (graftlaw18_count.f k a0_0 a0_1 a0_2 a0_3 a0_4 l0_5 1 0).bind fun bt151 => (if bt151.1 ≤ 4500 then (some (decide (bt151.2 ≤ 90))) else (some false))
theorem graftlaw18_small.mono : ∀ a0 a1 a2 a3 a4 a5 k, LeO (graftlaw18_small.f k a0 a1 a2 a3 a4 a5) (graftlaw18_small.f (k + 1) a0 a1 a2 a3 a4 a5) := by
  intro a0 a1 a2 a3 a4 a5 k
  unfold graftlaw18_small.f
  repeat' first
      | (with_reducible exact graftlaw18_count.mono _ _ _ _ _ _ _ _ _)
      | (with_reducible exact LeO.refl _)
      | (with_reducible exact LeO.none _)
      | (with_reducible refine LeO.ite ?_ ?_)
      | (with_reducible refine LeO.bind ?_ (fun _ => ?_))
      | exact graftlaw18_count.mono _ _ _ _ _ _ _ _ _
      | exact LeO.none _
      | refine LeO.ite ?_ ?_
      | refine LeO.bind ?_ (fun _ => ?_)
set_option maxHeartbeats 8000000 in
set_option maxRecDepth 100000 in
theorem graftlaw18_small.calls (k : Nat) (a0_0 : Int) (a0_1 : Int) (a0_2 : Int) (a0_3 : Int) (a0_4 : Int) (A0_5 : Option Addr) (c0_5 : Nat) (l0_5 : List (S40)) (r : Bool) (w : World) (hr0_5 : Kd.C k40 w A0_5 l0_5.length l0_5) (hc0_5 : l0_5.length ≤ c0_5) (h : graftlaw18_small.f k a0_0 a0_1 a0_2 a0_3 a0_4 l0_5 = some r) :
    Calls Tryz.prog 22 #[.agg #[.int .i64 a0_0, .int .i64 a0_1, .int .i64 a0_2, .int .i64 a0_3, .int .i64 a0_4, .slice A0_5 l0_5.length c0_5]] w fun e w' => e = .returned (.bool r) ∧ Below w.heap.size w w' := by
  have hu40 := Tryz.underlying40
  have HR0_5 := Aside0.mk hr0_5
  have HC0_5 := Aside0.mk hc0_5
  clear hr0_5 hc0_5
  have HB := Aside0.mk (Below.refl w.heap.size w)
  have H : ((graftlaw18_count.f k a0_0 a0_1 a0_2 a0_3 a0_4 l0_5 1 0).bind fun bt151 => (if bt151.1 ≤ 4500 then (some (decide (bt151.2 ≤ 90))) else (some false))) = some r := h
  clear h
  replace H := Option.bind_eq_some_iff.mp H
  obtain ⟨⟨t151, t152⟩, A20, H⟩ := H
  replace H : (if t151 ≤ 4500 then (some (decide (t152 ≤ 90))) else (some false)) = some r := H
  have A2 := Aside0.mk A20
  clear A20
  by_cases c3 : t151 ≤ 4500
  · rw [if_pos c3] at H
    have c3b0 : decide (t151 ≤ 4500) = true := decide_eq_true c3
    clear c3
    obtain rfl := Option.some.inj H
    go_enter Tryz.func22, Tryz.ntmps22
    go_wp2_with (first | ((with_reducible refine gate_dst (N := 1) rfl ?_); refine box_event ?hg (N := 1) ?hd (cs := #[.int .i64 a0_0, .int .i64 a0_1, .int .i64 a0_2, .int .i64 a0_3, .int .i64 a0_4, .slice A0_5 l0_5.length c0_5]) (t := 40) ?hr ?_; (case hd => rfl); (case hg => rfl); (case hr => first | (go_simp; done) | (go_simp; rfl)); intro gb150 hg w4 hbox hb; have n0_ := Aside0.mk (below_step (by repeat (first | (with_reducible first | exact HB.out | apply below_alloc | apply pw_below_drewN | apply below_drew1) | exact HB.out)) hb); have n1_ := Aside0.mk (hbox); have n2_ := Aside0.mk ((by rw [hg]; exact (below_size (by repeat (first | (with_reducible first | exact HB.out | apply below_alloc | apply pw_below_drewN | apply below_drew1) | exact HB.out))) : w.heap.size ≤ gb150)); have n3_ := Aside0.mk ((by rw [hg]; exact (below_size (by repeat (first | (with_reducible first | exact HB.out | apply below_alloc | apply pw_below_drewN | apply below_drew1) | exact HB.out))) : w.heap.size ≤ gb150)); clear HB; have HB := n0_; have BK150 := n1_; have GW150 := n2_; have GE150 := n3_; clear n0_ n1_ n2_ n3_; clear hb hbox hg; have hcz5_0 : w4.cell? ⟨gb150, 0, none⟩ = some (.int .i64 a0_0) := (blk_cell BK150.out 0).trans rfl; have hcz5_1 : w4.cell? ⟨gb150, 1, none⟩ = some (.int .i64 a0_1) := (blk_cell BK150.out 1).trans rfl; have hcz5_2 : w4.cell? ⟨gb150, 2, none⟩ = some (.int .i64 a0_2) := (blk_cell BK150.out 2).trans rfl; have hcz5_3 : w4.cell? ⟨gb150, 3, none⟩ = some (.int .i64 a0_3) := (blk_cell BK150.out 3).trans rfl; have hcz5_4 : w4.cell? ⟨gb150, 4, none⟩ = some (.int .i64 a0_4) := (blk_cell BK150.out 4).trans rfl; have hcz5_5 : w4.cell? ⟨gb150, 5, none⟩ = some (.slice A0_5 l0_5.length c0_5) := (blk_cell BK150.out 5).trans rfl; have hfz5_0 := blk_frozen BK150.out 0; have hfz5_1 := blk_frozen BK150.out 1; have hfz5_2 := blk_frozen BK150.out 2; have hfz5_3 := blk_frozen BK150.out 3; have hfz5_4 := blk_frozen BK150.out 4; have hfz5_5 := blk_frozen BK150.out 5) | ((with_reducible refine gate_callee (f := 74) rfl ?_); refine goesL_ (some 7) rfl rfl Tryz.func74 (by kernel_rfl) rfl #[.agg #[.int .i64 a0_0, .int .i64 a0_1, .int .i64 a0_2, .int .i64 a0_3, .int .i64 a0_4, .slice A0_5 l0_5.length c0_5], .int .i64 1, .int .i64 0] rfl (by (try simp only [List.map_toArray, List.map_cons, List.map_nil]); first | done | rfl | (simp only [List.length_drop, List.length_take]; rfl)) ?_; (with_reducible refine (graftlaw18_count.calls k a0_0 a0_1 a0_2 a0_3 a0_4 _ _ l0_5 1 0 t151 t152 _ ?side1 ?side2 A2.out).mono ?_); (case side1 => repeat (first | exact (Kd.C_below HR0_5.out HB.out) | (with_reducible refine Kd.C_alloc ?_ _) | (with_reducible refine Kd.C_drewN ?_ _) | (with_reducible refine Kd.C_drew ?_))); (case side2 => exact HC0_5.out); rintro e w6 ⟨rfl, hb⟩; refine ⟨_, rfl, ?_⟩; have n0_ := Aside0.mk (blk_below (g := gb150) (o := .cells #[.int .i64 a0_0, .int .i64 a0_1, .int .i64 a0_2, .int .i64 a0_3, .int .i64 a0_4, .slice A0_5 l0_5.length c0_5] 40 (0, 0)) (by (with_reducible repeat (first | refine blk_drewN ?_ _ | refine blk_drew ?_ | refine blk_alloc ?_ _)); exact BK150.out) hb); have n1_ := Aside0.mk (below_step (by repeat (first | (with_reducible first | exact HB.out | apply below_alloc | apply pw_below_drewN | apply below_drew1 | refine below_set ?_ GE150.out) | exact HB.out)) hb); clear BK150; clear HB; have BK150 := n0_; have HB := n1_; clear n0_ n1_; (try clear hb); (try clear hb2); (try clear hk); (try clear hi)))
    go_ret
    exact ⟨by first | rfl | (simp [errW_none, errW_some] <;> rfl) | (simp [*, errW_none, errW_some] <;> rfl), by repeat (first | (with_reducible first | exact HB.out | apply below_alloc | apply pw_below_drewN | apply below_drew1 | refine below_set ?_ GE150.out) | exact HB.out)⟩
  · rw [if_neg c3] at H
    have c3b0 : decide (t151 ≤ 4500) = false := decide_eq_false c3
    clear c3
    obtain rfl := Option.some.inj H
    go_enter Tryz.func22, Tryz.ntmps22
    go_wp2_with (first | ((with_reducible refine gate_dst (N := 1) rfl ?_); refine box_event ?hg (N := 1) ?hd (cs := #[.int .i64 a0_0, .int .i64 a0_1, .int .i64 a0_2, .int .i64 a0_3, .int .i64 a0_4, .slice A0_5 l0_5.length c0_5]) (t := 40) ?hr ?_; (case hd => rfl); (case hg => rfl); (case hr => first | (go_simp; done) | (go_simp; rfl)); intro gb150 hg w7 hbox hb; have n0_ := Aside0.mk (below_step (by repeat (first | (with_reducible first | exact HB.out | apply below_alloc | apply pw_below_drewN | apply below_drew1) | exact HB.out)) hb); have n1_ := Aside0.mk (hbox); have n2_ := Aside0.mk ((by rw [hg]; exact (below_size (by repeat (first | (with_reducible first | exact HB.out | apply below_alloc | apply pw_below_drewN | apply below_drew1) | exact HB.out))) : w.heap.size ≤ gb150)); have n3_ := Aside0.mk ((by rw [hg]; exact (below_size (by repeat (first | (with_reducible first | exact HB.out | apply below_alloc | apply pw_below_drewN | apply below_drew1) | exact HB.out))) : w.heap.size ≤ gb150)); clear HB; have HB := n0_; have BK150 := n1_; have GW150 := n2_; have GE150 := n3_; clear n0_ n1_ n2_ n3_; clear hb hbox hg; have hcz8_0 : w7.cell? ⟨gb150, 0, none⟩ = some (.int .i64 a0_0) := (blk_cell BK150.out 0).trans rfl; have hcz8_1 : w7.cell? ⟨gb150, 1, none⟩ = some (.int .i64 a0_1) := (blk_cell BK150.out 1).trans rfl; have hcz8_2 : w7.cell? ⟨gb150, 2, none⟩ = some (.int .i64 a0_2) := (blk_cell BK150.out 2).trans rfl; have hcz8_3 : w7.cell? ⟨gb150, 3, none⟩ = some (.int .i64 a0_3) := (blk_cell BK150.out 3).trans rfl; have hcz8_4 : w7.cell? ⟨gb150, 4, none⟩ = some (.int .i64 a0_4) := (blk_cell BK150.out 4).trans rfl; have hcz8_5 : w7.cell? ⟨gb150, 5, none⟩ = some (.slice A0_5 l0_5.length c0_5) := (blk_cell BK150.out 5).trans rfl; have hfz8_0 := blk_frozen BK150.out 0; have hfz8_1 := blk_frozen BK150.out 1; have hfz8_2 := blk_frozen BK150.out 2; have hfz8_3 := blk_frozen BK150.out 3; have hfz8_4 := blk_frozen BK150.out 4; have hfz8_5 := blk_frozen BK150.out 5) | ((with_reducible refine gate_callee (f := 74) rfl ?_); refine goesL_ (some 7) rfl rfl Tryz.func74 (by kernel_rfl) rfl #[.agg #[.int .i64 a0_0, .int .i64 a0_1, .int .i64 a0_2, .int .i64 a0_3, .int .i64 a0_4, .slice A0_5 l0_5.length c0_5], .int .i64 1, .int .i64 0] rfl (by (try simp only [List.map_toArray, List.map_cons, List.map_nil]); first | done | rfl | (simp only [List.length_drop, List.length_take]; rfl)) ?_; (with_reducible refine (graftlaw18_count.calls k a0_0 a0_1 a0_2 a0_3 a0_4 _ _ l0_5 1 0 t151 t152 _ ?side1 ?side2 A2.out).mono ?_); (case side1 => repeat (first | exact (Kd.C_below HR0_5.out HB.out) | (with_reducible refine Kd.C_alloc ?_ _) | (with_reducible refine Kd.C_drewN ?_ _) | (with_reducible refine Kd.C_drew ?_))); (case side2 => exact HC0_5.out); rintro e w9 ⟨rfl, hb⟩; refine ⟨_, rfl, ?_⟩; have n0_ := Aside0.mk (blk_below (g := gb150) (o := .cells #[.int .i64 a0_0, .int .i64 a0_1, .int .i64 a0_2, .int .i64 a0_3, .int .i64 a0_4, .slice A0_5 l0_5.length c0_5] 40 (0, 0)) (by (with_reducible repeat (first | refine blk_drewN ?_ _ | refine blk_drew ?_ | refine blk_alloc ?_ _)); exact BK150.out) hb); have n1_ := Aside0.mk (below_step (by repeat (first | (with_reducible first | exact HB.out | apply below_alloc | apply pw_below_drewN | apply below_drew1 | refine below_set ?_ GE150.out) | exact HB.out)) hb); clear BK150; clear HB; have BK150 := n0_; have HB := n1_; clear n0_ n1_; (try clear hb); (try clear hb2); (try clear hk); (try clear hi)))
    go_ret
    exact ⟨by first | rfl | (simp [errW_none, errW_some] <;> rfl) | (simp [*, errW_none, errW_some] <;> rfl), by repeat (first | (with_reducible first | exact HB.out | apply below_alloc | apply pw_below_drewN | apply below_drew1 | refine below_set ?_ GE150.out) | exact HB.out)⟩
end Go.Proofs.YtpnkifincadakaaGreatDoor.PPackSpecs
end
