/- Proved: part 16 of the proof of PackReads (Al). Conditions: each theorem states its own. -/
import Derived.Test.YtpnkifincadakaaGreatDoorP14
set_option linter.unusedVariables false
set_option linter.unusedSimpArgs false
section
namespace Go.Proofs.YtpnkifincadakaaGreatDoor.Wr
open Go.RowKit Go.Pk Go.Proofs.YtpnkifincadakaaGreatDoorW.PrintWords Go.Proofs.YtpnkifincadakaaGreatDoor.PPackSpecs
set_option maxHeartbeats 16000000 in
set_option maxRecDepth 100000 in
theorem alike_all (n : Nat) : ∀ (x : S40), sizeE x ≤ n → ∀ (A B : Option Addr) (c d : Nat) (w : World), k40.C w A x.f5.length x.f5 → k40.C w B x.f5.length x.f5 →
    Calls Tryz.prog 38 #[.agg #[.int .i64 x.f0, .int .i64 x.f1, .int .i64 x.f2, .int .i64 x.f3, .int .i64 x.f4, .slice A x.f5.length c], .agg #[.int .i64 x.f0, .int .i64 x.f1, .int .i64 x.f2, .int .i64 x.f3, .int .i64 x.f4, .slice B x.f5.length d]] w fun e w' => e = .returned (.bool true) ∧ Below w.heap.size w w' := by
  induction n with
  | zero => intro e h; have := sizeE_pos e; omega
  | succ n ih =>
    intro e hn A B c d w hA hB
    rw [sizeE_eq] at hn
    obtain ⟨x0, x1, x2, x3, x4, l⟩ := e
    dsimp only at hn hA hB ⊢
    have hm := Kd.C_max hA
    have HA := Aside0.mk hA
    have HB := Aside0.mk hB
    have IH := Aside0.mk ih
    have HN := Aside0.mk hn
    clear hA hB ih hn
    have s1 := Box.start w #[.int .i64 x0, .int .i64 x1, .int .i64 x2, .int .i64 x3, .int .i64 x4, .slice A l.length c] 40
    have s2 := Box.start (w.alloc (.cells #[.int .i64 x0, .int .i64 x1, .int .i64 x2, .int .i64 x3, .int .i64 x4, .slice A l.length c] 40)) #[.int .i64 x0, .int .i64 x1, .int .i64 x2, .int .i64 x3, .int .i64 x4, .slice B l.length d] 40
    rw [World.size_alloc] at s2
    have H1 := Aside0.mk (s1.alloc (.cells #[.int .i64 x0, .int .i64 x1, .int .i64 x2, .int .i64 x3, .int .i64 x4, .slice B l.length d] 40))
    have H2 := Aside0.mk s2.2
    clear s1 s2
    go_enter Tryz.func38, Tryz.ntmps38
    go_wp2
    go_loopw [5] (fun i wr => ∃ k : Nat, k ≤ l.length ∧ i = .int .i64 k ∧ Aside0 (Box w w.heap.size #[.int .i64 x0, .int .i64 x1, .int .i64 x2, .int .i64 x3, .int .i64 x4, .slice A l.length c] 40 wr) ∧ Aside0 (wr.heap[w.heap.size + 1]? = some (.cells #[.int .i64 x0, .int .i64 x1, .int .i64 x2, .int .i64 x3, .int .i64 x4, .slice B l.length d] 40 (0, 0)))) (fun i _ => l.length - (intOf i).toNat)
    case atStart => exact ⟨0, Nat.zero_le _, rfl, H1, H2⟩
    case round =>
      obtain ⟨k, hk, rfl, hX, hY⟩ := hrel
      have p5 : wr.cell? ⟨w.heap.size, 5, none⟩ = some (.slice A l.length c) := (hX.out.cell 5).trans rfl
      have q5 : wr.cell? ⟨w.heap.size + 1, 5, none⟩ = some (.slice B l.length d) := (blk_cell hY.out 5).trans rfl
      by_cases hlt : k < l.length
      · obtain ⟨ad, cs, rfl, hK, hc0, hc1⟩ := C_at (Kd.C_below HA.out hX.out.1) k hlt
        obtain ⟨A7, c7, rfl, l7, g7⟩ := k40_open hK
        obtain ⟨bd, cs, rfl, hK', hd0, hd1⟩ := C_at (Kd.C_below HB.out hX.out.1) k hlt
        obtain ⟨B7, d7, rfl, l8, g8⟩ := k40_open hK'
        have a0 : wr.cell? (ad.add (k * 6)) = some (.int .i64 l[k].f0) := hc0 _ rfl
        have a1 : wr.cell? ⟨(ad.add (k * 6)).block, (ad.add (k * 6)).off + 1, none⟩ = some (.int .i64 l[k].f1) := hc1 1 _ (by decide) rfl
        have a2 : wr.cell? ⟨(ad.add (k * 6)).block, (ad.add (k * 6)).off + 2, none⟩ = some (.int .i64 l[k].f2) := hc1 2 _ (by decide) rfl
        have a3 : wr.cell? ⟨(ad.add (k * 6)).block, (ad.add (k * 6)).off + 3, none⟩ = some (.int .i64 l[k].f3) := hc1 3 _ (by decide) rfl
        have a4 : wr.cell? ⟨(ad.add (k * 6)).block, (ad.add (k * 6)).off + 4, none⟩ = some (.int .i64 l[k].f4) := hc1 4 _ (by decide) rfl
        have a5 : wr.cell? ⟨(ad.add (k * 6)).block, (ad.add (k * 6)).off + 5, none⟩ = some (.slice A7 l[k].f5.length c7) := hc1 5 _ (by decide) rfl
        have b0 : wr.cell? (bd.add (k * 6)) = some (.int .i64 l[k].f0) := hd0 _ rfl
        have b1 : wr.cell? ⟨(bd.add (k * 6)).block, (bd.add (k * 6)).off + 1, none⟩ = some (.int .i64 l[k].f1) := hd1 1 _ (by decide) rfl
        have b2 : wr.cell? ⟨(bd.add (k * 6)).block, (bd.add (k * 6)).off + 2, none⟩ = some (.int .i64 l[k].f2) := hd1 2 _ (by decide) rfl
        have b3 : wr.cell? ⟨(bd.add (k * 6)).block, (bd.add (k * 6)).off + 3, none⟩ = some (.int .i64 l[k].f3) := hd1 3 _ (by decide) rfl
        have b4 : wr.cell? ⟨(bd.add (k * 6)).block, (bd.add (k * 6)).off + 4, none⟩ = some (.int .i64 l[k].f4) := hd1 4 _ (by decide) rfl
        have b5 : wr.cell? ⟨(bd.add (k * 6)).block, (bd.add (k * 6)).off + 5, none⟩ = some (.slice B7 l[k].f5.length d7) := hd1 5 _ (by decide) rfl
        have hsz : sizeE l[k] ≤ n := by
          have := mem_size _ _ (List.getElem_mem hlt)
          have := HN.out
          omega
        have HS := Aside0.mk fun w' (hb : Below wr.heap.size wr w') => IH.out l[k] hsz A7 B7 c7 d7 w' (Kd.C_below g7 hb) (Kd.C_below g8 hb)
        have i2 : (k : Int) < (l.length : Int) := by omega
        clear hK hK' hc0 hc1 hd0 hd1 g7 g8 hsz
        generalize l[k] = x at *
        go_wp2_with fail
        go_region_with (go_at_call 38; refine (HS.out _ (below_drew1 (Below.refl _ _))).mono ?_; rintro e w5 ⟨rfl, k5⟩)
        all_goals
          have hX5 := Aside0.mk ((hX.out.then (below_drew1 (Below.refl _ _))).then k5)
          have hY5 := Aside0.mk ((k5.block _ (blk_lt hY.out)).trans hY.out)
          clear k5
          go_wp2
          go_roundw
          case rel => exact ⟨k + 1, by omega, by go_num, hX5, hY5⟩
          case measure => simp [intOf]; omega
      · obtain rfl : k = l.length := by omega
        go_wp2
        go_ret
        exact ⟨rfl, hX.out.1⟩
theorem alike38 (x : S40) (hs : sizeE x ≤ 4500) (A B : Option Addr) (c d : Nat) (w : World) (h : k40.C w A x.f5.length x.f5) (hc : x.f5.length ≤ c) (h' : k40.C w B x.f5.length x.f5) (hd : x.f5.length ≤ d) :
    Calls Tryz.prog 38 #[.agg #[.int .i64 x.f0, .int .i64 x.f1, .int .i64 x.f2, .int .i64 x.f3, .int .i64 x.f4, .slice A x.f5.length c], .agg #[.int .i64 x.f0, .int .i64 x.f1, .int .i64 x.f2, .int .i64 x.f3, .int .i64 x.f4, .slice B x.f5.length d]] w fun e w' => e = .returned (.bool true) ∧ Below w.heap.size w w' :=
  alike_all (sizeE x) x (Nat.le_refl _) A B c d w h h'
end Go.Proofs.YtpnkifincadakaaGreatDoor.Wr
end
