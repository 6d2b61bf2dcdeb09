/- Proved: part 17 of the proof of PackReads (Ss). Conditions: each theorem states its own. -/
import Derived.BigQuiet
import Derived.Deep.QuietTactic
import Derived.Deep.RegionHeld3
import Derived.Test.YtpnkifincadakaaGreatDoorP14
import Derived.Test.YtpnkifincadakaaGreatDoorP15
import Derived.Test.YtpnkifincadakaaGreatDoorP16
set_option linter.unusedVariables false
set_option linter.unusedSimpArgs false
section
namespace Go.Proofs.YtpnkifincadakaaGreatDoor.Wr
open Go.RowKit Go.Pk Go.Proofs.YtpnkifincadakaaGreatDoorW.PrintWords Go.Proofs.YtpnkifincadakaaGreatDoor.PPackSpecs
structure Two (w : World) (cs ds : Array Value) (wr : World) : Prop where
  below : Below w.heap.size w wr
  fst : wr.heap[w.heap.size]? = some (.cells cs 28 (0, 0))
  snd : wr.heap[w.heap.size + 1]? = some (.cells ds 28 (0, 0))
theorem Two.base {w wr : World} {cs ds : Array Value} (h : Two w cs ds wr) : w.heap.size ≤ wr.heap.size := Nat.le_of_lt (blk_lt h.fst)
theorem Two.start (w : World) (cs ds : Array Value) : Two w cs ds ((w.alloc (.cells cs 28)).alloc (.cells ds 28)) := by
  refine ⟨((Below.refl _ _).alloc (Nat.le_refl _) _).alloc (by simp) _, blk_alloc (blk_new _ _) _, ?_⟩
  have := blk_new (w.alloc (.cells cs 28)) (.cells ds 28)
  rw [World.size_alloc] at this
  exact this
theorem Two.then {w wr w' : World} {cs ds : Array Value} (h : Two w cs ds wr) (k : Below wr.heap.size wr w') : Two w cs ds w' := ⟨h.below.trans (k.mono h.base), (k.block _ (blk_lt h.fst)).trans h.fst, (k.block _ (blk_lt h.snd)).trans h.snd⟩
theorem Two.alloc {w wr : World} {cs ds : Array Value} (h : Two w cs ds wr) (o : Obj) : Two w cs ds (wr.alloc o) := h.then ((Below.refl _ wr).alloc (Nat.le_refl _) o)
theorem Two.fst_at {w wr : World} {cs ds : Array Value} (h : Two w cs ds wr) (j : Nat) (v : Value) (hv : cs[j]? = some v) : wr.cell? ⟨w.heap.size, j, none⟩ = some v := (blk_cell h.fst j).trans hv
theorem Two.snd_at {w wr : World} {cs ds : Array Value} (h : Two w cs ds wr) (j : Nat) (v : Value) (hv : ds[j]? = some v) : wr.cell? ⟨w.heap.size + 1, j, none⟩ = some v := (blk_cell h.snd j).trans hv
theorem small22 (x : S40) (b : Bool) (hb : Ev (fun k => graftlaw18_small.f k x.f0 x.f1 x.f2 x.f3 x.f4 x.f5) b) (A : Option Addr) (c : Nat) (w : World) (h : k40.C w A x.f5.length x.f5) (hc : x.f5.length ≤ c) :
    Calls Tryz.prog 22 #[.agg #[.int .i64 x.f0, .int .i64 x.f1, .int .i64 x.f2, .int .i64 x.f3, .int .i64 x.f4, .slice A x.f5.length c]] w fun e w' => e = .returned (.bool b) ∧ Below w.heap.size w w' := by
  obtain ⟨k, hk⟩ := hb
  exact graftlaw18_small.calls k x.f0 x.f1 x.f2 x.f3 x.f4 A c x.f5 b w h hc (hk k (Nat.le_refl _))
section
variable {P : Program} {ops : Array Oper} {Q : Exit → Act → World → Prop} {S : World → Prop} {i fuel : Nat} {oi : Oper} {v : Value} {listed : Array Bool} {a : Act} {w : World}
theorem tk (hi : ops[i]? = some oi) (hs : Region.noSelect ops = true) (hf : Region.free .any ops listed i = true) (hr : (Region.ready .any ops listed).contains i = true) (hy : Region.wanted oi (yielded ops a.tmps) = true ∧ ∀ w, S w → (execOp a.eval oi).run P w = .ok (.value v) w) (hS : S w)
    (h : wpAnyH P .any ops (NoPanic Q) S fuel (listed.setIfInBounds i true) (a.put oi.dst v) w) : wpAnyH P .any ops (NoPanic Q) S (fuel + 1) listed a w := wpAnyH_take hi hs hf hr (fun _ _ _ h => h) (.inl hy) hS h
theorem sk (hi : ops[i]? = some oi) (hs : Region.noSelect ops = true) (hf : Region.free .any ops listed i = true) (hr : (Region.ready .any ops listed).contains i = true) (hy : Region.wanted oi (yielded ops a.tmps) = false) (hS : S w)
    (h : wpAnyH P .any ops (NoPanic Q) S fuel (listed.setIfInBounds i true) (a.put oi.dst undef) w) : wpAnyH P .any ops (NoPanic Q) S (fuel + 1) listed a w := wpAnyH_take hi hs hf hr (fun _ _ _ h => h) (.inr ⟨hy, rfl⟩) hS h
end
set_option maxHeartbeats 16000000 in
set_option maxRecDepth 100000 in
theorem sameSpec11 (lex : List S42) (names : List ByteArray) (start : Int) (prods : List S67) (A0 A1 A3 B0 B1 B3 : Option Addr) (c0 c1 c3 d0 d1 d3 : Nat) (w : World)
    (ha0 : Kd.C k42 w A0 lex.length lex) (ha1 : Kd.C Kd.string w A1 names.length names) (ha3 : Kd.C k67 w A3 prods.length prods)
    (hb0 : Kd.C k42 w B0 lex.length lex) (hb1 : Kd.C Kd.string w B1 names.length names) (hb3 : Kd.C k67 w B3 prods.length prods) :
    Calls Tryz.prog 11 #[.agg #[.slice A0 lex.length c0, .slice A1 names.length c1, .int .i64 start, .slice A3 prods.length c3], .agg #[.slice B0 lex.length d0, .slice B1 names.length d1, .int .i64 start, .slice B3 prods.length d3]] w
      fun e w' => e = .returned (.bool true) ∧ Below w.heap.size w w' := by
  have hm0 := Kd.C_max ha0
  have hm1 := Kd.C_max ha1
  have hm3 := Kd.C_max ha3
  have HA0 := Aside0.mk ha0
  have HA1 := Aside0.mk ha1
  have HA3 := Aside0.mk ha3
  have HB0 := Aside0.mk hb0
  have HB1 := Aside0.mk hb1
  have HB3 := Aside0.mk hb3
  clear ha0 ha1 ha3 hb0 hb1 hb3
  have HT := Aside0.mk (Two.start w #[.slice A0 lex.length c0, .slice A1 names.length c1, .int .i64 start, .slice A3 prods.length c3] #[.slice B0 lex.length d0, .slice B1 names.length d1, .int .i64 start, .slice B3 prods.length d3])
  go_enter Tryz.func11, Tryz.ntmps11
  go_wp2
  go_loopw [5] (fun i wr => ∃ k : Nat, k ≤ lex.length ∧ i = .int .i64 k ∧ Aside0 (Two w #[.slice A0 lex.length c0, .slice A1 names.length c1, .int .i64 start, .slice A3 prods.length c3] #[.slice B0 lex.length d0, .slice B1 names.length d1, .int .i64 start, .slice B3 prods.length d3] wr)) (fun i _ => lex.length - (intOf i).toNat)
  case atStart => exact ⟨0, Nat.zero_le _, rfl, HT⟩
  case round =>
    obtain ⟨k, hk, rfl, hT⟩ := hrel
    have p0 := hT.out.fst_at 0 (.slice A0 lex.length c0) rfl
    have q0 := hT.out.snd_at 0 (.slice B0 lex.length d0) rfl
    by_cases hlt : k < lex.length
    · obtain ⟨ad, cs, rfl, hK, hc0, hc1⟩ := C_at (Kd.C_below HA0.out hT.out.below) k hlt
      obtain ⟨A7, c7, rfl, l7, g7⟩ := k42_open hK
      obtain ⟨bd, cs, rfl, hK', hc0', hc1'⟩ := C_at (Kd.C_below HB0.out hT.out.below) k hlt
      obtain ⟨B7, d7, rfl, l7', g7'⟩ := k42_open hK'
      have x0 : wr.cell? (ad.add (k * 8)) = some (.string lex[k].f0) := hc0 _ rfl
      have x1 : wr.cell? ⟨(ad.add (k * 8)).block, (ad.add (k * 8)).off + 1, none⟩ = some (.bool lex[k].f1) := hc1 1 _ (by decide) rfl
      have x2 : wr.cell? ⟨(ad.add (k * 8)).block, (ad.add (k * 8)).off + 2, none⟩ = some (.int .i64 lex[k].f2.f0) := hc1 2 _ (by decide) rfl
      have x3 : wr.cell? ⟨(ad.add (k * 8)).block, (ad.add (k * 8)).off + 3, none⟩ = some (.int .i64 lex[k].f2.f1) := hc1 3 _ (by decide) rfl
      have x4 : wr.cell? ⟨(ad.add (k * 8)).block, (ad.add (k * 8)).off + 4, none⟩ = some (.int .i64 lex[k].f2.f2) := hc1 4 _ (by decide) rfl
      have x5 : wr.cell? ⟨(ad.add (k * 8)).block, (ad.add (k * 8)).off + 5, none⟩ = some (.int .i64 lex[k].f2.f3) := hc1 5 _ (by decide) rfl
      have x6 : wr.cell? ⟨(ad.add (k * 8)).block, (ad.add (k * 8)).off + 6, none⟩ = some (.int .i64 lex[k].f2.f4) := hc1 6 _ (by decide) rfl
      have x7 : wr.cell? ⟨(ad.add (k * 8)).block, (ad.add (k * 8)).off + 7, none⟩ = some (.slice A7 lex[k].f2.f5.length c7) := hc1 7 _ (by decide) rfl
      have y0 : wr.cell? (bd.add (k * 8)) = some (.string lex[k].f0) := hc0' _ rfl
      have y1 : wr.cell? ⟨(bd.add (k * 8)).block, (bd.add (k * 8)).off + 1, none⟩ = some (.bool lex[k].f1) := hc1' 1 _ (by decide) rfl
      have y2 : wr.cell? ⟨(bd.add (k * 8)).block, (bd.add (k * 8)).off + 2, none⟩ = some (.int .i64 lex[k].f2.f0) := hc1' 2 _ (by decide) rfl
      have y3 : wr.cell? ⟨(bd.add (k * 8)).block, (bd.add (k * 8)).off + 3, none⟩ = some (.int .i64 lex[k].f2.f1) := hc1' 3 _ (by decide) rfl
      have y4 : wr.cell? ⟨(bd.add (k * 8)).block, (bd.add (k * 8)).off + 4, none⟩ = some (.int .i64 lex[k].f2.f2) := hc1' 4 _ (by decide) rfl
      have y5 : wr.cell? ⟨(bd.add (k * 8)).block, (bd.add (k * 8)).off + 5, none⟩ = some (.int .i64 lex[k].f2.f3) := hc1' 5 _ (by decide) rfl
      have y6 : wr.cell? ⟨(bd.add (k * 8)).block, (bd.add (k * 8)).off + 6, none⟩ = some (.int .i64 lex[k].f2.f4) := hc1' 6 _ (by decide) rfl
      have y7 : wr.cell? ⟨(bd.add (k * 8)).block, (bd.add (k * 8)).off + 7, none⟩ = some (.slice B7 lex[k].f2.f5.length d7) := hc1' 7 _ (by decide) rfl
      have G7 := Aside0.mk g7
      have G7' := Aside0.mk g7'
      obtain ⟨b, hev, hsz⟩ := small_any lex[k].f2
      have HEV := Aside0.mk hev
      have HSZ := Aside0.mk hsz
      clear hK hc0 hc1 hK' hc0' hc1' g7 g7' hev hsz
      generalize lex[k] = x at *
      have hA := (Below.refl _ wr).alloc (Nat.le_refl _) (.cells #[.string x.f0, .bool x.f1, .int .i64 x.f2.f0, .int .i64 x.f2.f1, .int .i64 x.f2.f2, .int .i64 x.f2.f3, .int .i64 x.f2.f4, .slice A7 x.f2.f5.length c7] 42)
      have hT1 := hT.out.alloc (.cells #[.string x.f0, .bool x.f1, .int .i64 x.f2.f0, .int .i64 x.f2.f1, .int .i64 x.f2.f2, .int .i64 x.f2.f3, .int .i64 x.f2.f4, .slice A7 x.f2.f5.length c7] 42)
      have q0a := hT1.snd_at 0 (.slice (some bd) lex.length d0) rfl
      have y0a := pw_cell_below hA y0
      have y1a := pw_cell_below hA y1
      have y2a := pw_cell_below hA y2
      have y3a := pw_cell_below hA y3
      have y4a := pw_cell_below hA y4
      have y5a := pw_cell_below hA y5
      have y6a := pw_cell_below hA y6
      have y7a := pw_cell_below hA y7
      have hT2 := hT1.alloc (.cells #[.string x.f0, .bool x.f1, .int .i64 x.f2.f0, .int .i64 x.f2.f1, .int .i64 x.f2.f2, .int .i64 x.f2.f3, .int .i64 x.f2.f4, .slice B7 x.f2.f5.length d7] 42)
      have hbx := blk_alloc (blk_new wr (.cells #[.string x.f0, .bool x.f1, .int .i64 x.f2.f0, .int .i64 x.f2.f1, .int .i64 x.f2.f2, .int .i64 x.f2.f3, .int .i64 x.f2.f4, .slice A7 x.f2.f5.length c7] 42)) (.cells #[.string x.f0, .bool x.f1, .int .i64 x.f2.f0, .int .i64 x.f2.f1, .int .i64 x.f2.f2, .int .i64 x.f2.f3, .int .i64 x.f2.f4, .slice B7 x.f2.f5.length d7] 42)
      have hby := blk_new (wr.alloc (.cells #[.string x.f0, .bool x.f1, .int .i64 x.f2.f0, .int .i64 x.f2.f1, .int .i64 x.f2.f2, .int .i64 x.f2.f3, .int .i64 x.f2.f4, .slice A7 x.f2.f5.length c7] 42)) (.cells #[.string x.f0, .bool x.f1, .int .i64 x.f2.f0, .int .i64 x.f2.f1, .int .i64 x.f2.f2, .int .i64 x.f2.f3, .int .i64 x.f2.f4, .slice B7 x.f2.f5.length d7] 42)
      rw [World.size_alloc] at hby
      have hW2 := below_then hA hA.size ((Below.refl _ (wr.alloc (.cells #[.string x.f0, .bool x.f1, .int .i64 x.f2.f0, .int .i64 x.f2.f1, .int .i64 x.f2.f2, .int .i64 x.f2.f3, .int .i64 x.f2.f4, .slice A7 x.f2.f5.length c7] 42))).alloc (Nat.le_refl _) (.cells #[.string x.f0, .bool x.f1, .int .i64 x.f2.f0, .int .i64 x.f2.f1, .int .i64 x.f2.f2, .int .i64 x.f2.f3, .int .i64 x.f2.f4, .slice B7 x.f2.f5.length d7] 42))
      go_wp2_with fail
      clear hA hT1 q0a y0 y1 y2 y3 y4 y5 y6 y7 y0a y1a y2a y3a y4a y5a y6a y7a x0 x1 x2 x3 x4 x5 x6 x7
      generalize (wr.alloc (.cells #[.string x.f0, .bool x.f1, .int .i64 x.f2.f0, .int .i64 x.f2.f1, .int .i64 x.f2.f2, .int .i64 x.f2.f3, .int .i64 x.f2.f4, .slice A7 x.f2.f5.length c7] 42)).alloc (.cells #[.string x.f0, .bool x.f1, .int .i64 x.f2.f0, .int .i64 x.f2.f1, .int .i64 x.f2.f2, .int .i64 x.f2.f3, .int .i64 x.f2.f4, .slice B7 x.f2.f5.length d7] 42) = wx at *
      have GX7 := Aside0.mk (Kd.C_below G7.out hW2)
      have GX7' := Aside0.mk (Kd.C_below G7'.out hW2)
      generalize wr.heap.size = gx at *
      have HK : Aside0 (∀ w' : World, Below wx.heap.size wx w' → Below wx.heap.size wx w' ∧ w'.cell? ⟨gx, 0, none⟩ = some (.string x.f0) ∧ w'.cell? ⟨gx, 1, none⟩ = some (.bool x.f1) ∧ w'.cell? ⟨gx, 2, none⟩ = some (.int .i64 x.f2.f0) ∧ w'.cell? ⟨gx, 3, none⟩ = some (.int .i64 x.f2.f1) ∧ w'.cell? ⟨gx, 4, none⟩ = some (.int .i64 x.f2.f2) ∧ w'.cell? ⟨gx, 5, none⟩ = some (.int .i64 x.f2.f3) ∧ w'.cell? ⟨gx, 6, none⟩ = some (.int .i64 x.f2.f4) ∧ w'.cell? ⟨gx, 7, none⟩ = some (.slice A7 x.f2.f5.length c7) ∧ w'.cell? ⟨gx + 1, 0, none⟩ = some (.string x.f0) ∧ w'.cell? ⟨gx + 1, 1, none⟩ = some (.bool x.f1) ∧ w'.cell? ⟨gx + 1, 2, none⟩ = some (.int .i64 x.f2.f0) ∧ w'.cell? ⟨gx + 1, 3, none⟩ = some (.int .i64 x.f2.f1) ∧ w'.cell? ⟨gx + 1, 4, none⟩ = some (.int .i64 x.f2.f2) ∧ w'.cell? ⟨gx + 1, 5, none⟩ = some (.int .i64 x.f2.f3) ∧ w'.cell? ⟨gx + 1, 6, none⟩ = some (.int .i64 x.f2.f4) ∧ w'.cell? ⟨gx + 1, 7, none⟩ = some (.slice B7 x.f2.f5.length d7)) := ⟨fun w' h => ⟨h, pw_cell_below h ((blk_cell hbx 0).trans rfl), pw_cell_below h ((blk_cell hbx 1).trans rfl), pw_cell_below h ((blk_cell hbx 2).trans rfl), pw_cell_below h ((blk_cell hbx 3).trans rfl), pw_cell_below h ((blk_cell hbx 4).trans rfl), pw_cell_below h ((blk_cell hbx 5).trans rfl), pw_cell_below h ((blk_cell hbx 6).trans rfl), pw_cell_below h ((blk_cell hbx 7).trans rfl), pw_cell_below h ((blk_cell hby 0).trans rfl), pw_cell_below h ((blk_cell hby 1).trans rfl), pw_cell_below h ((blk_cell hby 2).trans rfl), pw_cell_below h ((blk_cell hby 3).trans rfl), pw_cell_below h ((blk_cell hby 4).trans rfl), pw_cell_below h ((blk_cell hby 5).trans rfl), pw_cell_below h ((blk_cell hby 6).trans rfl), pw_cell_below h ((blk_cell hby 7).trans rfl)⟩⟩
      have HT2 := Aside0.mk hT2
      have HW2 := Aside0.mk hW2
      clear hT2 hW2
      clear hbx hby G7 G7'
      cases b
      rotate_left
      · go_region_held3 (fun w' => Below wx.heap.size wx w' ∧ w'.cell? ⟨gx, 0, none⟩ = some (.string x.f0) ∧ w'.cell? ⟨gx, 1, none⟩ = some (.bool x.f1) ∧ w'.cell? ⟨gx, 2, none⟩ = some (.int .i64 x.f2.f0) ∧ w'.cell? ⟨gx, 3, none⟩ = some (.int .i64 x.f2.f1) ∧ w'.cell? ⟨gx, 4, none⟩ = some (.int .i64 x.f2.f2) ∧ w'.cell? ⟨gx, 5, none⟩ = some (.int .i64 x.f2.f3) ∧ w'.cell? ⟨gx, 6, none⟩ = some (.int .i64 x.f2.f4) ∧ w'.cell? ⟨gx, 7, none⟩ = some (.slice A7 x.f2.f5.length c7) ∧ w'.cell? ⟨gx + 1, 0, none⟩ = some (.string x.f0) ∧ w'.cell? ⟨gx + 1, 1, none⟩ = some (.bool x.f1) ∧ w'.cell? ⟨gx + 1, 2, none⟩ = some (.int .i64 x.f2.f0) ∧ w'.cell? ⟨gx + 1, 3, none⟩ = some (.int .i64 x.f2.f1) ∧ w'.cell? ⟨gx + 1, 4, none⟩ = some (.int .i64 x.f2.f2) ∧ w'.cell? ⟨gx + 1, 5, none⟩ = some (.int .i64 x.f2.f3) ∧ w'.cell? ⟨gx + 1, 6, none⟩ = some (.int .i64 x.f2.f4) ∧ w'.cell? ⟨gx + 1, 7, none⟩ = some (.slice B7 x.f2.f5.length d7)) (first | exact HK.out _ (below_drew1 (Below.refl _ _)) | exact HK.out _ (below_then hbw hbw.size hbq)) (first | (go_at_call 22; have hbw := (by assumption : Below wx.heap.size wx _ ∧ _).1; with_reducible refine (small22 x.f2 _ HEV.out A7 c7 _ (Kd.C_below GX7.out hbw) l7).mono ?_; rintro e wq ⟨rfl, hbq⟩) | (go_at_call 22; have hbw := (by assumption : Below wx.heap.size wx _ ∧ _).1; with_reducible refine (small22 x.f2 _ HEV.out B7 d7 _ (Kd.C_below GX7'.out hbw) l7').mono ?_; rintro e wq ⟨rfl, hbq⟩) | (go_at_call 38; have hbw := (by assumption : Below wx.heap.size wx _ ∧ _).1; with_reducible refine (alike38 x.f2 (HSZ.out (by trivial)) A7 B7 c7 d7 _ (Kd.C_below GX7.out hbw) l7 (Kd.C_below GX7'.out hbw) l7').mono ?_; rintro e wq ⟨rfl, hbq⟩))
        all_goals
          have hbw := (by assumption : Below wx.heap.size wx _ ∧ _).1
          have HT3 := Aside0.mk (HT2.out.then hbw)
          go_wp2_with fail
          go_roundw
          case rel => exact ⟨k + 1, by omega, by go_num, HT3⟩
          case measure => simp [intOf]; omega
      · refine wp_region_noPanic ?_
        refine wp_region_held_drew (S := (fun w' => Below wx.heap.size wx w' ∧ w'.cell? ⟨gx, 0, none⟩ = some (.string x.f0) ∧ w'.cell? ⟨gx, 1, none⟩ = some (.bool x.f1) ∧ w'.cell? ⟨gx, 2, none⟩ = some (.int .i64 x.f2.f0) ∧ w'.cell? ⟨gx, 3, none⟩ = some (.int .i64 x.f2.f1) ∧ w'.cell? ⟨gx, 4, none⟩ = some (.int .i64 x.f2.f2) ∧ w'.cell? ⟨gx, 5, none⟩ = some (.int .i64 x.f2.f3) ∧ w'.cell? ⟨gx, 6, none⟩ = some (.int .i64 x.f2.f4) ∧ w'.cell? ⟨gx, 7, none⟩ = some (.slice A7 x.f2.f5.length c7) ∧ w'.cell? ⟨gx + 1, 0, none⟩ = some (.string x.f0) ∧ w'.cell? ⟨gx + 1, 1, none⟩ = some (.bool x.f1) ∧ w'.cell? ⟨gx + 1, 2, none⟩ = some (.int .i64 x.f2.f0) ∧ w'.cell? ⟨gx + 1, 3, none⟩ = some (.int .i64 x.f2.f1) ∧ w'.cell? ⟨gx + 1, 4, none⟩ = some (.int .i64 x.f2.f2) ∧ w'.cell? ⟨gx + 1, 5, none⟩ = some (.int .i64 x.f2.f3) ∧ w'.cell? ⟨gx + 1, 6, none⟩ = some (.int .i64 x.f2.f4) ∧ w'.cell? ⟨gx + 1, 7, none⟩ = some (.slice B7 x.f2.f5.length d7))) (by kernel_rfl) (HK.out _ (below_drew1 (Below.refl _ _))) (fun hHeld => ?_)
        refine tk (i := 0) (oi := ⟨some 62, .fieldAddr 42 (.tmp 6) 0, 0, "law.go:80", #[], none⟩) (v := ?v0) rfl (by kernel_rfl) (by kernel_rfl) (by kernel_rfl) ⟨by rfl, ?hy0⟩ (by assumption) ?_
        case hy0 => intro w hSw; (try dsimp only at hSw); go_simp; try with_reducible rfl
        try simp only [Act.put, List.setIfInBounds_toArray, List.set_cons_zero, List.set_cons_succ]
        refine tk (i := 1) (oi := ⟨some 63, .load 9 (.tmp 62), 9, "law.go:80", #[⟨0, .data⟩], none⟩) (v := ?v1) rfl (by kernel_rfl) (by kernel_rfl) (by kernel_rfl) ⟨by rfl, ?hy1⟩ (by assumption) ?_
        case hy1 => intro w hSw; (try dsimp only at hSw); go_simp; try with_reducible rfl
        try simp only [Act.put, List.setIfInBounds_toArray, List.set_cons_zero, List.set_cons_succ]
        refine tk (i := 2) (oi := ⟨some 64, .fieldAddr 42 (.tmp 7) 0, 0, "law.go:80", #[], none⟩) (v := ?v2) rfl (by kernel_rfl) (by kernel_rfl) (by kernel_rfl) ⟨by rfl, ?hy2⟩ (by assumption) ?_
        case hy2 => intro w hSw; (try dsimp only at hSw); go_simp; try with_reducible rfl
        try simp only [Act.put, List.setIfInBounds_toArray, List.set_cons_zero, List.set_cons_succ]
        refine tk (i := 3) (oi := ⟨some 65, .load 9 (.tmp 64), 9, "law.go:80", #[⟨2, .data⟩], none⟩) (v := ?v3) rfl (by kernel_rfl) (by kernel_rfl) (by kernel_rfl) ⟨by rfl, ?hy3⟩ (by assumption) ?_
        case hy3 => intro w hSw; (try dsimp only at hSw); go_simp; try with_reducible rfl
        try simp only [Act.put, List.setIfInBounds_toArray, List.set_cons_zero, List.set_cons_succ]
        refine tk (i := 4) (oi := ⟨some 66, .binOp .neq 9 (.tmp 63) (.tmp 65) 9, 4, "law.go:80", #[⟨1, .data⟩, ⟨3, .data⟩], none⟩) (v := ?v4) rfl (by kernel_rfl) (by kernel_rfl) (by kernel_rfl) ⟨by rfl, ?hy4⟩ (by assumption) ?_
        case hy4 => intro w hSw; (try dsimp only at hSw); go_simp; try with_reducible rfl
        try simp only [Act.put, List.setIfInBounds_toArray, List.set_cons_zero, List.set_cons_succ]
        refine tk (i := 5) (oi := ⟨some 67, .move (.tmp 66), 4, "law.go:80", #[⟨4, .data⟩], none⟩) (v := ?v5) rfl (by kernel_rfl) (by kernel_rfl) (by kernel_rfl) ⟨by rfl, ?hy5⟩ (by assumption) ?_
        case hy5 => intro w hSw; (try dsimp only at hSw); go_simp; try with_reducible rfl
        try simp only [Act.put, List.setIfInBounds_toArray, List.set_cons_zero, List.set_cons_succ]
        refine tk (i := 6) (oi := ⟨some 68, .fieldAddr 42 (.tmp 6) 1, 0, "law.go:80", #[⟨5, .guard⟩], some (5, false)⟩) (v := ?v6) rfl (by kernel_rfl) (by kernel_rfl) (by kernel_rfl) ⟨by rfl, ?hy6⟩ (by assumption) ?_
        case hy6 => intro w hSw; (try dsimp only at hSw); go_simp; try with_reducible rfl
        try simp only [Act.put, List.setIfInBounds_toArray, List.set_cons_zero, List.set_cons_succ]
        refine tk (i := 7) (oi := ⟨some 69, .load 4 (.tmp 68), 4, "law.go:80", #[⟨6, .data⟩, ⟨5, .guard⟩], some (5, false)⟩) (v := ?v7) rfl (by kernel_rfl) (by kernel_rfl) (by kernel_rfl) ⟨by rfl, ?hy7⟩ (by assumption) ?_
        case hy7 => intro w hSw; (try dsimp only at hSw); go_simp; try with_reducible rfl
        try simp only [Act.put, List.setIfInBounds_toArray, List.set_cons_zero, List.set_cons_succ]
        refine tk (i := 8) (oi := ⟨some 70, .fieldAddr 42 (.tmp 7) 1, 0, "law.go:80", #[⟨5, .guard⟩], some (5, false)⟩) (v := ?v8) rfl (by kernel_rfl) (by kernel_rfl) (by kernel_rfl) ⟨by rfl, ?hy8⟩ (by assumption) ?_
        case hy8 => intro w hSw; (try dsimp only at hSw); go_simp; try with_reducible rfl
        try simp only [Act.put, List.setIfInBounds_toArray, List.set_cons_zero, List.set_cons_succ]
        refine tk (i := 9) (oi := ⟨some 71, .load 4 (.tmp 70), 4, "law.go:80", #[⟨8, .data⟩, ⟨5, .guard⟩], some (5, false)⟩) (v := ?v9) rfl (by kernel_rfl) (by kernel_rfl) (by kernel_rfl) ⟨by rfl, ?hy9⟩ (by assumption) ?_
        case hy9 => intro w hSw; (try dsimp only at hSw); go_simp; try with_reducible rfl
        try simp only [Act.put, List.setIfInBounds_toArray, List.set_cons_zero, List.set_cons_succ]
        refine tk (i := 10) (oi := ⟨some 72, .binOp .neq 4 (.tmp 69) (.tmp 71) 4, 4, "law.go:80", #[⟨7, .data⟩, ⟨9, .data⟩, ⟨5, .guard⟩], some (5, false)⟩) (v := ?v10) rfl (by kernel_rfl) (by kernel_rfl) (by kernel_rfl) ⟨by rfl, ?hy10⟩ (by assumption) ?_
        case hy10 => intro w hSw; (try dsimp only at hSw); go_simp; try with_reducible rfl
        try simp only [Act.put, List.setIfInBounds_toArray, List.set_cons_zero, List.set_cons_succ]
        refine tk (i := 11) (oi := ⟨some 73, .pick (.tmp 67) (.const (.bool true)) (.tmp 72), 4, "law.go:80", #[⟨5, .data⟩, ⟨10, .data⟩], none⟩) (v := ?v11) rfl (by kernel_rfl) (by kernel_rfl) (by kernel_rfl) ⟨by rfl, ?hy11⟩ (by assumption) ?_
        case hy11 => intro w hSw; (try dsimp only at hSw); go_simp; try with_reducible rfl
        try simp only [Act.put, List.setIfInBounds_toArray, List.set_cons_zero, List.set_cons_succ]
        refine tk (i := 12) (oi := ⟨some 74, .move (.tmp 73), 4, "law.go:80", #[⟨11, .data⟩, ⟨5, .chain⟩], none⟩) (v := ?v12) rfl (by kernel_rfl) (by kernel_rfl) (by kernel_rfl) ⟨by rfl, ?hy12⟩ (by assumption) ?_
        case hy12 => intro w hSw; (try dsimp only at hSw); go_simp; try with_reducible rfl
        try simp only [Act.put, List.setIfInBounds_toArray, List.set_cons_zero, List.set_cons_succ]
        refine tk (i := 13) (oi := ⟨some 75, .fieldAddr 42 (.tmp 6) 2, 0, "law.go:80", #[⟨12, .guard⟩], some (12, false)⟩) (v := ?v13) rfl (by kernel_rfl) (by kernel_rfl) (by kernel_rfl) ⟨by rfl, ?hy13⟩ (by assumption) ?_
        case hy13 => intro w hSw; (try dsimp only at hSw); go_simp; try with_reducible rfl
        try simp only [Act.put, List.setIfInBounds_toArray, List.set_cons_zero, List.set_cons_succ]
        refine tk (i := 14) (oi := ⟨some 76, .load 40 (.tmp 75), 40, "law.go:80", #[⟨13, .data⟩, ⟨12, .guard⟩], some (12, false)⟩) (v := ?v14) rfl (by kernel_rfl) (by kernel_rfl) (by kernel_rfl) ⟨by rfl, ?hy14⟩ (by assumption) ?_
        case hy14 => intro w hSw; (try dsimp only at hSw); go_simp; try with_reducible rfl
        try simp only [Act.put, List.setIfInBounds_toArray, List.set_cons_zero, List.set_cons_succ]
        refine tk (i := 16) (oi := ⟨some 78, .fieldAddr 42 (.tmp 7) 2, 0, "law.go:80", #[⟨12, .guard⟩], some (12, false)⟩) (v := ?v16) rfl (by kernel_rfl) (by kernel_rfl) (by kernel_rfl) ⟨by rfl, ?hy16⟩ (by assumption) ?_
        case hy16 => intro w hSw; (try dsimp only at hSw); go_simp; try with_reducible rfl
        try simp only [Act.put, List.setIfInBounds_toArray, List.set_cons_zero, List.set_cons_succ]
        refine tk (i := 17) (oi := ⟨some 79, .load 40 (.tmp 78), 40, "law.go:80", #[⟨16, .data⟩, ⟨12, .guard⟩], some (12, false)⟩) (v := ?v17) rfl (by kernel_rfl) (by kernel_rfl) (by kernel_rfl) ⟨by rfl, ?hy17⟩ (by assumption) ?_
        case hy17 => intro w hSw; (try dsimp only at hSw); go_simp; try with_reducible rfl
        try simp only [Act.put, List.setIfInBounds_toArray, List.set_cons_zero, List.set_cons_succ]
        refine wpAnyH_ready (rs := [15]) (by kernel_rfl) (by simp) (AllReadyH.cons (o := ⟨some 77, .call { callee := .value (.func 22), args := #[.tmp 76], argTypes := #[40] }, 4, "law.go:80", #[⟨14, .data⟩, ⟨12, .chain⟩, ⟨12, .guard⟩], some (12, false)⟩) rfl (fun K hK => ?_) AllReadyH.nil)
        go_simp
        go_at_call 22
        have hbw := (by assumption : Below wx.heap.size wx _ ∧ _).1
        refine (small22 x.f2 _ HEV.out A7 c7 _ (Kd.C_below GX7.out hbw) l7).mono ?_
        first | rintro e wq rfl hbq | rintro e wq ⟨rfl, hbq⟩
        go_wp2_with fail
        refine hK.out _ _ (HK.out _ (below_then hbw hbw.size hbq)) (fun hHeld => ?_)
        clear hK K hbw hbq
        try simp only [Act.put, List.setIfInBounds_toArray, List.set_cons_zero, List.set_cons_succ]
        refine wpAnyH_ready (rs := [18]) (by kernel_rfl) (by simp) (AllReadyH.cons (o := ⟨some 80, .call { callee := .value (.func 22), args := #[.tmp 79], argTypes := #[40] }, 4, "law.go:80", #[⟨17, .data⟩, ⟨15, .chain⟩, ⟨12, .guard⟩], some (12, false)⟩) rfl (fun K hK => ?_) AllReadyH.nil)
        go_simp
        go_at_call 22
        have hbw := (by assumption : Below wx.heap.size wx _ ∧ _).1
        refine (small22 x.f2 _ HEV.out B7 d7 _ (Kd.C_below GX7'.out hbw) l7').mono ?_
        first | rintro e wq rfl hbq | rintro e wq ⟨rfl, hbq⟩
        go_wp2_with fail
        refine hK.out _ _ (HK.out _ (below_then hbw hbw.size hbq)) (fun hHeld => ?_)
        clear hK K hbw hbq
        try simp only [Act.put, List.setIfInBounds_toArray, List.set_cons_zero, List.set_cons_succ]
        refine tk (i := 19) (oi := ⟨some 81, .binOp .neq 4 (.tmp 77) (.tmp 80) 4, 4, "law.go:80", #[⟨15, .data⟩, ⟨18, .data⟩, ⟨12, .guard⟩], some (12, false)⟩) (v := ?v19) rfl (by kernel_rfl) (by kernel_rfl) (by kernel_rfl) ⟨by rfl, ?hy19⟩ (by assumption) ?_
        case hy19 => intro w hSw; (try dsimp only at hSw); go_simp; try with_reducible rfl
        try simp only [Act.put, List.setIfInBounds_toArray, List.set_cons_zero, List.set_cons_succ]
        refine tk (i := 20) (oi := ⟨some 82, .pick (.tmp 74) (.const (.bool true)) (.tmp 81), 4, "law.go:80", #[⟨12, .data⟩, ⟨19, .data⟩], none⟩) (v := ?v20) rfl (by kernel_rfl) (by kernel_rfl) (by kernel_rfl) ⟨by rfl, ?hy20⟩ (by assumption) ?_
        case hy20 => intro w hSw; (try dsimp only at hSw); go_simp; try with_reducible rfl
        try simp only [Act.put, List.setIfInBounds_toArray, List.set_cons_zero, List.set_cons_succ]
        refine tk (i := 21) (oi := ⟨some 83, .move (.tmp 82), 4, "law.go:80", #[⟨20, .data⟩, ⟨18, .chain⟩], none⟩) (v := ?v21) rfl (by kernel_rfl) (by kernel_rfl) (by kernel_rfl) ⟨by rfl, ?hy21⟩ (by assumption) ?_
        case hy21 => intro w hSw; (try dsimp only at hSw); go_simp; try with_reducible rfl
        try simp only [Act.put, List.setIfInBounds_toArray, List.set_cons_zero, List.set_cons_succ]
        refine tk (i := 22) (oi := ⟨some 84, .fieldAddr 42 (.tmp 6) 2, 0, "law.go:80", #[⟨21, .guard⟩], some (21, false)⟩) (v := ?v22) rfl (by kernel_rfl) (by kernel_rfl) (by kernel_rfl) ⟨by rfl, ?hy22⟩ (by assumption) ?_
        case hy22 => intro w hSw; (try dsimp only at hSw); go_simp; try with_reducible rfl
        try simp only [Act.put, List.setIfInBounds_toArray, List.set_cons_zero, List.set_cons_succ]
        refine tk (i := 23) (oi := ⟨some 85, .load 40 (.tmp 84), 40, "law.go:80", #[⟨22, .data⟩, ⟨21, .guard⟩], some (21, false)⟩) (v := ?v23) rfl (by kernel_rfl) (by kernel_rfl) (by kernel_rfl) ⟨by rfl, ?hy23⟩ (by assumption) ?_
        case hy23 => intro w hSw; (try dsimp only at hSw); go_simp; try with_reducible rfl
        try simp only [Act.put, List.setIfInBounds_toArray, List.set_cons_zero, List.set_cons_succ]
        refine wpAnyH_ready (rs := [24]) (by kernel_rfl) (by simp) (AllReadyH.cons (o := ⟨some 86, .call { callee := .value (.func 22), args := #[.tmp 85], argTypes := #[40] }, 4, "law.go:80", #[⟨23, .data⟩, ⟨21, .chain⟩, ⟨21, .guard⟩], some (21, false)⟩) rfl (fun K hK => ?_) AllReadyH.nil)
        go_simp
        go_at_call 22
        have hbw := (by assumption : Below wx.heap.size wx _ ∧ _).1
        refine (small22 x.f2 _ HEV.out A7 c7 _ (Kd.C_below GX7.out hbw) l7).mono ?_
        first | rintro e wq rfl hbq | rintro e wq ⟨rfl, hbq⟩
        go_wp2_with fail
        refine hK.out _ _ (HK.out _ (below_then hbw hbw.size hbq)) (fun hHeld => ?_)
        clear hK K hbw hbq
        try simp only [Act.put, List.setIfInBounds_toArray, List.set_cons_zero, List.set_cons_succ]
        refine tk (i := 25) (oi := ⟨some 87, .move (.tmp 86), 4, "law.go:80", #[⟨24, .data⟩, ⟨24, .chain⟩, ⟨21, .guard⟩], some (21, false)⟩) (v := ?v25) rfl (by kernel_rfl) (by kernel_rfl) (by kernel_rfl) ⟨by rfl, ?hy25⟩ (by assumption) ?_
        case hy25 => intro w hSw; (try dsimp only at hSw); go_simp; try with_reducible rfl
        try simp only [Act.put, List.setIfInBounds_toArray, List.set_cons_zero, List.set_cons_succ]
        refine sk (i := 26) (oi := ⟨some 88, .fieldAddr 42 (.tmp 6) 2, 0, "law.go:80", #[⟨25, .guard⟩], some (25, true)⟩) rfl (by kernel_rfl) (by kernel_rfl) (by kernel_rfl) (by rfl) (by assumption) ?_
        try simp only [Act.put, List.setIfInBounds_toArray, List.set_cons_zero, List.set_cons_succ]
        refine sk (i := 27) (oi := ⟨some 89, .load 40 (.tmp 88), 40, "law.go:80", #[⟨26, .data⟩, ⟨25, .guard⟩], some (25, true)⟩) rfl (by kernel_rfl) (by kernel_rfl) (by kernel_rfl) (by rfl) (by assumption) ?_
        try simp only [Act.put, List.setIfInBounds_toArray, List.set_cons_zero, List.set_cons_succ]
        refine sk (i := 28) (oi := ⟨some 90, .fieldAddr 42 (.tmp 7) 2, 0, "law.go:80", #[⟨25, .guard⟩], some (25, true)⟩) rfl (by kernel_rfl) (by kernel_rfl) (by kernel_rfl) (by rfl) (by assumption) ?_
        try simp only [Act.put, List.setIfInBounds_toArray, List.set_cons_zero, List.set_cons_succ]
        refine sk (i := 29) (oi := ⟨some 91, .load 40 (.tmp 90), 40, "law.go:80", #[⟨28, .data⟩, ⟨25, .guard⟩], some (25, true)⟩) rfl (by kernel_rfl) (by kernel_rfl) (by kernel_rfl) (by rfl) (by assumption) ?_
        try simp only [Act.put, List.setIfInBounds_toArray, List.set_cons_zero, List.set_cons_succ]
        refine sk (i := 30) (oi := ⟨some 92, .call { callee := .value (.func 38), args := #[.tmp 89, .tmp 91], argTypes := #[40, 40] }, 4, "law.go:80", #[⟨27, .data⟩, ⟨29, .data⟩, ⟨25, .chain⟩, ⟨25, .guard⟩], some (25, true)⟩) rfl (by kernel_rfl) (by kernel_rfl) (by kernel_rfl) (by rfl) (by assumption) ?_
        try simp only [Act.put, List.setIfInBounds_toArray, List.set_cons_zero, List.set_cons_succ]
        refine sk (i := 31) (oi := ⟨some 93, .unOp .not 4 (.tmp 92), 4, "law.go:80", #[⟨30, .data⟩, ⟨25, .guard⟩], some (25, true)⟩) rfl (by kernel_rfl) (by kernel_rfl) (by kernel_rfl) (by rfl) (by assumption) ?_
        try simp only [Act.put, List.setIfInBounds_toArray, List.set_cons_zero, List.set_cons_succ]
        refine tk (i := 32) (oi := ⟨some 94, .pick (.tmp 87) (.tmp 93) (.const (.bool false)), 4, "law.go:80", #[⟨25, .data⟩, ⟨31, .data⟩, ⟨21, .guard⟩], some (21, false)⟩) (v := ?v32) rfl (by kernel_rfl) (by kernel_rfl) (by kernel_rfl) ⟨by rfl, ?hy32⟩ (by assumption) ?_
        case hy32 => intro w hSw; (try dsimp only at hSw); go_simp; try with_reducible rfl
        try simp only [Act.put, List.setIfInBounds_toArray, List.set_cons_zero, List.set_cons_succ]
        refine tk (i := 33) (oi := ⟨some 95, .pick (.tmp 83) (.const (.bool true)) (.tmp 94), 4, "law.go:80", #[⟨21, .data⟩, ⟨32, .data⟩], none⟩) (v := ?v33) rfl (by kernel_rfl) (by kernel_rfl) (by kernel_rfl) ⟨by rfl, ?hy33⟩ (by assumption) ?_
        case hy33 => intro w hSw; (try dsimp only at hSw); go_simp; try with_reducible rfl
        try simp only [Act.put, List.setIfInBounds_toArray, List.set_cons_zero, List.set_cons_succ]
        refine wpAnyH_done (by kernel_rfl) ?_ _
        refine NoPanic.normal ?_
        all_goals
          have hbw := (by assumption : Below wx.heap.size wx _ ∧ _).1
          have HT3 := Aside0.mk (HT2.out.then hbw)
          go_wp2_with fail
          go_roundw
          case rel => exact ⟨k + 1, by omega, by go_num, HT3⟩
          case measure => simp [intOf]; omega
    · obtain rfl : k = lex.length := by omega
      have p1 := hT.out.fst_at 1 (.slice A1 names.length c1) rfl
      go_wp2_with fail
      obtain ⟨w1, rfl⟩ : ∃ w1 : World, w1 = wr := ⟨_, rfl⟩
      go_loopw [8] (fun i wr => ∃ k : Nat, k ≤ names.length ∧ i = .int .i64 k ∧ Aside0 (Two w #[.slice A0 lex.length c0, .slice A1 names.length c1, .int .i64 start, .slice A3 prods.length c3] #[.slice B0 lex.length d0, .slice B1 names.length d1, .int .i64 start, .slice B3 prods.length d3] wr)) (fun i _ => names.length - (intOf i).toNat)
      case atStart => exact ⟨0, Nat.zero_le _, rfl, hT⟩
      case round =>
        clear p0 q0 p1
        obtain ⟨k, hk, rfl, hT⟩ := hrel
        have p1 := hT.out.fst_at 1 (.slice A1 names.length c1) rfl
        have q1 := hT.out.snd_at 1 (.slice B1 names.length d1) rfl
        by_cases hlt : k < names.length
        · obtain ⟨ad, cs, rfl, hK, hc0, hc1⟩ := C_at (Kd.C_below HA1.out hT.out.below) k hlt
          obtain rfl : cs = [.string names[k]] := hK
          have x0 : wr.cell? (ad.add k) = some (.string names[k]) := by have := hc0 _ rfl; rwa [show Kd.string.sz = 1 from rfl, Nat.mul_one] at this
          obtain ⟨bd, cs, rfl, hK', hc0', hc1'⟩ := C_at (Kd.C_below HB1.out hT.out.below) k hlt
          obtain rfl : cs = [.string names[k]] := hK'
          have y0 : wr.cell? (bd.add k) = some (.string names[k]) := by have := hc0' _ rfl; rwa [show Kd.string.sz = 1 from rfl, Nat.mul_one] at this
          clear hc0 hc1 hc0' hc1'
          generalize names[k] = x at *
          have i1 : (k : Int) < (names.length : Int) := by omega
          go_wp2_with fail
          go_quiet (fail)
          go_wp2_with fail
          go_roundw
          case rel => exact ⟨k + 1, by omega, by go_num, ⟨hT.out.then (pw_below_drewN (Below.refl _ _) _)⟩⟩
          case measure => simp [intOf]; omega
        · obtain rfl : k = names.length := by omega
          have p3 := hT.out.fst_at 3 (.slice A3 prods.length c3) rfl
          go_wp2_with fail
          obtain ⟨w2, rfl⟩ : ∃ w1 : World, w1 = wr := ⟨_, rfl⟩
          go_loopw [9] (fun i wr => ∃ k : Nat, k ≤ prods.length ∧ i = .int .i64 k ∧ Aside0 (Two w #[.slice A0 lex.length c0, .slice A1 names.length c1, .int .i64 start, .slice A3 prods.length c3] #[.slice B0 lex.length d0, .slice B1 names.length d1, .int .i64 start, .slice B3 prods.length d3] wr)) (fun i _ => prods.length - (intOf i).toNat)
          case atStart => exact ⟨0, Nat.zero_le _, rfl, hT⟩
          case round =>
            clear p1 q1 p3
            obtain ⟨k, hk, rfl, hT⟩ := hrel
            have p3 := hT.out.fst_at 3 (.slice A3 prods.length c3) rfl
            by_cases hlt : k < prods.length
            · obtain ⟨ad, cs, rfl, hK, hc0, hc1⟩ := C_at (Kd.C_below HA3.out hT.out.below) k hlt
              obtain ⟨A1', c1', rfl, l1, g1⟩ := k67_open hK
              obtain ⟨bd, cs, rfl, hK', hc0', hc1'⟩ := C_at (Kd.C_below HB3.out hT.out.below) k hlt
              obtain ⟨B1', d1', rfl, l1', g1'⟩ := k67_open hK'
              have x0 : wr.cell? (ad.add (k * 2)) = some (.int .i64 prods[k].f0) := hc0 _ rfl
              have x1 : wr.cell? ⟨(ad.add (k * 2)).block, (ad.add (k * 2)).off + 1, none⟩ = some (.slice A1' prods[k].f1.length c1') := hc1 1 _ (by decide) rfl
              have y0 : wr.cell? (bd.add (k * 2)) = some (.int .i64 prods[k].f0) := hc0' _ rfl
              have y1 : wr.cell? ⟨(bd.add (k * 2)).block, (bd.add (k * 2)).off + 1, none⟩ = some (.slice B1' prods[k].f1.length d1') := hc1' 1 _ (by decide) rfl
              have G1 := Aside0.mk g1
              have G1' := Aside0.mk g1'
              have hmx := Kd.C_max g1
              clear hK hc0 hc1 hK' hc0' hc1' g1 g1'
              generalize prods[k] = x at *
              have hA := (Below.refl _ wr).alloc (Nat.le_refl _) (.cells #[.int .i64 x.f0, .slice A1' x.f1.length c1'] 67)
              have hT1 := hT.out.alloc (.cells #[.int .i64 x.f0, .slice A1' x.f1.length c1'] 67)
              have q3a := hT1.snd_at 3 (.slice (some bd) prods.length d3) rfl
              have y0a := pw_cell_below hA y0
              have y1a := pw_cell_below hA y1
              have hT2 := hT1.alloc (.cells #[.int .i64 x.f0, .slice B1' x.f1.length d1'] 67)
              have hbx := blk_alloc (blk_new wr (.cells #[.int .i64 x.f0, .slice A1' x.f1.length c1'] 67)) (.cells #[.int .i64 x.f0, .slice B1' x.f1.length d1'] 67)
              have hby := blk_new (wr.alloc (.cells #[.int .i64 x.f0, .slice A1' x.f1.length c1'] 67)) (.cells #[.int .i64 x.f0, .slice B1' x.f1.length d1'] 67)
              rw [World.size_alloc] at hby
              have hW2 := below_then hA hA.size ((Below.refl _ (wr.alloc (.cells #[.int .i64 x.f0, .slice A1' x.f1.length c1'] 67))).alloc (Nat.le_refl _) (.cells #[.int .i64 x.f0, .slice B1' x.f1.length d1'] 67))
              have G2 := Aside0.mk (Kd.C_below G1.out hW2)
              have G2' := Aside0.mk (Kd.C_below G1'.out hW2)
              have HT2 := Aside0.mk hT2
              have HBX := Aside0.mk hbx
              have HBY := Aside0.mk hby
              clear hT2 hbx hby hW2
              go_wp2_with fail
              clear hA hT1 q3a y0 y1 y0a y1a x0 x1 G1 G1'
              generalize hwx : (wr.alloc (.cells #[.int .i64 x.f0, .slice A1' x.f1.length c1'] 67)).alloc (.cells #[.int .i64 x.f0, .slice B1' x.f1.length d1'] 67) = wx at *
              clear hwx
              generalize wr.heap.size = gx at *
              obtain ⟨w3, rfl⟩ : ∃ w1 : World, w1 = wr := ⟨_, rfl⟩
              go_loopw [12] (fun i wy => ∃ m : Nat, m ≤ x.f1.length ∧ i = .int .i64 m ∧ Aside0 (Below wx.heap.size wx wy)) (fun i _ => x.f1.length - (intOf i).toNat)
              case atStart => exact ⟨0, Nat.zero_le _, rfl, ⟨Below.refl _ _⟩⟩
              case round =>
                obtain ⟨m, hm, rfl, hY⟩ := hrel
                have r1 := pw_cell_below hY.out ((blk_cell HBX.out 1).trans (show _ = some (.slice A1' x.f1.length c1') from rfl))
                have s1 := pw_cell_below hY.out ((blk_cell HBY.out 1).trans (show _ = some (.slice B1' x.f1.length d1') from rfl))
                by_cases hlt2 : m < x.f1.length
                · obtain ⟨ad2, cs2, rfl, hK2, hc02, hc12⟩ := C_at (Kd.C_below G2.out hY.out) m hlt2
                  obtain rfl := k85_open hK2
                  obtain ⟨bd2, cs3, rfl, hK3, hc03, hc13⟩ := C_at (Kd.C_below G2'.out hY.out) m hlt2
                  obtain rfl := k85_open hK3
                  have x0 : wr.cell? (ad2.add (m * 2)) = some (.int .i64 x.f1[m].f0) := hc02 _ rfl
                  have x1 : wr.cell? ⟨(ad2.add (m * 2)).block, (ad2.add (m * 2)).off + 1, none⟩ = some (.int .i64 x.f1[m].f1) := hc12 1 _ (by decide) rfl
                  have y0 : wr.cell? (bd2.add (m * 2)) = some (.int .i64 x.f1[m].f0) := hc03 _ rfl
                  have y1 : wr.cell? ⟨(bd2.add (m * 2)).block, (bd2.add (m * 2)).off + 1, none⟩ = some (.int .i64 x.f1[m].f1) := hc13 1 _ (by decide) rfl
                  clear hK2 hc02 hc12 hK3 hc03 hc13
                  generalize x.f1[m] = y at *
                  have i1 : (m : Int) < (x.f1.length : Int) := by omega
                  go_wp2_with fail
                  go_quiet (fail)
                  go_wp2_with fail
                  go_roundw
                  case rel => exact ⟨m + 1, by omega, by go_num, ⟨hY.out.trans (pw_below_drewN (Below.refl _ _) _)⟩⟩
                  case measure => simp [intOf]; omega
                · obtain rfl : m = x.f1.length := by omega
                  go_wp2_with fail
                  go_roundw
                  case rel => exact ⟨k + 1, by omega, by go_num, ⟨HT2.out.then hY.out⟩⟩
                  case measure => simp [intOf]; omega
            · obtain rfl : k = prods.length := by omega
              go_wp2_with fail
              go_ret
              exact ⟨rfl, hT.out.below⟩
end Go.Proofs.YtpnkifincadakaaGreatDoor.Wr
end
