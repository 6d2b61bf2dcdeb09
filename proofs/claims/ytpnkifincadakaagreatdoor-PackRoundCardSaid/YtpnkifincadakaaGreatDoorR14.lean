/- Proved: part 14 of the proof of PackRound (PPackSpecsx0, Wr1, Wr2, Wr3, Pat, Wr4). Conditions: each theorem states its own. -/
import Derived.ArgAppend
import Derived.Below
import Derived.BigQuiet
import Derived.Deep.AppendLies
import Derived.Deep.CutBlock
import Derived.Deep.DeepCutAuto
import Derived.Deep.Draws
import Derived.Deep.LoopGhost
import Derived.Deep.OwnRows
import Derived.Deep.QuietTactic
import Derived.Deep.RegionHeld3
import Derived.KernelRfl
import Derived.Laws.BitsLemmas
import Derived.Laws.BytesArg
import Derived.Laws.IdiomCopy
import Derived.Laws.MakeOwn
import Derived.Laws.OwnMore
import Derived.Laws.Rows
import Derived.Laws.Slices
import Derived.Laws.StructEq
import Derived.Lib.AppendStr
import Derived.Lib.ConvBytes
import Derived.Maps.AppendAt
import Derived.OrdersHeld
import Derived.OwnWalk
import Derived.RowKit
import Derived.RowKit3
import Derived.Tactics
import Derived.Test.YtpnkifincadakaaGreatDoorProg
import Derived.WalkKit
import Derived.WideLaws
import Derived.Test.YtpnkifincadakaaGreatDoorR10
import Derived.Test.YtpnkifincadakaaGreatDoorR11
import Derived.Test.YtpnkifincadakaaGreatDoorR12
import Derived.Test.YtpnkifincadakaaGreatDoorR13
set_option linter.unusedVariables false
set_option linter.unusedSimpArgs false
section
namespace Go.Proofs.YtpnkifincadakaaGreatDoor.PPackSpecs
open Go.RowKit Go.Proofs.YtpnkifincadakaaGreatDoorW.PrintWords Go.Proofs.YtpnkifincadakaaGreatDoorW.PrintLast Go.Proofs.YtpnkifincadakaaGreatDoorW.PrintMore
attribute [local go_sem] max2_int min2_int max_two min_two
def errW : Option Int → Value
  | none => .nilIface
  | some c => .iface 0 (.int .i64 c)
theorem errW_none : errW none = .nilIface := rfl
theorem errW_some (c : Int) : errW (some c) = .iface 0 (.int .i64 c) := rfl
theorem info9 : (Tryz.prog.info? 9).map (fun i => (i.zero, i.size, i.bytes)) = some (some (.string ⟨#[]⟩), 1, 16) := by kernel_rfl
theorem info40 : (Tryz.prog.info? 40).map (fun i => (i.zero, i.size, i.bytes)) = some (some (.agg #[(.int .i64 0), (.int .i64 0), (.int .i64 0), (.int .i64 0), (.int .i64 0), (.slice none 0 0)]), 6, 64) := by kernel_rfl
theorem info42 : (Tryz.prog.info? 42).map (fun i => (i.zero, i.size, i.bytes)) = some (some (.agg #[(.string ⟨#[]⟩), (.bool false), (.int .i64 0), (.int .i64 0), (.int .i64 0), (.int .i64 0), (.int .i64 0), (.slice none 0 0)]), 8, 88) := by kernel_rfl
theorem info67 : (Tryz.prog.info? 67).map (fun i => (i.zero, i.size, i.bytes)) = some (some (.agg #[(.int .i64 0), (.slice none 0 0)]), 2, 32) := by kernel_rfl
theorem info85 : (Tryz.prog.info? 85).map (fun i => (i.zero, i.size, i.bytes)) = some (some (.agg #[(.int .i64 0), (.int .i64 0)]), 2, 16) := by kernel_rfl
structure S40 where
  f0 : Int
  f1 : Int
  f2 : Int
  f3 : Int
  f4 : Int
  f5 : (List S40)
def z40 : S40 := ⟨(0 : Int), (0 : Int), (0 : Int), (0 : Int), (0 : Int), ([] : List S40)⟩
def F40 (d : Kd S40) : Kd S40 := Kd.iso (Kd.pair (Kd.int .i64) (Kd.pair (Kd.int .i64) (Kd.pair (Kd.int .i64) (Kd.pair (Kd.int .i64) (Kd.pair (Kd.int .i64) (Kd.slice 40 d)))))) (fun x : S40 => (x.f0, x.f1, x.f2, x.f3, x.f4, x.f5))
theorem mono40 : Kd.Mono F40 := Kd.mono_iso _ (Kd.mono_pair (Kd.mono_const _) (Kd.mono_pair (Kd.mono_const _) (Kd.mono_pair (Kd.mono_const _) (Kd.mono_pair (Kd.mono_const _) (Kd.mono_pair (Kd.mono_const _) (Kd.mono_slice 40 Kd.mono_id))))))
theorem sub40 : Kd.Sub F40 [40] := Kd.sub_iso _ (Kd.sub_pair (Kd.sub_const _ (by decide)) (Kd.sub_pair (Kd.sub_const _ (by decide)) (Kd.sub_pair (Kd.sub_const _ (by decide)) (Kd.sub_pair (Kd.sub_const _ (by decide)) (Kd.sub_pair (Kd.sub_const _ (by decide)) (Kd.sub_slice 40 (by decide) Kd.sub_id))))))
theorem sz40 : ∀ n, (Kd.upto F40 6 [40] n).sz = 6 := Kd.upto_sz (fun _ => rfl)
def k40 : Kd S40 := Kd.fix F40 6 [40] sz40 (Kd.upto_E sub40)
theorem k40_heap : Kd.Heap k40 := Kd.heap_fix (fun _ h_ => Kd.heap_iso _ (Kd.heap_pair (Kd.heap_int .i64) (Kd.heap_pair (Kd.heap_int .i64) (Kd.heap_pair (Kd.heap_int .i64) (Kd.heap_pair (Kd.heap_int .i64) (Kd.heap_pair (Kd.heap_int .i64) (Kd.heap_slice 40 h_)))))))
theorem k40_open {w : World} {x : S40} {cs : List Value} (h : k40.K w x cs) : ∃ A5 c5, cs = [.int .i64 x.f0, .int .i64 x.f1, .int .i64 x.f2, .int .i64 x.f3, .int .i64 x.f4, .slice A5 x.f5.length c5] ∧ x.f5.length ≤ c5 ∧ k40.C w A5 x.f5.length x.f5 := by
  obtain ⟨n, h⟩ := h
  cases n with
  | zero => exact h.elim
  | succ n =>
    obtain ⟨_, _, rfl, rfl, ⟨_, _, rfl, rfl, ⟨_, _, rfl, rfl, ⟨_, _, rfl, rfl, ⟨_, _, rfl, rfl, ⟨A5, c5, rfl, l5, g5⟩⟩⟩⟩⟩⟩ := h
    exact ⟨A5, c5, rfl, l5, Kd.fix_C g5⟩
theorem k40_mk (w : World) (x : S40) {A5 : Option Addr} {c5 : Nat} (l5 : x.f5.length ≤ c5) (g5 : k40.C w A5 x.f5.length x.f5) : k40.K w x [.int .i64 x.f0, .int .i64 x.f1, .int .i64 x.f2, .int .i64 x.f3, .int .i64 x.f4, .slice A5 x.f5.length c5] := by
  obtain ⟨n5, q5⟩ := Kd.fix_C_back mono40 g5
  have r5 := Kd.upto_C_le mono40 sz40 (show n5 ≤ n5 by omega) q5
  exact ⟨n5 + 1, ⟨[.int .i64 x.f0], [.int .i64 x.f1, .int .i64 x.f2, .int .i64 x.f3, .int .i64 x.f4, .slice A5 x.f5.length c5], rfl, rfl, ⟨[.int .i64 x.f1], [.int .i64 x.f2, .int .i64 x.f3, .int .i64 x.f4, .slice A5 x.f5.length c5], rfl, rfl, ⟨[.int .i64 x.f2], [.int .i64 x.f3, .int .i64 x.f4, .slice A5 x.f5.length c5], rfl, rfl, ⟨[.int .i64 x.f3], [.int .i64 x.f4, .slice A5 x.f5.length c5], rfl, rfl, ⟨[.int .i64 x.f4], [.slice A5 x.f5.length c5], rfl, rfl, ⟨A5, c5, rfl, l5, r5⟩⟩⟩⟩⟩⟩⟩
theorem k40_mkM (w : World) (base : Nat) (ok : Nat → Prop) (x : S40) {v5 : Value} (g5 : k40.R 40 w base ok v5 x.f5) : k40.M w base ok x [.int .i64 x.f0, .int .i64 x.f1, .int .i64 x.f2, .int .i64 x.f3, .int .i64 x.f4, v5] := by
  obtain ⟨n5, q5⟩ := Kd.fix_R_back mono40 g5
  have r5 := Kd.upto_R_le mono40 sz40 (show n5 ≤ n5 by omega) q5
  exact ⟨n5 + 1, ⟨[.int .i64 x.f0], [.int .i64 x.f1, .int .i64 x.f2, .int .i64 x.f3, .int .i64 x.f4, v5], rfl, rfl, ⟨[.int .i64 x.f1], [.int .i64 x.f2, .int .i64 x.f3, .int .i64 x.f4, v5], rfl, rfl, ⟨[.int .i64 x.f2], [.int .i64 x.f3, .int .i64 x.f4, v5], rfl, rfl, ⟨[.int .i64 x.f3], [.int .i64 x.f4, v5], rfl, rfl, ⟨[.int .i64 x.f4], [v5], rfl, rfl, ⟨v5, rfl, r5⟩⟩⟩⟩⟩⟩⟩
theorem k40_openF {W : World} {ok : Nat → Prop} {x : S40} {cs : List Value} (h : Kd.FK k40 W ok x cs) : ∃ A5 c5, cs = [.int .i64 x.f0, .int .i64 x.f1, .int .i64 x.f2, .int .i64 x.f3, .int .i64 x.f4, .slice A5 x.f5.length c5] ∧ x.f5.length ≤ c5 ∧ Kd.F k40 W ok A5 x.f5.length x.f5 := by
  obtain ⟨A5, c5, rfl, l5, _⟩ := k40_open (Kd.FK_now h)
  exact ⟨A5, c5, rfl, l5, (fun W' hW => by obtain ⟨A5_, c5_, he, l5_, g5_⟩ := k40_open (h W' hW); injection (Option.some.inj (show some (Value.slice A5 x.f5.length c5) = some (Value.slice A5_ x.f5.length c5_) from congrArg (fun l => l[5]?) he)) with ha_ _ _; rw [ha_]; exact g5_)⟩
theorem k40_mkF (W : World) (ok : Nat → Prop) (x : S40) {A5 : Option Addr} {c5 : Nat} (l5 : x.f5.length ≤ c5) (g5 : Kd.F k40 W ok A5 x.f5.length x.f5) : Kd.FK k40 W ok x [.int .i64 x.f0, .int .i64 x.f1, .int .i64 x.f2, .int .i64 x.f3, .int .i64 x.f4, .slice A5 x.f5.length c5] := fun W2 hW => k40_mk W2 x l5 (g5 W2 hW)
def rd_T40 (xs : List S40) (i : Int) : S40 := xs.getD i.toNat z40
theorem at_T40 {w : World} {A : Option Addr} {n : Nat} {xs : List S40} (h : Kd.C k40 w A n xs) (i : Int) (h0 : 0 ≤ i) (h1 : i < n) : ∃ ad A5 c5, A = some ad ∧ w.cell? (ad.add (i.toNat * 6)) = some (.int .i64 (rd_T40 xs i).f0) ∧ w.cell? ⟨(ad.add (i.toNat * 6)).block, (ad.add (i.toNat * 6)).off + 1, none⟩ = some (.int .i64 (rd_T40 xs i).f1) ∧ w.cell? ⟨(ad.add (i.toNat * 6)).block, (ad.add (i.toNat * 6)).off + 2, none⟩ = some (.int .i64 (rd_T40 xs i).f2) ∧ w.cell? ⟨(ad.add (i.toNat * 6)).block, (ad.add (i.toNat * 6)).off + 3, none⟩ = some (.int .i64 (rd_T40 xs i).f3) ∧ w.cell? ⟨(ad.add (i.toNat * 6)).block, (ad.add (i.toNat * 6)).off + 4, none⟩ = some (.int .i64 (rd_T40 xs i).f4) ∧ w.cell? ⟨(ad.add (i.toNat * 6)).block, (ad.add (i.toNat * 6)).off + 5, none⟩ = some (.slice A5 (rd_T40 xs i).f5.length c5) ∧ (rd_T40 xs i).f5.length ≤ c5 ∧ k40.C w A5 (rd_T40 xs i).f5.length (rd_T40 xs i).f5 := by
  obtain ⟨ad, c, e, _, hK, hc0⟩ := Kd.C_get h z40 i h0 h1
  have hc : ∀ j u, c[j]? = some u → w.cell? (ad.add (i.toNat * 6 + j)) = some u := hc0
  obtain ⟨A5, c5, rfl, l5, g5⟩ := k40_open hK
  exact ⟨ad, A5, c5, e, hc 0 _ rfl, by rw [← add_field _ _ 1 (by omega)]; exact hc 1 _ rfl, by rw [← add_field _ _ 2 (by omega)]; exact hc 2 _ rfl, by rw [← add_field _ _ 3 (by omega)]; exact hc 3 _ rfl, by rw [← add_field _ _ 4 (by omega)]; exact hc 4 _ rfl, by rw [← add_field _ _ 5 (by omega)]; exact hc 5 _ rfl, l5, g5⟩
structure S85 where
  f0 : Int
  f1 : Int
def k85 : Kd S85 := Kd.iso (Kd.pair (Kd.int .i64) (Kd.int .i64)) (fun x : S85 => (x.f0, x.f1))
theorem k85_heap : Kd.Heap k85 := Kd.heap_iso _ (Kd.heap_pair (Kd.heap_int .i64) (Kd.heap_int .i64))
theorem k85_open {w : World} {x : S85} {cs : List Value} (h : k85.K w x cs) : cs = [.int .i64 x.f0, .int .i64 x.f1] := by
  obtain ⟨_, _, rfl, rfl, rfl⟩ := h
  exact rfl
theorem k85_mk (w : World) (x : S85)  : k85.K w x [.int .i64 x.f0, .int .i64 x.f1] := ⟨[.int .i64 x.f0], [.int .i64 x.f1], rfl, rfl, rfl⟩
theorem k85_mkF (W : World) (ok : Nat → Prop) (x : S85) : Kd.FK k85 W ok x [.int .i64 x.f0, .int .i64 x.f1] := fun W2 _ => k85_mk W2 x
structure S67 where
  f0 : Int
  f1 : (List S85)
def z67 : S67 := ⟨(0 : Int), ([] : List S85)⟩
def k67 : Kd S67 := Kd.iso (Kd.pair (Kd.int .i64) (Kd.slice 85 k85)) (fun x : S67 => (x.f0, x.f1))
theorem k67_heap : Kd.Heap k67 := Kd.heap_iso _ (Kd.heap_pair (Kd.heap_int .i64) (Kd.heap_slice 85 k85_heap))
theorem k67_open {w : World} {x : S67} {cs : List Value} (h : k67.K w x cs) : ∃ A1 c1, cs = [.int .i64 x.f0, .slice A1 x.f1.length c1] ∧ x.f1.length ≤ c1 ∧ k85.C w A1 x.f1.length x.f1 := by
  obtain ⟨_, _, rfl, rfl, ⟨A1, c1, rfl, l1, g1⟩⟩ := h
  exact ⟨A1, c1, rfl, l1, g1⟩
theorem k67_mk (w : World) (x : S67) {A1 : Option Addr} {c1 : Nat} (l1 : x.f1.length ≤ c1) (g1 : k85.C w A1 x.f1.length x.f1) : k67.K w x [.int .i64 x.f0, .slice A1 x.f1.length c1] := ⟨[.int .i64 x.f0], [.slice A1 x.f1.length c1], rfl, rfl, ⟨A1, c1, rfl, l1, g1⟩⟩
theorem k67_openF {W : World} {ok : Nat → Prop} {x : S67} {cs : List Value} (h : Kd.FK k67 W ok x cs) : ∃ A1 c1, cs = [.int .i64 x.f0, .slice A1 x.f1.length c1] ∧ x.f1.length ≤ c1 ∧ Kd.F k85 W ok A1 x.f1.length x.f1 := by
  obtain ⟨A1, c1, rfl, l1, _⟩ := k67_open (Kd.FK_now h)
  exact ⟨A1, c1, rfl, l1, (fun W' hW => by obtain ⟨A1_, c1_, he, l1_, g1_⟩ := k67_open (h W' hW); injection (Option.some.inj (show some (Value.slice A1 x.f1.length c1) = some (Value.slice A1_ x.f1.length c1_) from congrArg (fun l => l[1]?) he)) with ha_ _ _; rw [ha_]; exact g1_)⟩
theorem k67_mkF (W : World) (ok : Nat → Prop) (x : S67) {A1 : Option Addr} {c1 : Nat} (l1 : x.f1.length ≤ c1) (g1 : Kd.F k85 W ok A1 x.f1.length x.f1) : Kd.FK k67 W ok x [.int .i64 x.f0, .slice A1 x.f1.length c1] := fun W2 hW => k67_mk W2 x l1 (g1 W2 hW)
def rd_T67 (xs : List S67) (i : Int) : S67 := xs.getD i.toNat z67
theorem at_T67 {w : World} {A : Option Addr} {n : Nat} {xs : List S67} (h : Kd.C k67 w A n xs) (i : Int) (h0 : 0 ≤ i) (h1 : i < n) : ∃ ad A1 c1, A = some ad ∧ w.cell? (ad.add (i.toNat * 2)) = some (.int .i64 (rd_T67 xs i).f0) ∧ w.cell? ⟨(ad.add (i.toNat * 2)).block, (ad.add (i.toNat * 2)).off + 1, none⟩ = some (.slice A1 (rd_T67 xs i).f1.length c1) ∧ (rd_T67 xs i).f1.length ≤ c1 ∧ k85.C w A1 (rd_T67 xs i).f1.length (rd_T67 xs i).f1 := by
  obtain ⟨ad, c, e, _, hK, hc0⟩ := Kd.C_get h z67 i h0 h1
  have hc : ∀ j u, c[j]? = some u → w.cell? (ad.add (i.toNat * 2 + j)) = some u := hc0
  obtain ⟨A1, c1, rfl, l1, g1⟩ := k67_open hK
  exact ⟨ad, A1, c1, e, hc 0 _ rfl, by rw [← add_field _ _ 1 (by omega)]; exact hc 1 _ rfl, l1, g1⟩
structure S42 where
  f0 : ByteArray
  f1 : Bool
  f2 : S40
def z42 : S42 := ⟨(⟨#[]⟩ : ByteArray), false, z40⟩
def k42 : Kd S42 := Kd.iso (Kd.pair Kd.string (Kd.pair Kd.bool k40)) (fun x : S42 => (x.f0, x.f1, x.f2))
theorem k42_heap : Kd.Heap k42 := Kd.heap_iso _ (Kd.heap_pair Kd.heap_string (Kd.heap_pair Kd.heap_bool k40_heap))
theorem k42_open {w : World} {x : S42} {cs : List Value} (h : k42.K w x cs) : ∃ A7 c7, cs = [.string x.f0, .bool x.f1, .int .i64 x.f2.f0, .int .i64 x.f2.f1, .int .i64 x.f2.f2, .int .i64 x.f2.f3, .int .i64 x.f2.f4, .slice A7 x.f2.f5.length c7] ∧ x.f2.f5.length ≤ c7 ∧ k40.C w A7 x.f2.f5.length x.f2.f5 := by
  obtain ⟨_, _, rfl, rfl, ⟨_, _, rfl, rfl, s2⟩⟩ := h
  obtain ⟨A7, c7, rfl, l7, g7⟩ := k40_open s2
  exact ⟨A7, c7, rfl, l7, g7⟩
theorem k42_mk (w : World) (x : S42) {A7 : Option Addr} {c7 : Nat} (l7 : x.f2.f5.length ≤ c7) (g7 : k40.C w A7 x.f2.f5.length x.f2.f5) : k42.K w x [.string x.f0, .bool x.f1, .int .i64 x.f2.f0, .int .i64 x.f2.f1, .int .i64 x.f2.f2, .int .i64 x.f2.f3, .int .i64 x.f2.f4, .slice A7 x.f2.f5.length c7] := ⟨[.string x.f0], [.bool x.f1, .int .i64 x.f2.f0, .int .i64 x.f2.f1, .int .i64 x.f2.f2, .int .i64 x.f2.f3, .int .i64 x.f2.f4, .slice A7 x.f2.f5.length c7], rfl, rfl, ⟨[.bool x.f1], [.int .i64 x.f2.f0, .int .i64 x.f2.f1, .int .i64 x.f2.f2, .int .i64 x.f2.f3, .int .i64 x.f2.f4, .slice A7 x.f2.f5.length c7], rfl, rfl, (k40_mk w x.f2 l7 g7)⟩⟩
theorem k42_openF {W : World} {ok : Nat → Prop} {x : S42} {cs : List Value} (h : Kd.FK k42 W ok x cs) : ∃ A7 c7, cs = [.string x.f0, .bool x.f1, .int .i64 x.f2.f0, .int .i64 x.f2.f1, .int .i64 x.f2.f2, .int .i64 x.f2.f3, .int .i64 x.f2.f4, .slice A7 x.f2.f5.length c7] ∧ x.f2.f5.length ≤ c7 ∧ Kd.F k40 W ok A7 x.f2.f5.length x.f2.f5 := by
  obtain ⟨A7, c7, rfl, l7, _⟩ := k42_open (Kd.FK_now h)
  exact ⟨A7, c7, rfl, l7, (fun W' hW => by obtain ⟨A7_, c7_, he, l7_, g7_⟩ := k42_open (h W' hW); injection (Option.some.inj (show some (Value.slice A7 x.f2.f5.length c7) = some (Value.slice A7_ x.f2.f5.length c7_) from congrArg (fun l => l[7]?) he)) with ha_ _ _; rw [ha_]; exact g7_)⟩
theorem k42_mkF (W : World) (ok : Nat → Prop) (x : S42) {A7 : Option Addr} {c7 : Nat} (l7 : x.f2.f5.length ≤ c7) (g7 : Kd.F k40 W ok A7 x.f2.f5.length x.f2.f5) : Kd.FK k42 W ok x [.string x.f0, .bool x.f1, .int .i64 x.f2.f0, .int .i64 x.f2.f1, .int .i64 x.f2.f2, .int .i64 x.f2.f3, .int .i64 x.f2.f4, .slice A7 x.f2.f5.length c7] := fun W2 hW => k42_mk W2 x l7 (g7 W2 hW)
def rd_T42 (xs : List S42) (i : Int) : S42 := xs.getD i.toNat z42
theorem at_T42 {w : World} {A : Option Addr} {n : Nat} {xs : List S42} (h : Kd.C k42 w A n xs) (i : Int) (h0 : 0 ≤ i) (h1 : i < n) : ∃ ad A7 c7, A = some ad ∧ w.cell? (ad.add (i.toNat * 8)) = some (.string (rd_T42 xs i).f0) ∧ w.cell? ⟨(ad.add (i.toNat * 8)).block, (ad.add (i.toNat * 8)).off + 1, none⟩ = some (.bool (rd_T42 xs i).f1) ∧ w.cell? ⟨(ad.add (i.toNat * 8)).block, (ad.add (i.toNat * 8)).off + 2, none⟩ = some (.int .i64 (rd_T42 xs i).f2.f0) ∧ w.cell? ⟨(ad.add (i.toNat * 8)).block, (ad.add (i.toNat * 8)).off + 3, none⟩ = some (.int .i64 (rd_T42 xs i).f2.f1) ∧ w.cell? ⟨(ad.add (i.toNat * 8)).block, (ad.add (i.toNat * 8)).off + 4, none⟩ = some (.int .i64 (rd_T42 xs i).f2.f2) ∧ w.cell? ⟨(ad.add (i.toNat * 8)).block, (ad.add (i.toNat * 8)).off + 5, none⟩ = some (.int .i64 (rd_T42 xs i).f2.f3) ∧ w.cell? ⟨(ad.add (i.toNat * 8)).block, (ad.add (i.toNat * 8)).off + 6, none⟩ = some (.int .i64 (rd_T42 xs i).f2.f4) ∧ w.cell? ⟨(ad.add (i.toNat * 8)).block, (ad.add (i.toNat * 8)).off + 7, none⟩ = some (.slice A7 (rd_T42 xs i).f2.f5.length c7) ∧ (rd_T42 xs i).f2.f5.length ≤ c7 ∧ k40.C w A7 (rd_T42 xs i).f2.f5.length (rd_T42 xs i).f2.f5 := by
  obtain ⟨ad, c, e, _, hK, hc0⟩ := Kd.C_get h z42 i h0 h1
  have hc : ∀ j u, c[j]? = some u → w.cell? (ad.add (i.toNat * 8 + j)) = some u := hc0
  obtain ⟨A7, c7, rfl, l7, g7⟩ := k42_open hK
  exact ⟨ad, A7, c7, e, hc 0 _ rfl, by rw [← add_field _ _ 1 (by omega)]; exact hc 1 _ rfl, by rw [← add_field _ _ 2 (by omega)]; exact hc 2 _ rfl, by rw [← add_field _ _ 3 (by omega)]; exact hc 3 _ rfl, by rw [← add_field _ _ 4 (by omega)]; exact hc 4 _ rfl, by rw [← add_field _ _ 5 (by omega)]; exact hc 5 _ rfl, by rw [← add_field _ _ 6 (by omega)]; exact hc 6 _ rfl, by rw [← add_field _ _ 7 (by omega)]; exact hc 7 _ rfl, l7, g7⟩
end Go.Proofs.YtpnkifincadakaaGreatDoor.PPackSpecs
end
section
namespace Go.Proofs.YtpnkifincadakaaGreatDoor.Wr
open Go.RowKit Go.Pk Go.Am Go.Proofs.YtpnkifincadakaaGreatDoorW.PrintWords Go.Proofs.YtpnkifincadakaaGreatDoor.PPackSpecs
def Oth (W : Nat) (w w' : World) : Prop := ∀ (k : Nat) (c : Array Value) (t : TypeId) (fr : Nat × Nat), w.heap[k]? = some (.cells c t fr) → t ≠ 5 → k ≠ W → w'.heap[k]? = some (.cells c t fr)
theorem Oth.refl (W : Nat) (w : World) : Oth W w w := fun _ _ _ _ h _ _ => h
theorem Oth.trans {W : Nat} {a b c : World} (h : Oth W a b) (k : Oth W b c) : Oth W a c := fun i x t fr hi ht hne => k i x t fr (h i x t fr hi ht hne) ht hne
theorem Oth.alloc {W : Nat} {a b : World} (h : Oth W a b) (o : Obj) : Oth W a (b.alloc o) := fun i x t fr hi ht hne => by
  have := h i x t fr hi ht hne
  have hlt := blk_lt this
  show (b.heap.push o)[i]? = _
  rw [Array.getElem?_push, if_neg (by omega)]
  exact this
theorem Oth.setCell {W : Nat} {a b : World} (h : Oth W a b) (j : Nat) (u : Value) : Oth W a (b.setCell ⟨W, j, none⟩ u) := fun i x t fr hi ht hne => by
  rw [Below.heap_setCell _ _ _ _ (by simpa using hne)]
  exact h i x t fr hi ht hne
theorem Oth.grown {W base n : Nat} {a b c : World} {v : Value} {xs : List Value} (h : Oth W a b) (ho : b.ownsRow base 5 1 v n xs) (hg : b.grownBy c v.ownBlock) : Oth W a c := fun i x t fr hi ht hne => by
  have h1 := h i x t fr hi ht hne
  rw [hg.block i (blk_lt h1) (fun e => ?_)]
  · exact h1
  · obtain ⟨cells, hc⟩ := own_typed ho i e.symm
    rw [h1] at hc
    injection hc with hc
    injection hc with _ hc
    exact ht hc
structure WB (B W : Nat) (bs : List Int) (w : World) : Prop where
  le : B ≤ W
  blk : ∃ v, w.heap[W]? = some (.cells #[v] 71 (0, 0)) ∧ w.ownsRow B 5 1 v bs.length (nums .u8 bs) ∧ v.ownBlock ≠ some W
theorem WB.alloc {B W : Nat} {bs : List Int} {w : World} (h : WB B W bs w) (o : Obj) : WB B W bs (w.alloc o) := by
  obtain ⟨v, h1, h2, h3⟩ := h.blk
  exact ⟨h.le, v, blk_alloc h1 o, h2.alloc o, h3⟩
theorem WB.lt {B W : Nat} {bs : List Int} {w : World} (h : WB B W bs w) : W < w.heap.size := by
  obtain ⟨v, h1, _⟩ := h.blk
  exact blk_lt h1
structure Wrote (B W : Nat) (bs : List Int) (w w' : World) : Prop where
  wb : WB B W bs w'
  below : Below B w w'
  oth : Oth W w w'
theorem Wrote.trans {B W : Nat} {bs bs' : List Int} {a b c : World} (h : Wrote B W bs a b) (k : Wrote B W bs' b c) : Wrote B W bs' a c := ⟨k.wb, h.below.trans k.below, h.oth.trans k.oth⟩
theorem Wrote.refl {B W : Nat} {bs : List Int} {w : World} (h : WB B W bs w) : Wrote B W bs w w := ⟨h, Below.refl _ _, Oth.refl _ _⟩
theorem Wrote.alloc {B W : Nat} {bs : List Int} {a b : World} (h : Wrote B W bs a b) (o : Obj) : Wrote B W bs a (b.alloc o) := ⟨h.wb.alloc o, h.below.alloc (Nat.le_trans h.wb.le (Nat.le_of_lt h.wb.lt)) o, h.oth.alloc o⟩
theorem WB.put {B W : Nat} {bs new : List Int} {w w1 : World} {v v' : Value} (hle : B ≤ W) (hB : B ≤ w.heap.size) (hb : w.heap[W]? = some (.cells #[v] 71 (0, 0))) (ho : w.ownsRow B 5 1 v bs.length (nums .u8 bs)) (hne : v.ownBlock ≠ some W)
    (ho' : w1.ownsRow B 5 1 v' (bs.length + new.length) (nums .u8 bs ++ nums .u8 new)) (hg : w.grownBy w1 v.ownBlock) : Wrote B W (bs ++ new) w (w1.setCell ⟨W, 0, none⟩ v') := by
  have hlt := blk_lt hb
  have hb1 : w1.heap[W]? = some (.cells #[v] 71 (0, 0)) := by rw [hg.block W hlt (fun e => hne e.symm)]; exact hb
  have hne' : v'.ownBlock ≠ some W := fun e => by
    obtain ⟨cells, hc⟩ := own_typed ho' W e
    rw [hb1] at hc
    injection hc with hc
    injection hc with _ hc
    exact absurd hc (by decide)
  refine ⟨⟨hle, v', (blk_set hb1 0 v').trans rfl, ?_, hne'⟩, ?_, ?_⟩
  · have := own_setCell ho' (p := ⟨W, 0, none⟩) (fun e => hne' e.symm) v'
    rw [List.length_append, nums_append]
    exact this
  · exact ((Below.refl B w).grown hg hB (fun k hk => own_base ho k hk)).setCell (p := ⟨W, 0, none⟩) hle v'
  · exact ((Oth.refl W w).grown ho hg).setCell 0 v'
theorem infoB : (Tryz.prog.info? 5).map (fun i => (i.zero, i.size, i.bytes)) = some (some (.int .u8 0), 1, 1) := by kernel_rfl
set_option maxHeartbeats 2000000 in
set_option maxRecDepth 100000 in
theorem u1 (B W : Nat) (bs : List Int) (n : Int) (w : World) (h : WB B W bs w) (hlen : bs.length + 1 ≤ 140737488355328) :
    Calls Tryz.prog 25 #[.pointer (some ⟨W, 0, none⟩), .int .i64 n] w fun e w' => e = .returned (.tuple #[]) ∧ Wrote B W (bs ++ [n % 256]) w w' := by
  obtain ⟨i0, hi, hz0, hz1, hz2⟩ := info_parts infoB
  obtain ⟨hle, v, hbk, hown, hne⟩ := h
  have hBw : B ≤ w.heap.size := Nat.le_trans hle (Nat.le_of_lt (blk_lt hbk))
  have c0 : w.cell? ⟨W, 0, none⟩ = some v := (blk_cell hbk 0).trans rfl
  have hcv0 : IntKind.u8.wrap (n) = n % 256 := IntKind.wrap_u8' _
  go_enter Tryz.func25, Tryz.ntmps25
  go_wp2_with (at_builtin; refine wpList_append_own _ rfl _ _ 30 rfl B 5 i0 (.int .u8 0) 1 1 Tryz.underlying30 hi hz0 hz1 hz2 rfl (by decide) _ _ _ rfl (hown.alloc _) ⟨w.heap.size, 0, none⟩ 1 1 [.int .u8 (n % 256)] rfl rfl ?c1 ?c2 ?c3 ?c4 ?c5 ?_)
  case c1 =>
    intro j u hj
    match j, hj with
    | 0, hj => simp at hj; subst hj; simp [Addr.add]
  case c2 => intro u hu; simp at hu; rcases hu with rfl <;> rfl
  case c3 => unfold maxLen; omega
  case c4 => omega
  case c5 => simp; omega
  intro v' w2 hown' hgrow _
  have hb1 := blk_alloc hbk (.cells #[.int .u8 (n % 256)] 5)
  have hput := WB.put (new := [n % 256]) hle (w := w.alloc (.cells #[.int .u8 (n % 256)] 5)) (by simp; omega) hb1 (hown.alloc _) hne hown' hgrow
  have hb2 : w2.heap[W]? = some (.cells #[v] 71 (0, 0)) := by rw [hgrow.block W (blk_lt hb1) (fun e => hne e.symm)]; exact hb1
  have c1 : w2.cell? ⟨W, 0, none⟩ = some v := (blk_cell hb2 0).trans rfl
  have f1 : w2.frozen? ⟨W, 0, none⟩ = false := blk_frozen hb2 0
  obtain ⟨ao, co, rfl⟩ := own_slice hown'
  go_wp2
  go_end0
  exact ⟨rfl, ((Wrote.refl ⟨hle, v, hbk, hown, hne⟩).alloc _).trans hput⟩
set_option maxHeartbeats 2000000 in
set_option maxRecDepth 100000 in
theorem u2 (B W : Nat) (bs : List Int) (n : Int) (w : World) (h : WB B W bs w) (hlen : bs.length + 2 ≤ 140737488355328) :
    Calls Tryz.prog 30 #[.pointer (some ⟨W, 0, none⟩), .int .i64 n] w fun e w' => e = .returned (.tuple #[]) ∧ Wrote B W (bs ++ [n % 256, n / 256 % 256]) w w' := by
  obtain ⟨i0, hi, hz0, hz1, hz2⟩ := info_parts infoB
  obtain ⟨hle, v, hbk, hown, hne⟩ := h
  have hBw : B ≤ w.heap.size := Nat.le_trans hle (Nat.le_of_lt (blk_lt hbk))
  have c0 : w.cell? ⟨W, 0, none⟩ = some v := (blk_cell hbk 0).trans rfl
  have hcv0 : IntKind.u8.wrap (n) = n % 256 := IntKind.wrap_u8' _
  have hcv1 : IntKind.u8.wrap (n / 256) = n / 256 % 256 := IntKind.wrap_u8' _
  go_enter Tryz.func30, Tryz.ntmps30
  go_wp2_with (at_builtin; refine wpList_append_own _ rfl _ _ 30 rfl B 5 i0 (.int .u8 0) 1 1 Tryz.underlying30 hi hz0 hz1 hz2 rfl (by decide) _ _ _ rfl (hown.alloc _) ⟨w.heap.size, 0, none⟩ 2 2 [.int .u8 (n % 256), .int .u8 (n / 256 % 256)] rfl rfl ?c1 ?c2 ?c3 ?c4 ?c5 ?_)
  case c1 =>
    intro j u hj
    match j, hj with
    | 0, hj => simp at hj; subst hj; simp [Addr.add]
    | 1, hj => simp at hj; subst hj; simp [Addr.add]
  case c2 => intro u hu; simp at hu; rcases hu with rfl | rfl <;> rfl
  case c3 => unfold maxLen; omega
  case c4 => omega
  case c5 => simp; omega
  intro v' w2 hown' hgrow _
  have hb1 := blk_alloc hbk (.cells #[.int .u8 (n % 256), .int .u8 (n / 256 % 256)] 5)
  have hput := WB.put (new := [n % 256, n / 256 % 256]) hle (w := w.alloc (.cells #[.int .u8 (n % 256), .int .u8 (n / 256 % 256)] 5)) (by simp; omega) hb1 (hown.alloc _) hne hown' hgrow
  have hb2 : w2.heap[W]? = some (.cells #[v] 71 (0, 0)) := by rw [hgrow.block W (blk_lt hb1) (fun e => hne e.symm)]; exact hb1
  have c1 : w2.cell? ⟨W, 0, none⟩ = some v := (blk_cell hb2 0).trans rfl
  have f1 : w2.frozen? ⟨W, 0, none⟩ = false := blk_frozen hb2 0
  obtain ⟨ao, co, rfl⟩ := own_slice hown'
  go_wp2
  go_end0
  exact ⟨rfl, ((Wrote.refl ⟨hle, v, hbk, hown, hne⟩).alloc _).trans hput⟩
set_option maxHeartbeats 2000000 in
set_option maxRecDepth 100000 in
theorem u4 (B W : Nat) (bs : List Int) (n : Int) (w : World) (h : WB B W bs w) (hlen : bs.length + 4 ≤ 140737488355328) :
    Calls Tryz.prog 73 #[.pointer (some ⟨W, 0, none⟩), .int .i64 n] w fun e w' => e = .returned (.tuple #[]) ∧ Wrote B W (bs ++ [n % 256, n / 256 % 256, n / 65536 % 256, n / 16777216 % 256]) w w' := by
  obtain ⟨i0, hi, hz0, hz1, hz2⟩ := info_parts infoB
  obtain ⟨hle, v, hbk, hown, hne⟩ := h
  have hBw : B ≤ w.heap.size := Nat.le_trans hle (Nat.le_of_lt (blk_lt hbk))
  have c0 : w.cell? ⟨W, 0, none⟩ = some v := (blk_cell hbk 0).trans rfl
  have hcv0 : IntKind.u8.wrap (n) = n % 256 := IntKind.wrap_u8' _
  have hcv1 : IntKind.u8.wrap (n / 256) = n / 256 % 256 := IntKind.wrap_u8' _
  have hcv2 : IntKind.u8.wrap (n / 65536) = n / 65536 % 256 := IntKind.wrap_u8' _
  have hcv3 : IntKind.u8.wrap (n / 16777216) = n / 16777216 % 256 := IntKind.wrap_u8' _
  go_enter Tryz.func73, Tryz.ntmps73
  go_wp2_with (at_builtin; refine wpList_append_own _ rfl _ _ 30 rfl B 5 i0 (.int .u8 0) 1 1 Tryz.underlying30 hi hz0 hz1 hz2 rfl (by decide) _ _ _ rfl (hown.alloc _) ⟨w.heap.size, 0, none⟩ 4 4 [.int .u8 (n % 256), .int .u8 (n / 256 % 256), .int .u8 (n / 65536 % 256), .int .u8 (n / 16777216 % 256)] rfl rfl ?c1 ?c2 ?c3 ?c4 ?c5 ?_)
  case c1 =>
    intro j u hj
    match j, hj with
    | 0, hj => simp at hj; subst hj; simp [Addr.add]
    | 1, hj => simp at hj; subst hj; simp [Addr.add]
    | 2, hj => simp at hj; subst hj; simp [Addr.add]
    | 3, hj => simp at hj; subst hj; simp [Addr.add]
  case c2 => intro u hu; simp at hu; rcases hu with rfl | rfl | rfl | rfl <;> rfl
  case c3 => unfold maxLen; omega
  case c4 => omega
  case c5 => simp; omega
  intro v' w2 hown' hgrow _
  have hb1 := blk_alloc hbk (.cells #[.int .u8 (n % 256), .int .u8 (n / 256 % 256), .int .u8 (n / 65536 % 256), .int .u8 (n / 16777216 % 256)] 5)
  have hput := WB.put (new := [n % 256, n / 256 % 256, n / 65536 % 256, n / 16777216 % 256]) hle (w := w.alloc (.cells #[.int .u8 (n % 256), .int .u8 (n / 256 % 256), .int .u8 (n / 65536 % 256), .int .u8 (n / 16777216 % 256)] 5)) (by simp; omega) hb1 (hown.alloc _) hne hown' hgrow
  have hb2 : w2.heap[W]? = some (.cells #[v] 71 (0, 0)) := by rw [hgrow.block W (blk_lt hb1) (fun e => hne e.symm)]; exact hb1
  have c1 : w2.cell? ⟨W, 0, none⟩ = some v := (blk_cell hb2 0).trans rfl
  have f1 : w2.frozen? ⟨W, 0, none⟩ = false := blk_frozen hb2 0
  obtain ⟨ao, co, rfl⟩ := own_slice hown'
  go_wp2
  go_end0
  exact ⟨rfl, ((Wrote.refl ⟨hle, v, hbk, hown, hne⟩).alloc _).trans hput⟩
end Go.Proofs.YtpnkifincadakaaGreatDoor.Wr
end
section
namespace Go.Proofs.YtpnkifincadakaaGreatDoor.Wr
open Go.RowKit Go.Pk Go.Proofs.YtpnkifincadakaaGreatDoorW.PrintWords Go.Proofs.YtpnkifincadakaaGreatDoor.PPackSpecs
abbrev Fb {α : Type} (d : Kd α) (w : World) (B : Nat) (A : Option Addr) (n : Nat) (xs : List α) : Prop := Kd.F d w (fun k => k < B) A n xs
theorem Fb.below {α : Type} {d : Kd α} {w w' : World} {B : Nat} {A : Option Addr} {n : Nat} {xs : List α} (h : Fb d w B A n xs) (hb : Below B w w') : Fb d w' B A n xs := Kd.F_step h fun k hk _ => hb.block k hk
theorem F_at {α : Type} {d : Kd α} {w : World} {ok : Nat → Prop} {A : Option Addr} {n : Nat} {xs : List α} (h : Kd.F d w ok A n xs) (k : Nat) (hk : k < xs.length) :
    ∃ ad c, A = some ad ∧ Kd.FK d w ok xs[k] c ∧ (∀ u, c[0]? = some u → w.cell? (ad.add (k * d.sz)) = some u) ∧ (∀ j u, 0 < j → c[j]? = some u → w.cell? ⟨(ad.add (k * d.sz)).block, (ad.add (k * d.sz)).off + j, none⟩ = some u) := by
  have hn := Kd.F_len h
  obtain ⟨ad, c, e, _, hK, hc, _⟩ := Kd.F_get h xs[k] (k : Int) (by omega) (by omega)
  simp only [Int.toNat_natCast] at hK hc
  rw [List.getD_eq_getElem?_getD, List.getElem?_eq_getElem hk] at hK
  refine ⟨ad, c, e, hK, fun u hu => ?_, fun j u hj hu => ?_⟩
  · have := hc 0 u hu
    simpa using this
  · have := hc j u hu
    rw [add_field _ _ _ hj] at this
    exact this
theorem strCells_nums (s : ByteArray) : Lib.strCells s = nums .u8 (bytesOf s) := by
  unfold Lib.strCells nums bytesOf
  rw [List.map_map]
  rfl
set_option maxHeartbeats 2000000 in
set_option maxRecDepth 100000 in
theorem name (B W : Nat) (bs : List Int) (s : ByteArray) (w : World) (h : WB B W bs w) (hlen : bs.length + 1 + s.size ≤ 140737488355328) :
    Calls Tryz.prog 29 #[.pointer (some ⟨W, 0, none⟩), .string s] w fun e w' => e = .returned (.tuple #[]) ∧ Wrote B W (bs ++ ((s.size : Int) % 256 :: bytesOf s)) w w' := by
  obtain ⟨i0, hi, hz0, hz1, hz2⟩ := info_parts infoB
  go_enter Tryz.func29, Tryz.ntmps29
  go_wp2_with (go_at_call 25; refine (u1 B W bs s.size w h (by omega)).mono ?_)
  rintro e w1 ⟨rfl, h1⟩
  obtain ⟨hle, v, hbk, hown, hne⟩ := h1.wb
  have hBw : B ≤ w1.heap.size := Nat.le_trans hle (Nat.le_of_lt (blk_lt hbk))
  have c0 : w1.cell? ⟨W, 0, none⟩ = some v := (blk_cell hbk 0).trans rfl
  go_wp2_with (at_builtin; refine Lib.wpList_append_own_string _ rfl _ _ 30 9 rfl B 5 i0 Tryz.underlying30 Tryz.underlying9 hi hz0 hz1 hz2 _ _ _ rfl hown s rfl ?c3 ?c4 ?c5 ?_)
  case c3 => unfold maxLen; simp; omega
  case c4 => simp; omega
  case c5 => omega
  intro v' w2 hown' hgrow _
  rw [strCells_nums] at hown'
  have hput := WB.put (new := bytesOf s) hle hBw hbk hown hne (by rw [bytesOf_length, List.length_append]; exact hown') hgrow
  have hb2 : w2.heap[W]? = some (.cells #[v] 71 (0, 0)) := by rw [hgrow.block W (blk_lt hbk) (fun e => hne e.symm)]; exact hbk
  have c1 : w2.cell? ⟨W, 0, none⟩ = some v := (blk_cell hb2 0).trans rfl
  have f1 : w2.frozen? ⟨W, 0, none⟩ = false := blk_frozen hb2 0
  obtain ⟨ao, co, rfl⟩ := own_slice hown'
  go_wp2
  go_end0
  have hall := h1.trans hput
  rw [List.append_assoc] at hall
  exact ⟨rfl, hall⟩
set_option maxHeartbeats 2000000 in
set_option maxRecDepth 100000 in
theorem symbol (B W : Nat) (bs : List Int) (x : S85) (w : World) (h : WB B W bs w) (hlen : bs.length + 2 ≤ 140737488355328) :
    Calls Tryz.prog 79 #[.pointer (some ⟨W, 0, none⟩), .agg #[.int .i64 x.f0, .int .i64 x.f1]] w fun e w' => e = .returned (.tuple #[]) ∧ Wrote B W (bs ++ [x.f0 % 256, x.f1 % 256]) w w' := by
  go_enter Tryz.func79, Tryz.ntmps79
  have ha := (Wrote.refl h).alloc (.cells #[.int .i64 x.f0, .int .i64 x.f1] 85)
  have hbox : (w.alloc (.cells #[.int .i64 x.f0, .int .i64 x.f1] 85)).heap[w.heap.size]? = some (.cells #[.int .i64 x.f0, .int .i64 x.f1] 85 (0, 0)) := blk_new w _
  have hneW : w.heap.size ≠ W := by have := h.lt; omega
  go_wp2_with (go_at_call 25; refine (u1 B W bs x.f0 _ ha.wb (by omega)).mono ?_)
  rintro e w1 ⟨rfl, h1⟩
  have hb1 := h1.oth _ _ _ _ hbox (by decide) hneW
  have d1 : w1.cell? ⟨w.heap.size, 1, none⟩ = some (.int .i64 x.f1) := (blk_cell hb1 1).trans rfl
  go_wp2_with (go_at_call 25; refine (u1 B W (bs ++ [x.f0 % 256]) x.f1 _ h1.wb (by simp; omega)).mono ?_)
  rintro e w2 ⟨rfl, h2⟩
  go_wp2
  go_end0
  have hall := (ha.trans h1).trans h2
  rw [List.append_assoc] at hall
  exact ⟨rfl, hall⟩
end Go.Proofs.YtpnkifincadakaaGreatDoor.Wr
end
section
namespace Go.Proofs.YtpnkifincadakaaGreatDoor.Wr
open Go.RowKit Go.Pk Go.Proofs.YtpnkifincadakaaGreatDoorW.PrintWords Go.Proofs.YtpnkifincadakaaGreatDoor.PPackSpecs
def encSym (x : S85) : List Int := [x.f0 % 256, x.f1 % 256]
def encName (s : ByteArray) : List Int := (s.size : Int) % 256 :: bytesOf s
theorem flat_snoc {α : Type} (f : α → List Int) (xs : List α) (k : Nat) (h : k < xs.length) : (xs.take (k + 1)).flatMap f = (xs.take k).flatMap f ++ f xs[k] := by
  rw [List.take_succ_eq_append_getElem h, List.flatMap_append]
  simp
theorem flat_le {α : Type} (f : α → List Int) (xs : List α) (k : Nat) : ((xs.take k).flatMap f).length ≤ (xs.flatMap f).length := by
  conv => rhs; rw [← List.take_append_drop k xs]
  rw [List.flatMap_append, List.length_append]
  omega
set_option maxHeartbeats 4000000 in
set_option maxRecDepth 100000 in
theorem eachSym (B W : Nat) (bs : List Int) (A : Option Addr) (n c : Nat) (xs : List S85) (w : World) (h : WB B W bs w) (hf : Fb k85 w B A n xs) (hlen : bs.length + (xs.flatMap encSym).length ≤ 140737488355328) :
    Calls Tryz.prog 78 #[.slice A n c, .func (.func 79) #[.pointer (some ⟨W, 0, none⟩)] #[]] w fun e w' => e = .returned (.tuple #[]) ∧ Wrote B W (bs ++ xs.flatMap encSym) w w' := by
  obtain rfl := Kd.F_len hf
  have hm := Kd.F_max hf
  have HF := Aside0.mk hf
  clear hf
  have H0 := Aside0.mk (Wrote.refl h)
  clear h
  go_enter Tryz.func78, Tryz.ntmps78
  go_wp2
  go_loopw [8] (fun i wr => ∃ k : Nat, k ≤ xs.length ∧ i = .int .i64 k ∧ Aside0 (Wrote B W (bs ++ (xs.take k).flatMap encSym) w wr)) (fun i _ => xs.length - (intOf i).toNat)
  case atStart => exact ⟨0, Nat.zero_le _, rfl, ⟨by simpa using H0.out⟩⟩
  case round =>
    obtain ⟨k, hk, rfl, hR⟩ := hrel
    by_cases hlt : k < xs.length
    · obtain ⟨ad, cs, rfl, hK, hc0, hc1⟩ := F_at (HF.out.below hR.out.below) k hlt
      obtain rfl := k85_open (Kd.FK_now hK)
      have d0 : wr.cell? (ad.add (k * 2)) = some (.int .i64 xs[k].f0) := hc0 _ rfl
      have d1 := hc1 1 _ (by decide) rfl
      clear hK hc0 hc1
      have d1' : wr.cell? ⟨(ad.add (k * 2)).block, (ad.add (k * 2)).off + 1, none⟩ = some (.int .i64 xs[k].f1) := d1
      clear d1
      have HS : Hid ((xs.take (k + 1)).flatMap encSym = (xs.take k).flatMap encSym ++ encSym xs[k]) := Lib.hid (flat_snoc encSym xs k hlt)
      have hl := flat_le encSym xs (k + 1)
      rw [HS.out, List.length_append] at hl
      have hl2 : (encSym xs[k]).length = 2 := rfl
      generalize xs[k] = x at *
      go_wp2_with fail
      refine (symbol B W _ x _ (hR.out.alloc _).wb (by rw [List.length_append]; omega)).mono ?_
      rintro e w2 ⟨rfl, h2⟩
      have h3 := (hR.out.alloc _).trans h2
      rw [List.append_assoc] at h3
      go_wp2
      go_roundw
      case rel => exact ⟨k + 1, by omega, by go_num, ⟨by rw [HS.out]; exact h3⟩⟩
      case measure => simp [intOf]; omega
    · obtain rfl : k = xs.length := by omega
      rw [List.take_length] at hR
      have hR := Aside0.mk hR.out
      go_wp2
      go_end0
      exact ⟨rfl, hR.out⟩
end Go.Proofs.YtpnkifincadakaaGreatDoor.Wr
end
section
namespace Go.Pk
open Go.Proofs.YtpnkifincadakaaGreatDoor.PPackSpecs
mutual
def sizeE : S40 → Nat | ⟨_, _, _, _, _, l⟩ => 1 + sizeL l
def sizeL : List S40 → Nat | [] => 0 | x :: r => sizeE x + sizeL r
end
mutual
def depE : S40 → Nat | ⟨_, _, _, _, _, l⟩ => 1 + depL l
def depL : List S40 → Nat | [] => 0 | x :: r => max (depE x) (depL r)
end
def ownOk (e : S40) : Bool :=
  if e.f0 = 1 then decide (0 ≤ e.f1 ∧ e.f1 ≤ e.f2 ∧ e.f2 ≤ 255 ∧ e.f3 = 0 ∧ e.f4 = 0 ∧ e.f5.length = 0)
  else if e.f0 = 2 then decide (e.f1 = 0 ∧ e.f2 = 0 ∧ e.f3 = 0 ∧ e.f4 = 0 ∧ e.f5.length ≠ 1)
  else if e.f0 = 3 then decide (e.f1 = 0 ∧ e.f2 = 0 ∧ e.f3 = 0 ∧ e.f4 = 0 ∧ 1 < e.f5.length)
  else if e.f0 = 4 then decide (e.f1 = 0 ∧ e.f2 = 0 ∧ e.f5.length = 1 ∧ 0 ≤ e.f3 ∧ e.f3 ≤ 1000 ∧ (e.f4 = -1 ∨ e.f3 ≤ e.f4 ∧ e.f4 ≤ 1000))
  else false
mutual
def rightE : S40 → Bool | ⟨a, b, c, d, f, l⟩ => ownOk ⟨a, b, c, d, f, l⟩ && rightL l
def rightL : List S40 → Bool | [] => true | x :: r => rightE x && rightL r
end
def copiesOf (e : S40) : Int := if e.f4 < 0 then max e.f3 1 else e.f4
mutual
def posE : S40 → Int | ⟨a, b, c, d, f, l⟩ => if a = 1 then 1 else min (if a = 4 then posL l * copiesOf ⟨a, b, c, d, f, l⟩ else posL l) 4097
def posL : List S40 → Int | [] => 0 | x :: r => posE x + posL r
end
def chk (e : S40) : Int := if 4096 < sizeE e then 2 else if 64 < depE e then 5 else if rightE e = false then 20 else if 4096 < posE e then 21 else 0
theorem sizeE_eq (e : S40) : sizeE e = 1 + sizeL e.f5 := by cases e; simp [sizeE]
theorem depE_eq (e : S40) : depE e = 1 + depL e.f5 := by cases e; simp [depE]
theorem rightE_eq (e : S40) : rightE e = (ownOk e && rightL e.f5) := by cases e; simp [rightE]
theorem posE_eq (e : S40) : posE e = if e.f0 = 1 then 1 else min (if e.f0 = 4 then posL e.f5 * copiesOf e else posL e.f5) 4097 := by cases e; simp [posE]
theorem sizeE_pos (e : S40) : 1 ≤ sizeE e := by rw [sizeE_eq]; omega
theorem depE_pos (e : S40) : 1 ≤ depE e := by rw [depE_eq]; omega
theorem sizeL_append : ∀ (a b : List S40), sizeL (a ++ b) = sizeL a + sizeL b
  | [], b => by simp [sizeL]
  | x :: a, b => by simp [sizeL, sizeL_append a b]; omega
theorem length_le_sizeL : ∀ (l : List S40), l.length ≤ sizeL l
  | [] => by simp [sizeL]
  | x :: r => by have := length_le_sizeL r; have := sizeE_pos x; simp [sizeL]; omega
theorem ownOk_kind {e : S40} (h : ownOk e = true) : e.f0 = 1 ∨ e.f0 = 2 ∨ e.f0 = 3 ∨ e.f0 = 4 := by
  unfold ownOk at h
  split at h
  · omega
  · split at h
    · omega
    · split at h
      · omega
      · split at h
        · omega
        · cases h
theorem posL_nonneg_E : (∀ e, 0 ≤ posE e ∧ posE e ≤ 4097 ∨ rightE e = false) := by
  have h : ∀ n, (∀ e, sizeE e ≤ n → rightE e = true → 0 ≤ posE e ∧ posE e ≤ 4097) ∧ ∀ l, sizeL l ≤ n → rightL l = true → 0 ≤ posL l ∧ posL l ≤ 4097 * l.length := by
    intro n
    induction n with
    | zero =>
      refine ⟨fun e h => by have := sizeE_pos e; omega, fun l h _ => ?_⟩
      cases l with
      | nil => simp [posL]
      | cons x r => have := sizeE_pos x; simp [sizeL] at h; omega
    | succ n ih =>
      have hE : ∀ e, sizeE e ≤ n + 1 → rightE e = true → 0 ≤ posE e ∧ posE e ≤ 4097 := fun e h hr => by
        rw [rightE_eq, Bool.and_eq_true] at hr
        have h1 := ih.2 e.f5 (by rw [sizeE_eq] at h; omega) hr.2
        rw [posE_eq]
        split
        · omega
        · split
          · have hc : 0 ≤ copiesOf e := by unfold copiesOf; split <;> omega
            have := Int.mul_nonneg h1.1 hc
            omega
          · omega
      refine ⟨hE, fun l => ?_⟩
      induction l with
      | nil => intro _ _; simp [posL]
      | cons x r ihr =>
        intro h hr
        simp only [sizeL] at h
        simp only [rightL, Bool.and_eq_true] at hr
        have h1 := hE x (by omega) hr.1
        have h2 := ihr (by omega) hr.2
        simp only [posL, List.length_cons]
        omega
  intro e
  cases hr : rightE e with
  | false => exact .inr rfl
  | true => exact .inl ((h _).1 e (Nat.le_refl _) hr)
def b1 (n : Int) : List Int := [n % 256]
def b2 (n : Int) : List Int := [n % 256, n / 256 % 256]
def b4 (n : Int) : List Int := [n % 256, n / 256 % 256, n / 65536 % 256, n / 16777216 % 256]
def headE (e : S40) : List Int := b1 e.f0 ++ (if e.f0 = 1 then b1 e.f1 ++ b1 e.f2 else if e.f0 = 4 then b2 e.f3 ++ b2 e.f4 else b2 e.f5.length)
mutual
def encE : S40 → List Int | ⟨a, b, c, d, f, l⟩ => headE ⟨a, b, c, d, f, l⟩ ++ encL l
def encL : List S40 → List Int | [] => [] | x :: r => encE x ++ encL r
end
theorem encE_eq (e : S40) : encE e = headE e ++ encL e.f5 := by cases e; simp [encE]
theorem headE_len (e : S40) : (headE e).length ≤ 5 := by
  unfold headE
  split
  · simp [b1]
  · split <;> simp [b1, b2]
theorem enc_len : (∀ e, (encE e).length ≤ 5 * sizeE e) ∧ ∀ l, (encL l).length ≤ 5 * sizeL l := by
  have h : ∀ n, (∀ e, sizeE e ≤ n → (encE e).length ≤ 5 * sizeE e) ∧ ∀ l, sizeL l ≤ n → (encL l).length ≤ 5 * sizeL l := by
    intro n
    induction n with
    | zero =>
      refine ⟨fun e h => by have := sizeE_pos e; omega, fun l h => ?_⟩
      cases l with
      | nil => simp [encL]
      | cons x r => have := sizeE_pos x; simp [sizeL] at h; omega
    | succ n ih =>
      have hE : ∀ e, sizeE e ≤ n + 1 → (encE e).length ≤ 5 * sizeE e := fun e h => by
        have := ih.2 e.f5 (by rw [sizeE_eq] at h; omega)
        have := headE_len e
        rw [sizeE_eq, encE_eq, List.length_append]; omega
      refine ⟨hE, fun l => ?_⟩
      induction l with
      | nil => intro _; simp [encL]
      | cons x r ihr =>
        intro h
        simp only [sizeL] at h
        have h1 := hE x (by omega)
        have h2 := ihr (by omega)
        simp only [encL, sizeL, List.length_append]
        omega
  exact ⟨fun e => (h _).1 e (Nat.le_refl _), fun l => (h _).2 l (Nat.le_refl _)⟩
theorem mem_size : ∀ (l : List S40) (x : S40), x ∈ l → sizeE x ≤ sizeL l
  | y :: r, x, h => by
    rcases List.mem_cons.1 h with rfl | h
    · simp [sizeL]
    · have := mem_size r x h
      simp [sizeL]
      omega
theorem encL_flat : ∀ (l : List S40), encL l = l.flatMap encE
  | [] => by simp [encL]
  | x :: r => by simp [encL, encL_flat r]
end Go.Pk
end
section
namespace Go.Proofs.YtpnkifincadakaaGreatDoor.Wr
open Go.RowKit Go.Pk Go.Proofs.YtpnkifincadakaaGreatDoorW.PrintWords Go.Proofs.YtpnkifincadakaaGreatDoor.PPackSpecs
set_option maxHeartbeats 4000000 in
set_option maxRecDepth 100000 in
theorem eachName (B W : Nat) (bs : List Int) (A : Option Addr) (n c : Nat) (xs : List ByteArray) (w : World) (h : WB B W bs w) (hf : Fb Kd.string w B A n xs) (hlen : bs.length + (xs.flatMap encName).length ≤ 140737488355328) :
    Calls Tryz.prog 28 #[.slice A n c, .func (.func 29) #[.pointer (some ⟨W, 0, none⟩)] #[]] w fun e w' => e = .returned (.tuple #[]) ∧ Wrote B W (bs ++ xs.flatMap encName) w w' := by
  obtain rfl := Kd.F_len hf
  have hm := Kd.F_max hf
  have HF := Aside0.mk hf
  clear hf
  have H0 := Aside0.mk (Wrote.refl h)
  clear h
  go_enter Tryz.func28, Tryz.ntmps28
  go_wp2
  go_loopw [8] (fun i wr => ∃ k : Nat, k ≤ xs.length ∧ i = .int .i64 k ∧ Aside0 (Wrote B W (bs ++ (xs.take k).flatMap encName) w wr)) (fun i _ => xs.length - (intOf i).toNat)
  case atStart => exact ⟨0, Nat.zero_le _, rfl, ⟨by simpa using H0.out⟩⟩
  case round =>
    obtain ⟨k, hk, rfl, hR⟩ := hrel
    by_cases hlt : k < xs.length
    · obtain ⟨ad, cs, rfl, hK, hc0, hc1⟩ := F_at (HF.out.below hR.out.below) k hlt
      have hmem := List.getElem_mem hlt
      obtain rfl : cs = [.string xs[k]] := Kd.FK_now hK
      have d0 : wr.cell? (ad.add k) = some (.string xs[k]) := by have := hc0 _ rfl; rwa [show Kd.string.sz = 1 from rfl, Nat.mul_one] at this
      clear hc0 hc1
      have HS : Hid ((xs.take (k + 1)).flatMap encName = (xs.take k).flatMap encName ++ encName xs[k]) := Lib.hid (flat_snoc encName xs k hlt)
      have hl := flat_le encName xs (k + 1)
      rw [HS.out, List.length_append] at hl
      generalize xs[k] = x at *
      go_wp2_with fail
      refine (name B W _ x _ hR.out.wb (by rw [List.length_append]; simp only [encName, List.length_cons, bytesOf_length] at hl; omega)).mono ?_
      rintro e w2 ⟨rfl, h2⟩
      have h3 := (hR.out).trans h2
      rw [List.append_assoc] at h3
      go_wp2
      go_roundw
      case rel => exact ⟨k + 1, by omega, by go_num, ⟨by rw [HS.out]; exact h3⟩⟩
      case measure => simp [intOf]; omega
    · obtain rfl : k = xs.length := by omega
      rw [List.take_length] at hR
      have hR := Aside0.mk hR.out
      go_wp2
      go_end0
      exact ⟨rfl, hR.out⟩
set_option maxHeartbeats 4000000 in
set_option maxRecDepth 100000 in
theorem eachExpr (B W : Nat) (bs : List Int) (A : Option Addr) (n c : Nat) (xs : List S40) (w : World) (h : WB B W bs w) (hf : Fb k40 w B A n xs)
    (hp : ∀ x, x ∈ xs → ∀ (bs : List Int) (A5 : Option Addr) (c5 : Nat) (w : World), WB B W bs w → Fb k40 w B A5 x.f5.length x.f5 → x.f5.length ≤ c5 → bs.length + (encE x).length ≤ 140737488355328 →
      Calls Tryz.prog 77 #[.pointer (some ⟨W, 0, none⟩), .agg #[.int .i64 x.f0, .int .i64 x.f1, .int .i64 x.f2, .int .i64 x.f3, .int .i64 x.f4, .slice A5 x.f5.length c5]] w fun e w' => e = .returned (.tuple #[]) ∧ Wrote B W (bs ++ encE x) w w') (hlen : bs.length + (xs.flatMap encE).length ≤ 140737488355328) :
    Calls Tryz.prog 145 #[.slice A n c, .func (.func 77) #[.pointer (some ⟨W, 0, none⟩)] #[]] w fun e w' => e = .returned (.tuple #[]) ∧ Wrote B W (bs ++ xs.flatMap encE) w w' := by
  obtain rfl := Kd.F_len hf
  have hm := Kd.F_max hf
  have HF := Aside0.mk hf
  clear hf
  have H0 := Aside0.mk (Wrote.refl h)
  clear h
  go_enter Tryz.func145, Tryz.ntmps145
  go_wp2
  go_loopw [8] (fun i wr => ∃ k : Nat, k ≤ xs.length ∧ i = .int .i64 k ∧ Aside0 (Wrote B W (bs ++ (xs.take k).flatMap encE) w wr)) (fun i _ => xs.length - (intOf i).toNat)
  case atStart => exact ⟨0, Nat.zero_le _, rfl, ⟨by simpa using H0.out⟩⟩
  case round =>
    obtain ⟨k, hk, rfl, hR⟩ := hrel
    by_cases hlt : k < xs.length
    · obtain ⟨ad, cs, rfl, hK, hc0, hc1⟩ := F_at (HF.out.below hR.out.below) k hlt
      have hmem := List.getElem_mem hlt
      obtain ⟨A5, c5, rfl, l5, g5⟩ := k40_openF hK
      clear hK
      have d0 : wr.cell? (ad.add (k * 6)) = some (.int .i64 xs[k].f0) := hc0 _ rfl
      have d1 : wr.cell? ⟨(ad.add (k * 6)).block, (ad.add (k * 6)).off + 1, none⟩ = some (.int .i64 xs[k].f1) := hc1 1 _ (by decide) rfl
      have d2 : wr.cell? ⟨(ad.add (k * 6)).block, (ad.add (k * 6)).off + 2, none⟩ = some (.int .i64 xs[k].f2) := hc1 2 _ (by decide) rfl
      have d3 : wr.cell? ⟨(ad.add (k * 6)).block, (ad.add (k * 6)).off + 3, none⟩ = some (.int .i64 xs[k].f3) := hc1 3 _ (by decide) rfl
      have d4 : wr.cell? ⟨(ad.add (k * 6)).block, (ad.add (k * 6)).off + 4, none⟩ = some (.int .i64 xs[k].f4) := hc1 4 _ (by decide) rfl
      have d5 : wr.cell? ⟨(ad.add (k * 6)).block, (ad.add (k * 6)).off + 5, none⟩ = some (.slice A5 xs[k].f5.length c5) := hc1 5 _ (by decide) rfl
      clear hc0 hc1
      have HS : Hid ((xs.take (k + 1)).flatMap encE = (xs.take k).flatMap encE ++ encE xs[k]) := Lib.hid (flat_snoc encE xs k hlt)
      have hl := flat_le encE xs (k + 1)
      rw [HS.out, List.length_append] at hl
      generalize xs[k] = x at *
      go_wp2_with fail
      refine (hp x hmem _ A5 c5 _ (hR.out.alloc _).wb (Kd.F_alloc g5 _) l5 (by rw [List.length_append]; omega)).mono ?_
      rintro e w2 ⟨rfl, h2⟩
      have h3 := (hR.out.alloc _).trans h2
      rw [List.append_assoc] at h3
      go_wp2
      go_roundw
      case rel => exact ⟨k + 1, by omega, by go_num, ⟨by rw [HS.out]; exact h3⟩⟩
      case measure => simp [intOf]; omega
    · obtain rfl : k = xs.length := by omega
      rw [List.take_length] at hR
      have hR := Aside0.mk hR.out
      go_wp2
      go_end0
      exact ⟨rfl, hR.out⟩
set_option maxHeartbeats 8000000 in
set_option maxRecDepth 100000 in
theorem pattern (B W : Nat) (m : Nat) : ∀ (x : S40) (bs : List Int) (A5 : Option Addr) (c5 : Nat) (w : World), sizeE x ≤ m → WB B W bs w → Fb k40 w B A5 x.f5.length x.f5 → x.f5.length ≤ c5 → bs.length + (encE x).length ≤ 140737488355328 →
    Calls Tryz.prog 77 #[.pointer (some ⟨W, 0, none⟩), .agg #[.int .i64 x.f0, .int .i64 x.f1, .int .i64 x.f2, .int .i64 x.f3, .int .i64 x.f4, .slice A5 x.f5.length c5]] w fun e w' => e = .returned (.tuple #[]) ∧ Wrote B W (bs ++ encE x) w w' := by
  induction m with
  | zero => intro x _ _ _ _ hm; have := sizeE_pos x; omega
  | succ m ih =>
    intro x bs A5 c5 w hm h hf hc hlen
    have hkids : ∀ y, y ∈ x.f5 → sizeE y ≤ m := fun y hy => by
      have := mem_size _ _ hy
      rw [sizeE_eq] at hm
      omega
    have HE : Hid (encE x = headE x ++ x.f5.flatMap encE) := Lib.hid (by rw [encE_eq, encL_flat])
    rw [HE.out, List.length_append] at hlen
    have HF := Aside0.mk hf
    clear hf
    have ha := (Wrote.refl h).alloc (.cells #[.int .i64 x.f0, .int .i64 x.f1, .int .i64 x.f2, .int .i64 x.f3, .int .i64 x.f4, .slice A5 x.f5.length c5] 40)
    have hbox := blk_new w (.cells #[.int .i64 x.f0, .int .i64 x.f1, .int .i64 x.f2, .int .i64 x.f3, .int .i64 x.f4, .slice A5 x.f5.length c5] 40)
    have hneW : w.heap.size ≠ W := by have := h.lt; omega
    have hpos : x.f5.length ≤ 9223372036854775807 := Kd.F_max HF.out
    by_cases k1 : x.f0 = 1
    · have HH : Hid (headE x = [x.f0 % 256] ++ [x.f1 % 256] ++ [x.f2 % 256]) := Lib.hid (by unfold headE; rw [if_pos k1]; rfl)
      have hhl : (headE x).length = 3 := by rw [HH.out]; rfl
      have K1 : (x.f0 == 1) = true := by simpa using k1
      clear k1
      go_enter Tryz.func77, Tryz.ntmps77
      go_wp2_with (go_at_call 25; refine (u1 B W bs x.f0 _ ha.wb (by omega)).mono ?_)
      rintro e w1 ⟨rfl, h1⟩
      have hb1 := h1.oth _ _ _ _ hbox (by decide) hneW
      have p0 : w1.cell? ⟨w.heap.size, 0, none⟩ = some (.int .i64 x.f0) := (blk_cell hb1 0).trans rfl
      have p1 : w1.cell? ⟨w.heap.size, 1, none⟩ = some (.int .i64 x.f1) := (blk_cell hb1 1).trans rfl
      go_wp2_with (go_at_call 25; refine (u1 B W _ x.f1 _ h1.wb (by simp; omega)).mono ?_)
      rintro e w2 ⟨rfl, h2⟩
      have hb2 := h2.oth _ _ _ _ hb1 (by decide) hneW
      have p2 : w2.cell? ⟨w.heap.size, 2, none⟩ = some (.int .i64 x.f2) := (blk_cell hb2 2).trans rfl
      go_wp2_with (go_at_call 25; refine (u1 B W _ x.f2 _ h2.wb (by simp; omega)).mono ?_)
      rintro e w3 ⟨rfl, h3⟩
      have hall := ((ha.trans h1).trans h2).trans h3
      have hb3 := h3.oth _ _ _ _ hb2 (by decide) hneW
      have p5 : w3.cell? ⟨w.heap.size, 5, none⟩ = some (.slice A5 x.f5.length c5) := (blk_cell hb3 5).trans rfl
      go_wp2_with (go_at_call 145; refine (eachExpr B W _ A5 _ c5 x.f5 _ hall.wb (HF.out.below hall.below) (fun y hy bs' A' c' w' g1 g2 g3 g4 => ih y bs' A' c' w' (hkids y hy) g1 g2 g3 g4) (by simp only [List.length_append, List.length_cons, List.length_nil]; omega)).mono ?_)
      rintro e w4 ⟨rfl, h4⟩
      have hend := hall.trans h4
      go_wp2
      go_end0
      refine ⟨rfl, ?_⟩
      rw [HE.out, HH.out]
      simpa using hend
    · have K1 : (x.f0 == 1) = false := by simpa using k1
      by_cases k4 : x.f0 = 4
      · have HH : Hid (headE x = [x.f0 % 256] ++ [x.f3 % 256, x.f3 / 256 % 256] ++ [x.f4 % 256, x.f4 / 256 % 256]) := Lib.hid (by unfold headE; rw [if_neg k1, if_pos k4]; rfl)
        have hhl : (headE x).length = 5 := by rw [HH.out]; rfl
        have K4 : (x.f0 == 4) = true := by simpa using k4
        clear k1 k4
        go_enter Tryz.func77, Tryz.ntmps77
        go_wp2_with (go_at_call 25; refine (u1 B W bs x.f0 _ ha.wb (by omega)).mono ?_)
        rintro e w1 ⟨rfl, h1⟩
        have hb1 := h1.oth _ _ _ _ hbox (by decide) hneW
        have p0 : w1.cell? ⟨w.heap.size, 0, none⟩ = some (.int .i64 x.f0) := (blk_cell hb1 0).trans rfl
        have p1 : w1.cell? ⟨w.heap.size, 3, none⟩ = some (.int .i64 x.f3) := (blk_cell hb1 3).trans rfl
        go_wp2_with (go_at_call 30; refine (u2 B W _ x.f3 _ h1.wb (by simp; omega)).mono ?_)
        rintro e w2 ⟨rfl, h2⟩
        have hb2 := h2.oth _ _ _ _ hb1 (by decide) hneW
        have p2 : w2.cell? ⟨w.heap.size, 4, none⟩ = some (.int .i64 x.f4) := (blk_cell hb2 4).trans rfl
        go_wp2_with (go_at_call 30; refine (u2 B W _ x.f4 _ h2.wb (by simp; omega)).mono ?_)
        rintro e w3 ⟨rfl, h3⟩
        have hall := ((ha.trans h1).trans h2).trans h3
        have hb3 := h3.oth _ _ _ _ hb2 (by decide) hneW
        have p5 : w3.cell? ⟨w.heap.size, 5, none⟩ = some (.slice A5 x.f5.length c5) := (blk_cell hb3 5).trans rfl
        go_wp2_with (go_at_call 145; refine (eachExpr B W _ A5 _ c5 x.f5 _ hall.wb (HF.out.below hall.below) (fun y hy bs' A' c' w' g1 g2 g3 g4 => ih y bs' A' c' w' (hkids y hy) g1 g2 g3 g4) (by simp only [List.length_append, List.length_cons, List.length_nil]; omega)).mono ?_)
        rintro e w4 ⟨rfl, h4⟩
        have hend := hall.trans h4
        go_wp2
        go_end0
        refine ⟨rfl, ?_⟩
        rw [HE.out, HH.out]
        simpa using hend
      · have HH : Hid (headE x = [x.f0 % 256] ++ [(x.f5.length : Int) % 256, (x.f5.length : Int) / 256 % 256]) := Lib.hid (by unfold headE; rw [if_neg k1, if_neg k4]; rfl)
        have hhl : (headE x).length = 3 := by rw [HH.out]; rfl
        have K4 : (x.f0 == 4) = false := by simpa using k4
        clear k1 k4
        go_enter Tryz.func77, Tryz.ntmps77
        go_wp2_with (go_at_call 25; refine (u1 B W bs x.f0 _ ha.wb (by omega)).mono ?_)
        rintro e w1 ⟨rfl, h1⟩
        have hb1 := h1.oth _ _ _ _ hbox (by decide) hneW
        have p0 : w1.cell? ⟨w.heap.size, 0, none⟩ = some (.int .i64 x.f0) := (blk_cell hb1 0).trans rfl
        have p5 : w1.cell? ⟨w.heap.size, 5, none⟩ = some (.slice A5 x.f5.length c5) := (blk_cell hb1 5).trans rfl
        go_wp2_with (go_at_call 30; refine (u2 B W _ x.f5.length _ h1.wb (by simp; omega)).mono ?_)
        rintro e w2 ⟨rfl, h2⟩
        have hall := (ha.trans h1).trans h2
        have hb2 := h2.oth _ _ _ _ hb1 (by decide) hneW
        have q5 : w2.cell? ⟨w.heap.size, 5, none⟩ = some (.slice A5 x.f5.length c5) := (blk_cell hb2 5).trans rfl
        go_wp2_with (go_at_call 145; refine (eachExpr B W _ A5 _ c5 x.f5 _ hall.wb (HF.out.below hall.below) (fun y hy bs' A' c' w' g1 g2 g3 g4 => ih y bs' A' c' w' (hkids y hy) g1 g2 g3 g4) (by simp only [List.length_append, List.length_cons, List.length_nil]; omega)).mono ?_)
        rintro e w4 ⟨rfl, h4⟩
        have hend := hall.trans h4
        go_wp2
        go_end0
        refine ⟨rfl, ?_⟩
        rw [HE.out, HH.out]
        simpa using hend
end Go.Proofs.YtpnkifincadakaaGreatDoor.Wr
end
