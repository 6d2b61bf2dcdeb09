/- Proved: part 13 of the proof of PackReads (PPackSpecsx0, Wr1, Pat, Wr6, Pl1, PPackSpecsx10). Conditions: each theorem states its own. -/
import Derived.ArgAppend
import Derived.Below
import Derived.BigQuiet
import Derived.Deep.AppendLies
import Derived.Deep.CutBlock
import Derived.Deep.DeepCutAuto
import Derived.Deep.Draws
import Derived.Deep.LoopGhost
import Derived.Deep.OwnRows
import Derived.Deep.QuietTactic
import Derived.Deep.RegionHeld3
import Derived.KernelRfl
import Derived.Laws.BitsLemmas
import Derived.Laws.BytesArg
import Derived.Laws.IdiomCopy
import Derived.Laws.MakeOwn
import Derived.Laws.OwnMore
import Derived.Laws.Rows
import Derived.Laws.Slices
import Derived.Laws.StructEq
import Derived.Lib.AppendStr
import Derived.Lib.ConvBytes
import Derived.Maps.AppendAt
import Derived.OrdersHeld
import Derived.OwnWalk
import Derived.RowKit
import Derived.RowKit3
import Derived.Tactics
import Derived.Test.YtpnkifincadakaaGreatDoorProg
import Derived.WalkKit
import Derived.WideLaws
import Derived.Test.YtpnkifincadakaaGreatDoorP10
import Derived.Test.YtpnkifincadakaaGreatDoorP11
import Derived.Test.YtpnkifincadakaaGreatDoorP12
set_option linter.unusedVariables false
set_option linter.unusedSimpArgs false
section
namespace Go.Proofs.YtpnkifincadakaaGreatDoor.PPackSpecs
open Go.RowKit Go.Proofs.YtpnkifincadakaaGreatDoorW.PrintWords Go.Proofs.YtpnkifincadakaaGreatDoorW.PrintLast Go.Proofs.YtpnkifincadakaaGreatDoorW.PrintMore
attribute [local go_sem] max2_int min2_int max_two min_two
def errW : Option Int → Value
  | none => .nilIface
  | some c => .iface 0 (.int .i64 c)
theorem errW_none : errW none = .nilIface := rfl
theorem errW_some (c : Int) : errW (some c) = .iface 0 (.int .i64 c) := rfl
theorem info5 : (Tryz.prog.info? 5).map (fun i => (i.zero, i.size, i.bytes)) = some (some (.int .u8 0), 1, 1) := by kernel_rfl
theorem info9 : (Tryz.prog.info? 9).map (fun i => (i.zero, i.size, i.bytes)) = some (some (.string ⟨#[]⟩), 1, 16) := by kernel_rfl
theorem info40 : (Tryz.prog.info? 40).map (fun i => (i.zero, i.size, i.bytes)) = some (some (.agg #[(.int .i64 0), (.int .i64 0), (.int .i64 0), (.int .i64 0), (.int .i64 0), (.slice none 0 0)]), 6, 64) := by kernel_rfl
theorem info42 : (Tryz.prog.info? 42).map (fun i => (i.zero, i.size, i.bytes)) = some (some (.agg #[(.string ⟨#[]⟩), (.bool false), (.int .i64 0), (.int .i64 0), (.int .i64 0), (.int .i64 0), (.int .i64 0), (.slice none 0 0)]), 8, 88) := by kernel_rfl
theorem info67 : (Tryz.prog.info? 67).map (fun i => (i.zero, i.size, i.bytes)) = some (some (.agg #[(.int .i64 0), (.slice none 0 0)]), 2, 32) := by kernel_rfl
theorem info85 : (Tryz.prog.info? 85).map (fun i => (i.zero, i.size, i.bytes)) = some (some (.agg #[(.int .i64 0), (.int .i64 0)]), 2, 16) := by kernel_rfl
structure S40 where
  f0 : Int
  f1 : Int
  f2 : Int
  f3 : Int
  f4 : Int
  f5 : (List S40)
def z40 : S40 := ⟨(0 : Int), (0 : Int), (0 : Int), (0 : Int), (0 : Int), ([] : List S40)⟩
def F40 (d : Kd S40) : Kd S40 := Kd.iso (Kd.pair (Kd.int .i64) (Kd.pair (Kd.int .i64) (Kd.pair (Kd.int .i64) (Kd.pair (Kd.int .i64) (Kd.pair (Kd.int .i64) (Kd.slice 40 d)))))) (fun x : S40 => (x.f0, x.f1, x.f2, x.f3, x.f4, x.f5))
theorem mono40 : Kd.Mono F40 := Kd.mono_iso _ (Kd.mono_pair (Kd.mono_const _) (Kd.mono_pair (Kd.mono_const _) (Kd.mono_pair (Kd.mono_const _) (Kd.mono_pair (Kd.mono_const _) (Kd.mono_pair (Kd.mono_const _) (Kd.mono_slice 40 Kd.mono_id))))))
theorem sub40 : Kd.Sub F40 [40] := Kd.sub_iso _ (Kd.sub_pair (Kd.sub_const _ (by decide)) (Kd.sub_pair (Kd.sub_const _ (by decide)) (Kd.sub_pair (Kd.sub_const _ (by decide)) (Kd.sub_pair (Kd.sub_const _ (by decide)) (Kd.sub_pair (Kd.sub_const _ (by decide)) (Kd.sub_slice 40 (by decide) Kd.sub_id))))))
theorem sz40 : ∀ n, (Kd.upto F40 6 [40] n).sz = 6 := Kd.upto_sz (fun _ => rfl)
def k40 : Kd S40 := Kd.fix F40 6 [40] sz40 (Kd.upto_E sub40)
theorem k40_heap : Kd.Heap k40 := Kd.heap_fix (fun _ h_ => Kd.heap_iso _ (Kd.heap_pair (Kd.heap_int .i64) (Kd.heap_pair (Kd.heap_int .i64) (Kd.heap_pair (Kd.heap_int .i64) (Kd.heap_pair (Kd.heap_int .i64) (Kd.heap_pair (Kd.heap_int .i64) (Kd.heap_slice 40 h_)))))))
theorem k40_open {w : World} {x : S40} {cs : List Value} (h : k40.K w x cs) : ∃ A5 c5, cs = [.int .i64 x.f0, .int .i64 x.f1, .int .i64 x.f2, .int .i64 x.f3, .int .i64 x.f4, .slice A5 x.f5.length c5] ∧ x.f5.length ≤ c5 ∧ k40.C w A5 x.f5.length x.f5 := by
  obtain ⟨n, h⟩ := h
  cases n with
  | zero => exact h.elim
  | succ n =>
    obtain ⟨_, _, rfl, rfl, ⟨_, _, rfl, rfl, ⟨_, _, rfl, rfl, ⟨_, _, rfl, rfl, ⟨_, _, rfl, rfl, ⟨A5, c5, rfl, l5, g5⟩⟩⟩⟩⟩⟩ := h
    exact ⟨A5, c5, rfl, l5, Kd.fix_C g5⟩
theorem k40_mk (w : World) (x : S40) {A5 : Option Addr} {c5 : Nat} (l5 : x.f5.length ≤ c5) (g5 : k40.C w A5 x.f5.length x.f5) : k40.K w x [.int .i64 x.f0, .int .i64 x.f1, .int .i64 x.f2, .int .i64 x.f3, .int .i64 x.f4, .slice A5 x.f5.length c5] := by
  obtain ⟨n5, q5⟩ := Kd.fix_C_back mono40 g5
  have r5 := Kd.upto_C_le mono40 sz40 (show n5 ≤ n5 by omega) q5
  exact ⟨n5 + 1, ⟨[.int .i64 x.f0], [.int .i64 x.f1, .int .i64 x.f2, .int .i64 x.f3, .int .i64 x.f4, .slice A5 x.f5.length c5], rfl, rfl, ⟨[.int .i64 x.f1], [.int .i64 x.f2, .int .i64 x.f3, .int .i64 x.f4, .slice A5 x.f5.length c5], rfl, rfl, ⟨[.int .i64 x.f2], [.int .i64 x.f3, .int .i64 x.f4, .slice A5 x.f5.length c5], rfl, rfl, ⟨[.int .i64 x.f3], [.int .i64 x.f4, .slice A5 x.f5.length c5], rfl, rfl, ⟨[.int .i64 x.f4], [.slice A5 x.f5.length c5], rfl, rfl, ⟨A5, c5, rfl, l5, r5⟩⟩⟩⟩⟩⟩⟩
theorem k40_openF {W : World} {ok : Nat → Prop} {x : S40} {cs : List Value} (h : Kd.FK k40 W ok x cs) : ∃ A5 c5, cs = [.int .i64 x.f0, .int .i64 x.f1, .int .i64 x.f2, .int .i64 x.f3, .int .i64 x.f4, .slice A5 x.f5.length c5] ∧ x.f5.length ≤ c5 ∧ Kd.F k40 W ok A5 x.f5.length x.f5 := by
  obtain ⟨A5, c5, rfl, l5, _⟩ := k40_open (Kd.FK_now h)
  exact ⟨A5, c5, rfl, l5, (fun W' hW => by obtain ⟨A5_, c5_, he, l5_, g5_⟩ := k40_open (h W' hW); injection (Option.some.inj (show some (Value.slice A5 x.f5.length c5) = some (Value.slice A5_ x.f5.length c5_) from congrArg (fun l => l[5]?) he)) with ha_ _ _; rw [ha_]; exact g5_)⟩
theorem k40_mkF (W : World) (ok : Nat → Prop) (x : S40) {A5 : Option Addr} {c5 : Nat} (l5 : x.f5.length ≤ c5) (g5 : Kd.F k40 W ok A5 x.f5.length x.f5) : Kd.FK k40 W ok x [.int .i64 x.f0, .int .i64 x.f1, .int .i64 x.f2, .int .i64 x.f3, .int .i64 x.f4, .slice A5 x.f5.length c5] := fun W2 hW => k40_mk W2 x l5 (g5 W2 hW)
def rd_T40 (xs : List S40) (i : Int) : S40 := xs.getD i.toNat z40
theorem at_T40 {w : World} {A : Option Addr} {n : Nat} {xs : List S40} (h : Kd.C k40 w A n xs) (i : Int) (h0 : 0 ≤ i) (h1 : i < n) : ∃ ad A5 c5, A = some ad ∧ w.cell? (ad.add (i.toNat * 6)) = some (.int .i64 (rd_T40 xs i).f0) ∧ w.cell? ⟨(ad.add (i.toNat * 6)).block, (ad.add (i.toNat * 6)).off + 1, none⟩ = some (.int .i64 (rd_T40 xs i).f1) ∧ w.cell? ⟨(ad.add (i.toNat * 6)).block, (ad.add (i.toNat * 6)).off + 2, none⟩ = some (.int .i64 (rd_T40 xs i).f2) ∧ w.cell? ⟨(ad.add (i.toNat * 6)).block, (ad.add (i.toNat * 6)).off + 3, none⟩ = some (.int .i64 (rd_T40 xs i).f3) ∧ w.cell? ⟨(ad.add (i.toNat * 6)).block, (ad.add (i.toNat * 6)).off + 4, none⟩ = some (.int .i64 (rd_T40 xs i).f4) ∧ w.cell? ⟨(ad.add (i.toNat * 6)).block, (ad.add (i.toNat * 6)).off + 5, none⟩ = some (.slice A5 (rd_T40 xs i).f5.length c5) ∧ (rd_T40 xs i).f5.length ≤ c5 ∧ k40.C w A5 (rd_T40 xs i).f5.length (rd_T40 xs i).f5 := by
  obtain ⟨ad, c, e, _, hK, hc0⟩ := Kd.C_get h z40 i h0 h1
  have hc : ∀ j u, c[j]? = some u → w.cell? (ad.add (i.toNat * 6 + j)) = some u := hc0
  obtain ⟨A5, c5, rfl, l5, g5⟩ := k40_open hK
  exact ⟨ad, A5, c5, e, hc 0 _ rfl, by rw [← add_field _ _ 1 (by omega)]; exact hc 1 _ rfl, by rw [← add_field _ _ 2 (by omega)]; exact hc 2 _ rfl, by rw [← add_field _ _ 3 (by omega)]; exact hc 3 _ rfl, by rw [← add_field _ _ 4 (by omega)]; exact hc 4 _ rfl, by rw [← add_field _ _ 5 (by omega)]; exact hc 5 _ rfl, l5, g5⟩
structure S85 where
  f0 : Int
  f1 : Int
def k85 : Kd S85 := Kd.iso (Kd.pair (Kd.int .i64) (Kd.int .i64)) (fun x : S85 => (x.f0, x.f1))
theorem k85_open {w : World} {x : S85} {cs : List Value} (h : k85.K w x cs) : cs = [.int .i64 x.f0, .int .i64 x.f1] := by
  obtain ⟨_, _, rfl, rfl, rfl⟩ := h
  exact rfl
theorem k85_mk (w : World) (x : S85)  : k85.K w x [.int .i64 x.f0, .int .i64 x.f1] := ⟨[.int .i64 x.f0], [.int .i64 x.f1], rfl, rfl, rfl⟩
theorem k85_mkF (W : World) (ok : Nat → Prop) (x : S85) : Kd.FK k85 W ok x [.int .i64 x.f0, .int .i64 x.f1] := fun W2 _ => k85_mk W2 x
structure S67 where
  f0 : Int
  f1 : (List S85)
def k67 : Kd S67 := Kd.iso (Kd.pair (Kd.int .i64) (Kd.slice 85 k85)) (fun x : S67 => (x.f0, x.f1))
theorem k67_open {w : World} {x : S67} {cs : List Value} (h : k67.K w x cs) : ∃ A1 c1, cs = [.int .i64 x.f0, .slice A1 x.f1.length c1] ∧ x.f1.length ≤ c1 ∧ k85.C w A1 x.f1.length x.f1 := by
  obtain ⟨_, _, rfl, rfl, ⟨A1, c1, rfl, l1, g1⟩⟩ := h
  exact ⟨A1, c1, rfl, l1, g1⟩
theorem k67_mk (w : World) (x : S67) {A1 : Option Addr} {c1 : Nat} (l1 : x.f1.length ≤ c1) (g1 : k85.C w A1 x.f1.length x.f1) : k67.K w x [.int .i64 x.f0, .slice A1 x.f1.length c1] := ⟨[.int .i64 x.f0], [.slice A1 x.f1.length c1], rfl, rfl, ⟨A1, c1, rfl, l1, g1⟩⟩
theorem k67_mkF (W : World) (ok : Nat → Prop) (x : S67) {A1 : Option Addr} {c1 : Nat} (l1 : x.f1.length ≤ c1) (g1 : Kd.F k85 W ok A1 x.f1.length x.f1) : Kd.FK k67 W ok x [.int .i64 x.f0, .slice A1 x.f1.length c1] := fun W2 hW => k67_mk W2 x l1 (g1 W2 hW)
structure S42 where
  f0 : ByteArray
  f1 : Bool
  f2 : S40
def k42 : Kd S42 := Kd.iso (Kd.pair Kd.string (Kd.pair Kd.bool k40)) (fun x : S42 => (x.f0, x.f1, x.f2))
theorem k42_open {w : World} {x : S42} {cs : List Value} (h : k42.K w x cs) : ∃ A7 c7, cs = [.string x.f0, .bool x.f1, .int .i64 x.f2.f0, .int .i64 x.f2.f1, .int .i64 x.f2.f2, .int .i64 x.f2.f3, .int .i64 x.f2.f4, .slice A7 x.f2.f5.length c7] ∧ x.f2.f5.length ≤ c7 ∧ k40.C w A7 x.f2.f5.length x.f2.f5 := by
  obtain ⟨_, _, rfl, rfl, ⟨_, _, rfl, rfl, s2⟩⟩ := h
  obtain ⟨A7, c7, rfl, l7, g7⟩ := k40_open s2
  exact ⟨A7, c7, rfl, l7, g7⟩
theorem k42_mk (w : World) (x : S42) {A7 : Option Addr} {c7 : Nat} (l7 : x.f2.f5.length ≤ c7) (g7 : k40.C w A7 x.f2.f5.length x.f2.f5) : k42.K w x [.string x.f0, .bool x.f1, .int .i64 x.f2.f0, .int .i64 x.f2.f1, .int .i64 x.f2.f2, .int .i64 x.f2.f3, .int .i64 x.f2.f4, .slice A7 x.f2.f5.length c7] := ⟨[.string x.f0], [.bool x.f1, .int .i64 x.f2.f0, .int .i64 x.f2.f1, .int .i64 x.f2.f2, .int .i64 x.f2.f3, .int .i64 x.f2.f4, .slice A7 x.f2.f5.length c7], rfl, rfl, ⟨[.bool x.f1], [.int .i64 x.f2.f0, .int .i64 x.f2.f1, .int .i64 x.f2.f2, .int .i64 x.f2.f3, .int .i64 x.f2.f4, .slice A7 x.f2.f5.length c7], rfl, rfl, (k40_mk w x.f2 l7 g7)⟩⟩
theorem k42_mkF (W : World) (ok : Nat → Prop) (x : S42) {A7 : Option Addr} {c7 : Nat} (l7 : x.f2.f5.length ≤ c7) (g7 : Kd.F k40 W ok A7 x.f2.f5.length x.f2.f5) : Kd.FK k42 W ok x [.string x.f0, .bool x.f1, .int .i64 x.f2.f0, .int .i64 x.f2.f1, .int .i64 x.f2.f2, .int .i64 x.f2.f3, .int .i64 x.f2.f4, .slice A7 x.f2.f5.length c7] := fun W2 hW => k42_mk W2 x l7 (g7 W2 hW)
end Go.Proofs.YtpnkifincadakaaGreatDoor.PPackSpecs
end
section
namespace Go.Proofs.YtpnkifincadakaaGreatDoor.Wr
open Go.RowKit Go.Pk Go.Am Go.Proofs.YtpnkifincadakaaGreatDoorW.PrintWords Go.Proofs.YtpnkifincadakaaGreatDoor.PPackSpecs
theorem infoB : (Tryz.prog.info? 5).map (fun i => (i.zero, i.size, i.bytes)) = some (some (.int .u8 0), 1, 1) := by kernel_rfl
end Go.Proofs.YtpnkifincadakaaGreatDoor.Wr
end
section
namespace Go.Pk
open Go.Proofs.YtpnkifincadakaaGreatDoor.PPackSpecs
mutual
def sizeE : S40 → Nat | ⟨_, _, _, _, _, l⟩ => 1 + sizeL l
def sizeL : List S40 → Nat | [] => 0 | x :: r => sizeE x + sizeL r
end
mutual
def depE : S40 → Nat | ⟨_, _, _, _, _, l⟩ => 1 + depL l
def depL : List S40 → Nat | [] => 0 | x :: r => max (depE x) (depL r)
end
def ownOk (e : S40) : Bool :=
  if e.f0 = 1 then decide (0 ≤ e.f1 ∧ e.f1 ≤ e.f2 ∧ e.f2 ≤ 255 ∧ e.f3 = 0 ∧ e.f4 = 0 ∧ e.f5.length = 0)
  else if e.f0 = 2 then decide (e.f1 = 0 ∧ e.f2 = 0 ∧ e.f3 = 0 ∧ e.f4 = 0 ∧ e.f5.length ≠ 1)
  else if e.f0 = 3 then decide (e.f1 = 0 ∧ e.f2 = 0 ∧ e.f3 = 0 ∧ e.f4 = 0 ∧ 1 < e.f5.length)
  else if e.f0 = 4 then decide (e.f1 = 0 ∧ e.f2 = 0 ∧ e.f5.length = 1 ∧ 0 ≤ e.f3 ∧ e.f3 ≤ 1000 ∧ (e.f4 = -1 ∨ e.f3 ≤ e.f4 ∧ e.f4 ≤ 1000))
  else false
mutual
def rightE : S40 → Bool | ⟨a, b, c, d, f, l⟩ => ownOk ⟨a, b, c, d, f, l⟩ && rightL l
def rightL : List S40 → Bool | [] => true | x :: r => rightE x && rightL r
end
def copiesOf (e : S40) : Int := if e.f4 < 0 then max e.f3 1 else e.f4
mutual
def posE : S40 → Int | ⟨a, b, c, d, f, l⟩ => if a = 1 then 1 else min (if a = 4 then posL l * copiesOf ⟨a, b, c, d, f, l⟩ else posL l) 4097
def posL : List S40 → Int | [] => 0 | x :: r => posE x + posL r
end
def chk (e : S40) : Int := if 4096 < sizeE e then 2 else if 64 < depE e then 5 else if rightE e = false then 20 else if 4096 < posE e then 21 else 0
theorem sizeE_eq (e : S40) : sizeE e = 1 + sizeL e.f5 := by cases e; simp [sizeE]
theorem depE_eq (e : S40) : depE e = 1 + depL e.f5 := by cases e; simp [depE]
theorem rightE_eq (e : S40) : rightE e = (ownOk e && rightL e.f5) := by cases e; simp [rightE]
theorem posE_eq (e : S40) : posE e = if e.f0 = 1 then 1 else min (if e.f0 = 4 then posL e.f5 * copiesOf e else posL e.f5) 4097 := by cases e; simp [posE]
theorem sizeE_pos (e : S40) : 1 ≤ sizeE e := by rw [sizeE_eq]; omega
theorem depE_pos (e : S40) : 1 ≤ depE e := by rw [depE_eq]; omega
theorem sizeL_append : ∀ (a b : List S40), sizeL (a ++ b) = sizeL a + sizeL b
  | [], b => by simp [sizeL]
  | x :: a, b => by simp [sizeL, sizeL_append a b]; omega
theorem depL_append : ∀ (a b : List S40), depL (a ++ b) = max (depL a) (depL b)
  | [], b => by simp [depL]
  | x :: a, b => by simp [depL, depL_append a b]
theorem length_le_sizeL : ∀ (l : List S40), l.length ≤ sizeL l
  | [] => by simp [sizeL]
  | x :: r => by have := length_le_sizeL r; have := sizeE_pos x; simp [sizeL]; omega
def kids (l : List S40) : List S40 := l.flatMap fun e => e.f5
theorem sizeL_kids : ∀ (l : List S40), sizeL l = l.length + sizeL (kids l)
  | [] => by simp [sizeL, kids]
  | x :: r => by
    have := sizeL_kids r
    simp only [kids, List.flatMap_cons, sizeL_append, sizeL, sizeE_eq, List.length_cons] at *
    omega
theorem depL_kids : ∀ (l : List S40), l ≠ [] → depL l = 1 + depL (kids l)
  | [], h => absurd rfl h
  | [x], _ => by simp [kids, depL, depE_eq]
  | x :: y :: r, _ => by
    have := depL_kids (y :: r) (by simp)
    simp only [kids, List.flatMap_cons, depL_append, depL, depE_eq] at *
    omega
theorem posL_nonneg_E : (∀ e, 0 ≤ posE e ∧ posE e ≤ 4097 ∨ rightE e = false) := by
  have h : ∀ n, (∀ e, sizeE e ≤ n → rightE e = true → 0 ≤ posE e ∧ posE e ≤ 4097) ∧ ∀ l, sizeL l ≤ n → rightL l = true → 0 ≤ posL l ∧ posL l ≤ 4097 * l.length := by
    intro n
    induction n with
    | zero =>
      refine ⟨fun e h => by have := sizeE_pos e; omega, fun l h _ => ?_⟩
      cases l with
      | nil => simp [posL]
      | cons x r => have := sizeE_pos x; simp [sizeL] at h; omega
    | succ n ih =>
      have hE : ∀ e, sizeE e ≤ n + 1 → rightE e = true → 0 ≤ posE e ∧ posE e ≤ 4097 := fun e h hr => by
        rw [rightE_eq, Bool.and_eq_true] at hr
        have h1 := ih.2 e.f5 (by rw [sizeE_eq] at h; omega) hr.2
        rw [posE_eq]
        split
        · omega
        · split
          · have hc : 0 ≤ copiesOf e := by unfold copiesOf; split <;> omega
            have := Int.mul_nonneg h1.1 hc
            omega
          · omega
      refine ⟨hE, fun l => ?_⟩
      induction l with
      | nil => intro _ _; simp [posL]
      | cons x r ihr =>
        intro h hr
        simp only [sizeL] at h
        simp only [rightL, Bool.and_eq_true] at hr
        have h1 := hE x (by omega) hr.1
        have h2 := ihr (by omega) hr.2
        simp only [posL, List.length_cons]
        omega
  intro e
  cases hr : rightE e with
  | false => exact .inr rfl
  | true => exact .inl ((h _).1 e (Nat.le_refl _) hr)
def b1 (n : Int) : List Int := [n % 256]
def b2 (n : Int) : List Int := [n % 256, n / 256 % 256]
def b4 (n : Int) : List Int := [n % 256, n / 256 % 256, n / 65536 % 256, n / 16777216 % 256]
theorem mem_size : ∀ (l : List S40) (x : S40), x ∈ l → sizeE x ≤ sizeL l
  | y :: r, x, h => by
    rcases List.mem_cons.1 h with rfl | h
    · simp [sizeL]
    · have := mem_size r x h
      simp [sizeL]
      omega
end Go.Pk
end
section
namespace Go.Proofs.YtpnkifincadakaaGreatDoor.Wr
open Go.RowKit Go.Pk Go.Proofs.YtpnkifincadakaaGreatDoorW.PrintWords Go.Proofs.YtpnkifincadakaaGreatDoor.PPackSpecs
open Go.Am (TabVar sum_any)
def magic : List Int := [103, 114, 97, 102, 116, 115, 112, 101]
def summed (bs : List Int) : List Int := bs ++ b4 (crc bs : Nat)
theorem tab_below {w w' : World} {B : Nat} (h : TabVar w) (hB : 0 < B) (hb : Below B w w') : TabVar w' := fun j v hj => by
  rw [hb.cell (p := ⟨0, j, none⟩) hB]
  exact h j v hj
end Go.Proofs.YtpnkifincadakaaGreatDoor.Wr
end
section
namespace Go.Pk
open Go.RowKit Go.Proofs.YtpnkifincadakaaGreatDoorW.PrintWords Go.Proofs.YtpnkifincadakaaGreatDoor.PPackSpecs
theorem w64 {n : Int} (h0 : -9223372036854775808 ≤ n) (h1 : n ≤ 9223372036854775807) : wrap64 n = n := by
  unfold wrap64
  omega
theorem drop_at {α : Type} {l : List α} {i : Nat} (h : i < l.length) : l.drop i = l[i] :: l.drop (i + 1) := List.drop_eq_getElem_cons h
theorem rd40 {l : List S40} {i : Nat} (h : i < l.length) : rd_T40 l (i : Int) = l[i] := by
  unfold rd_T40
  rw [Int.toNat_natCast, List.getD_eq_getElem?_getD, List.getElem?_eq_getElem h]
  rfl
theorem sizeL_drop {l : List S40} {i : Nat} (h : i < l.length) : sizeL (l.drop i) = sizeE l[i] + sizeL (l.drop (i + 1)) := by rw [drop_at h]; simp [sizeL]
theorem depL_drop {l : List S40} {i : Nat} (h : i < l.length) : depL (l.drop i) = max (depE l[i]) (depL (l.drop (i + 1))) := by rw [drop_at h]; simp [depL]
theorem rightL_drop {l : List S40} {i : Nat} (h : i < l.length) : rightL (l.drop i) = (rightE l[i] && rightL (l.drop (i + 1))) := by rw [drop_at h]; simp [rightL]
theorem posL_drop {l : List S40} {i : Nat} (h : i < l.length) : posL (l.drop i) = posE l[i] + posL (l.drop (i + 1)) := by rw [drop_at h]; simp [posL]
theorem pos_bound (n : Nat) : (∀ e, sizeE e ≤ n → rightE e = true → 0 ≤ posE e ∧ posE e ≤ 4097) ∧ ∀ l, sizeL l ≤ n → rightL l = true → 0 ≤ posL l ∧ posL l ≤ 4097 * l.length := by
  induction n with
  | zero =>
    refine ⟨fun e h => by have := sizeE_pos e; omega, fun l h _ => ?_⟩
    cases l with
    | nil => simp [posL]
    | cons x r => have := sizeE_pos x; simp [sizeL] at h; omega
  | succ n ih =>
    have hE : ∀ e, sizeE e ≤ n + 1 → rightE e = true → 0 ≤ posE e ∧ posE e ≤ 4097 := fun e h hr => (posL_nonneg_E e).resolve_right (by rw [hr]; simp)
    refine ⟨hE, fun l => ?_⟩
    induction l with
    | nil => intro _ _; simp [posL]
    | cons x r ihr =>
      intro h hr
      simp only [sizeL] at h
      simp only [rightL, Bool.and_eq_true] at hr
      have h1 := hE x (by omega) hr.1
      have h2 := ihr (by omega) hr.2
      simp only [posL, List.length_cons]
      omega
theorem copies_bound {e : S40} (h : rightE e = true) (h4 : e.f0 = 4) : 0 ≤ copiesOf e ∧ copiesOf e ≤ 1000 ∧ e.f5.length = 1 := by
  rw [rightE_eq, Bool.and_eq_true] at h
  have h0 := h.1
  unfold ownOk at h0
  rw [if_neg (by omega), if_neg (by omega), if_neg (by omega), if_pos h4] at h0
  simp only [decide_eq_true_eq] at h0
  refine ⟨?_, ?_, h0.2.2.1⟩ <;> (unfold copiesOf; split <;> omega)
end Go.Pk
end
section
namespace Go.Proofs.YtpnkifincadakaaGreatDoor.PPackSpecs
open Go.RowKit Go.Proofs.YtpnkifincadakaaGreatDoorW.PrintWords Go.Proofs.YtpnkifincadakaaGreatDoorW.PrintLast Go.Proofs.YtpnkifincadakaaGreatDoorW.PrintMore
attribute [local go_sem] max2_int min2_int max_two min_two
def graftref18_number.l0 : Nat → Int → Int → List Int → Int → Option (List Int)
  | 0, _, _, _, _ => none
  | k + 1, x0, x1, x5, x6 => if x6 < x1 then (if 0 ≤ (wrap64 (8 * x6)) then (if x5.length < 140737488355328 then (graftref18_number.l0 k x0 x1 (x5 ++ [(shr .i64 x0 (wrap64 (8 * x6))) % 256]) (wrap64 (x6 + 1))) else (none)) else (none)) else (some x5)
def graftref18_number.f (k : Nat) (a0 : Int) (a1 : Int) : Option (List Int) := graftref18_number.l0 k a0 a1 ([] : List Int) 0
set_option maxHeartbeats 8000000 in
set_option maxRecDepth 100000 in
theorem graftref18_number.calls (k : Nat) (a0 : Int) (a1 : Int) (r : List Int) (w : World) (h : graftref18_number.f k a0 a1 = some r) :
    Calls Tryz.prog 37 #[.int .i64 a0, .int .i64 a1] w fun e w' => ∃ v0_ : Value, e = .returned (v0_) ∧ Kd.R (Kd.int .u8) 5 w' w.heap.size (fun _ => True) v0_ r ∧ Below w.heap.size w w' := by
  have HB := Aside0.mk (Below.refl w.heap.size w)
  have H : (graftref18_number.l0 k a0 a1 ([] : List Int) 0) = some r := h
  clear h
  have H' := Aside0.mk H
  clear H
  go_enter Tryz.func37, Tryz.ntmps37
  go_wp2
  go_loopg [5, 6] k (fun kq v5 v6 w' => ∃ (x5_1 : List Int) (x6_1 : Int), v6 = .int .i64 x6_1 ∧ Aside0 (graftref18_number.l0 kq a0 a1 x5_1 x6_1 = some r) ∧ Aside0 (kq ≤ k) ∧ Aside0 (Kd.R (Kd.int .u8) 5 w' w.heap.size (fun _ => True) v5 x5_1) ∧ Aside0 (Below w.heap.size w w'))
  case atStart => exact ⟨(([] : List Int)), (0), (by first | rfl | (simp; done) | (simp [*]; done)), H', ⟨Nat.le_refl _⟩, ⟨by first | exact Kd.R_nil _ _ _ _ _ | exact Kd.N_nil _ _ _ _ _ | exact Kd.V_nil _ _ _ _ _ | exact Kd.Q_nil _ _ _ _ _ | exact Kd.S_nil _ _ _ _ _⟩, ⟨by repeat (first | (with_reducible first | exact HB.out | apply below_alloc | apply pw_below_drewN | apply below_drew1) | exact HB.out)⟩⟩
  case round =>
    clear H'
    try clear p2
    obtain ⟨x5_1, x6_1, rfl, HA, HK1, HO_5, HB⟩ := hrel
    cases gk with
    | zero => exact absurd HA.out (by simp [graftref18_number.l0])
    | succ k1 =>
      have H := HA.out
      clear HA
      simp only [graftref18_number.l0] at H
      by_cases c3 : x6_1 < a1
      · rw [if_pos c3] at H
        have c3b0 : decide (x6_1 < a1) = true := decide_eq_true c3
        clear c3
        obtain ⟨ji4, hji4⟩ : ∃ j_ : Int, (wrap64 (8 * x6_1)) = j_ := ⟨_, rfl⟩
        replace H : (if 0 ≤ (ji4) then (if x5_1.length < 140737488355328 then (graftref18_number.l0 k1 a0 a1 (x5_1 ++ [(shr .i64 a0 (ji4)) % 256]) (wrap64 (x6_1 + 1))) else (none)) else (none)) = some r := by first | (rw [hji4] at H; exact H) | (simp only [hji4] at H ⊢; exact H)
        have hji4w : (IntKind.i64.wrap (8 * x6_1)) = ji4 := (i64_w _).trans hji4
        by_cases c5 : 0 ≤ (ji4)
        · rw [if_pos c5] at H
          have c5b0 := eq_true c5
          have c5b1 : decide (0 ≤ (ji4)) = true := decide_eq_true c5
          clear c5
          obtain ⟨ji6, hji6⟩ : ∃ j_ : Int, (shr .i64 a0 (ji4)) = j_ := ⟨_, rfl⟩
          replace H : (if x5_1.length < 140737488355328 then (graftref18_number.l0 k1 a0 a1 (x5_1 ++ [(ji6) % 256]) (wrap64 (x6_1 + 1))) else (none)) = some r := by first | (rw [hji6] at H; exact H) | (simp only [hji6] at H ⊢; exact H)
          have hji6_ : (a0 / 2 ^ min (ji4).toNat 64) = ji6 := hji6
          have hji6z : (ji4) ≤ 64 → (a0 / 2 ^ (ji4).toNat) = ji6 := shr_small hji6
          by_cases c7 : x5_1.length < 140737488355328
          · rw [if_pos c7] at H
            have LMc7 := Aside0.mk c7
            clear c7
            obtain ⟨y276, hy276⟩ : ∃ y_ : List Int, y_ = (x5_1 ++ [(ji6) % 256]) := ⟨_, rfl⟩
            replace H : (graftref18_number.l0 k1 a0 a1 y276 (wrap64 (x6_1 + 1))) = some r := by first | (rw [hy276]; with_reducible exact H) | (have H2_ := (Option.bind_some _ _).symm.trans H; rw [hy276]; with_reducible exact H2_) | (have H2_ := (Option.bind_some _ _).symm.trans H; with_reducible exact H2_) | with_reducible exact H | (rw [hy276]; exact H) | exact H
            have Ny276 := Aside0.mk hy276
            clear hy276
            have H' := Aside0.mk H
            clear H
            go_wp2_with (first | ((with_reducible refine gate_builtin (b := .append) (xs := #[.tmp 12, .tmp 18]) rfl ?_); at_builtin; refine Kd.R_append (Kd.int .u8) (w0 := w) w.heap.size rfl (.tmp 12) (.tmp 18) 30 5 (.int .u8 0) 1 rfl Tryz.underlying30 info5 rfl (by decide) (by omega) u5 x5_1 ((ji6) % 256) [.int .u8 ((ji6) % 256)] (fun _ => True) (fun _ => False) rfl rfl ?aP (fun _ hk => hk.elim) ?aF ?aO ?aB ?aS ?aL ?_; (case aP => exact rfl); (case aB => exact (by repeat (first | (with_reducible first | exact HB.out | apply below_alloc | apply pw_below_drewN | apply below_drew1) | exact HB.out))); (case aF => exact (fun _ _ => trivial)); (case aO => exact (by (with_reducible repeat (first | apply Kd.R_alloc | apply Kd.R_drewN | apply Kd.R_drew)); exact HO_5.out)); (case aS => exact (below_size (by repeat (first | (with_reducible first | exact HB.out | apply below_alloc | apply pw_below_drewN | apply below_drew1) | exact HB.out)))); (case aL => have := LMc7.out; omega); intro v277 w8 ho hb hg hat; rw [← Ny276.out] at ho; have n0_ := Aside0.mk (hb); have n1_ := Aside0.mk (ho); clear HB; clear HO_5; have HB := n0_; have HO278 := n1_; clear n0_ n1_; clear ho hb hg hat))
            go_roundg k1
            case measure => have := HK1.out; omega
            case rel => exact ⟨(y276), (wrap64 (x6_1 + 1)), (by first | rfl | (simp; done) | (simp [*]; done)), H', ⟨by have := HK1.out; omega⟩, ⟨by (with_reducible repeat (first | apply Kd.R_alloc | apply Kd.R_drewN | apply Kd.R_drew)); exact HO278.out⟩, ⟨by repeat (first | (with_reducible first | exact HB.out | apply below_alloc | apply pw_below_drewN | apply below_drew1) | exact HB.out)⟩⟩
          · rw [if_neg c7] at H
            exact absurd H (by simp)
        · rw [if_neg c5] at H
          exact absurd H (by simp)
      · rw [if_neg c3] at H
        have c3b0 : decide (x6_1 < a1) = false := decide_eq_false c3
        clear c3
        obtain rfl := Option.some.inj H
        go_wp2
        go_ret
        exact ⟨_, by first | rfl | (simp [errW_none, errW_some] <;> rfl) | (simp [*, errW_none, errW_some] <;> rfl), by (with_reducible repeat (first | apply Kd.R_alloc | apply Kd.R_drewN | apply Kd.R_drew)); exact HO_5.out, by repeat (first | (with_reducible first | exact HB.out | apply below_alloc | apply pw_below_drewN | apply below_drew1) | exact HB.out)⟩
mutual
def graftref2_Guard.l0 : Nat → List (S40) → Int → Int → Option (Int)
  | 0, _, _, _ => none
  | k + 1, x3, x4, x5 => graftref2_Guard.l1 k x3 x4 x5 ([] : List (S40)) 0
def graftref2_Guard.l1 : Nat → List (S40) → Int → Int → List (S40) → Int → Option (Int)
  | 0, _, _, _, _, _ => none
  | k + 1, x3, x4, x5, x6, x7 => if x7 < (x3.length : Int) then (if 0 ≤ x7 then (if (wrap64 (x4 + (((rd_T40 x3 x7).f5).length : Int))) > 4096 then (some 2) else (if x6.length + ((rd_T40 x3 x7).f5).length < 2199023255552 then (graftref2_Guard.l1 k x3 (wrap64 (x4 + (((rd_T40 x3 x7).f5).length : Int))) x5 (x6 ++ ((rd_T40 x3 x7).f5)) (wrap64 (x7 + 1))) else (none))) else (none)) else (if (x6.length : Int) = 0 then (if x5 > 64 then (some 5) else (some 0)) else (graftref2_Guard.l0 k x6 x4 (wrap64 (x5 + 1))))
end
def graftref2_Guard.f (k : Nat) (a0_0 : Int) (a0_1 : Int) (a0_2 : Int) (a0_3 : Int) (a0_4 : Int) (l0_5 : List (S40)) : Option (Int) := graftref2_Guard.l0 k (([(⟨a0_0, a0_1, a0_2, a0_3, a0_4, l0_5⟩ : S40)] : List (S40))) 1 1
set_option maxHeartbeats 8000000 in
set_option maxRecDepth 100000 in
theorem graftref2_Guard.calls (k : Nat) (a0_0 : Int) (a0_1 : Int) (a0_2 : Int) (a0_3 : Int) (a0_4 : Int) (P0_5_ : Nat → Prop) (A0_5 : Option Addr) (c0_5 : Nat) (l0_5 : List (S40)) (r : Int) (w : World) (hs0_5 : Kd.V k40 40 w w.heap.size (fun k_ => P0_5_ k_) (.slice A0_5 l0_5.length c0_5) l0_5) (h : graftref2_Guard.f k a0_0 a0_1 a0_2 a0_3 a0_4 l0_5 = some r) :
    Calls Tryz.prog 146 #[.agg #[.int .i64 a0_0, .int .i64 a0_1, .int .i64 a0_2, .int .i64 a0_3, .int .i64 a0_4, .slice A0_5 l0_5.length c0_5]] w fun e w' => e = .returned (.int .i64 r) ∧ Below w.heap.size w w' := by
  have hu40 := Tryz.underlying40
  have HO0_5 := Aside0.mk (show Kd.V k40 40 w w.heap.size (fun k_ => (P0_5_ k_ ∨ w.heap.size ≤ k_)) (.slice A0_5 l0_5.length c0_5) l0_5 from Kd.V_mono hs0_5 (fun k_ hk => .inl hk))
  have HB := Aside0.mk (Below.refl w.heap.size w)
  have H : (graftref2_Guard.l0 k (([(⟨a0_0, a0_1, a0_2, a0_3, a0_4, l0_5⟩ : S40)] : List (S40))) 1 1) = some r := h
  clear h
  obtain ⟨y287, hy287⟩ : ∃ y_ : List (S40), y_ = (([(⟨a0_0, a0_1, a0_2, a0_3, a0_4, l0_5⟩ : S40)] : List (S40))) := ⟨_, rfl⟩
  replace H : (graftref2_Guard.l0 k y287 1 1) = some r := by first | (rw [hy287]; with_reducible exact H) | (have H2_ := (Option.bind_some _ _).symm.trans H; rw [hy287]; with_reducible exact H2_) | (have H2_ := (Option.bind_some _ _).symm.trans H; with_reducible exact H2_) | with_reducible exact H | (rw [hy287]; exact H) | exact H
  have Ny287 := Aside0.mk hy287
  clear hy287
  have H' := Aside0.mk H
  clear H
  go_enter Tryz.func146, Tryz.ntmps146
  go_wp2_with (first | ((with_reducible refine gate_dst (N := 1) rfl ?_); refine box_event ?hg (N := 1) ?hd (cs := #[.int .i64 a0_0, .int .i64 a0_1, .int .i64 a0_2, .int .i64 a0_3, .int .i64 a0_4, .slice A0_5 l0_5.length c0_5]) (t := 40) ?hr ?_; (case hd => rfl); (case hg => rfl); (case hr => first | (go_simp; done) | (go_simp; rfl)); intro gb286 hg w2 hbox hb; have n0_ := Aside0.mk (Kd.V_below (Kd.V_elderB (by (with_reducible repeat (first | apply Kd.V_alloc | apply Kd.V_drewN | apply Kd.V_drew)); exact HO0_5.out) gb286 (Nat.le_of_eq hg.symm)) hb); have n1_ := Aside0.mk (below_step (by repeat (first | (with_reducible first | exact HB.out | apply below_alloc | apply pw_below_drewN | apply below_drew1) | exact HB.out)) hb); have n2_ := Aside0.mk (hbox); have n3_ := Aside0.mk ((by rw [hg]; exact (below_size (by repeat (first | (with_reducible first | exact HB.out | apply below_alloc | apply pw_below_drewN | apply below_drew1) | exact HB.out))) : w.heap.size ≤ gb286)); have n4_ := Aside0.mk ((by rw [hg]; exact (below_size (by repeat (first | (with_reducible first | exact HB.out | apply below_alloc | apply pw_below_drewN | apply below_drew1) | exact HB.out))) : w.heap.size ≤ gb286)); clear HO0_5; clear HB; have HO0_5 := n0_; have HB := n1_; have BK286 := n2_; have GW286 := n3_; have GE286 := n4_; clear n0_ n1_ n2_ n3_ n4_; clear hb hbox hg; have hcz3_0 : w2.cell? ⟨gb286, 0, none⟩ = some (.int .i64 a0_0) := (blk_cell BK286.out 0).trans rfl; have hcz3_1 : w2.cell? ⟨gb286, 1, none⟩ = some (.int .i64 a0_1) := (blk_cell BK286.out 1).trans rfl; have hcz3_2 : w2.cell? ⟨gb286, 2, none⟩ = some (.int .i64 a0_2) := (blk_cell BK286.out 2).trans rfl; have hcz3_3 : w2.cell? ⟨gb286, 3, none⟩ = some (.int .i64 a0_3) := (blk_cell BK286.out 3).trans rfl; have hcz3_4 : w2.cell? ⟨gb286, 4, none⟩ = some (.int .i64 a0_4) := (blk_cell BK286.out 4).trans rfl; have hcz3_5 : w2.cell? ⟨gb286, 5, none⟩ = some (.slice A0_5 l0_5.length c0_5) := (blk_cell BK286.out 5).trans rfl; have hfz3_0 := blk_frozen BK286.out 0; have hfz3_1 := blk_frozen BK286.out 1; have hfz3_2 := blk_frozen BK286.out 2; have hfz3_3 := blk_frozen BK286.out 3; have hfz3_4 := blk_frozen BK286.out 4; have hfz3_5 := blk_frozen BK286.out 5) | ((with_reducible refine gate_dst (N := 9) rfl ?_); refine Kd.N_lit k40 _ 40 ?hg (N' := 9) ?hd (xs := ([(⟨a0_0, a0_1, a0_2, a0_3, a0_4, l0_5⟩ : S40)] : List (S40))) (inner := [.int .i64 a0_0, .int .i64 a0_1, .int .i64 a0_2, .int .i64 a0_3, .int .i64 a0_4, .slice A0_5 l0_5.length c0_5]) (ok := (fun k_ => (P0_5_ k_ ∨ w.heap.size ≤ k_) ∧ k_ ≠ gb286)) (okp := (fun k_ => (P0_5_ k_ ∨ w.heap.size ≤ k_) ∧ k_ ≠ gb286)) ?hr ?hp (fun _ hk => hk) ((show ∀ k_, w2.heap.size ≤ k_ → (fun k_ => (P0_5_ k_ ∨ w.heap.size ≤ k_) ∧ k_ ≠ gb286) k_ from fun k_ hk => ⟨(.inr (Nat.le_trans (below_size (by repeat (first | (with_reducible first | exact HB.out | apply below_alloc | apply pw_below_drewN | apply below_drew1 | refine below_set ?_ GE286.out) | exact HB.out))) hk)), Kd.freshB (g := gb286) (o := .cells #[.int .i64 a0_0, .int .i64 a0_1, .int .i64 a0_2, .int .i64 a0_3, .int .i64 a0_4, .slice A0_5 l0_5.length c0_5] 40 (0, 0)) (by (with_reducible repeat (first | refine blk_drewN ?_ _ | refine blk_drew ?_ | refine blk_alloc ?_ _)); exact BK286.out) k_ hk⟩) _ (Nat.le_refl _)) (Below.refl _ _) (Nat.le_refl _) (by simp) ?_; (case hd => rfl); (case hg => rfl); (case hr => first | (go_simp; done) | (go_simp; rfl)); (case hp => exact (Reps.c6 (show Kd.FK k40 _ _ (⟨a0_0, a0_1, a0_2, a0_3, a0_4, l0_5⟩ : S40) [.int .i64 a0_0, .int .i64 a0_1, .int .i64 a0_2, .int .i64 a0_3, .int .i64 a0_4, .slice A0_5 l0_5.length c0_5] from (k40_mkF _ _ (⟨a0_0, a0_1, a0_2, a0_3, a0_4, l0_5⟩ : S40) (Kd.V_reads' (Kd.V_mono (ok' := (fun k_ => (P0_5_ k_ ∨ w.heap.size ≤ k_) ∧ k_ ≠ gb286)) (HO0_5.out) (fun k_ hk => ⟨hk.1, hk.2⟩))).2.1 (Kd.V_F (Kd.V_mono (ok' := (fun k_ => (P0_5_ k_ ∨ w.heap.size ≤ k_) ∧ k_ ≠ gb286)) (HO0_5.out) (fun k_ hk => ⟨hk.1, hk.2⟩))))) (Reps.none _ _))); intro v288 w4 ho5 hb hg_ hnew_; clear hg_ hnew_; (first | rw [← Ny287.out] at ho5 | (simp only [Int.reduceToNat] at ho5; rw [← Ny287.out] at ho5)); have n0_ := Aside0.mk (Kd.V_elder' (by (with_reducible repeat (first | apply Kd.V_alloc | apply Kd.V_drewN | apply Kd.V_drew)); exact HO0_5.out) (Kd.N_base ho5) hb); have n1_ := Aside0.mk (Kd.N_lower ho5 (below_size (by repeat (first | (with_reducible first | exact HB.out | apply below_alloc | apply pw_below_drewN | apply below_drew1 | refine below_set ?_ GE286.out) | exact HB.out)))); have n2_ := Aside0.mk (blk_below (g := gb286) (o := .cells #[.int .i64 a0_0, .int .i64 a0_1, .int .i64 a0_2, .int .i64 a0_3, .int .i64 a0_4, .slice A0_5 l0_5.length c0_5] 40 (0, 0)) (by (with_reducible repeat (first | refine blk_drewN ?_ _ | refine blk_drew ?_ | refine blk_alloc ?_ _)); exact BK286.out) hb); have n3_ := Aside0.mk (below_step (by repeat (first | (with_reducible first | exact HB.out | apply below_alloc | apply pw_below_drewN | apply below_drew1 | refine below_set ?_ GE286.out) | exact HB.out)) hb); clear HO0_5; clear BK286; clear HB; have HO0_5 := n0_; have HO289 := n1_; have BK286 := n2_; have HB := n3_; clear n0_ n1_ n2_ n3_; clear hb ho5))
  go_loopg [3, 4, 5] k (fun kq v3 v4 v5 w' => ∃ (x3_1 : List (S40)) (x4_1 : Int) (x5_1 : Int), v4 = .int .i64 x4_1 ∧ v5 = .int .i64 x5_1 ∧ Aside0 (graftref2_Guard.l0 kq x3_1 x4_1 x5_1 = some r) ∧ Aside0 (kq ≤ k) ∧ Aside0 (Kd.N k40 40 w' w.heap.size (fun k_ => (P0_5_ k_ ∨ w.heap.size ≤ k_) ∧ k_ ≠ gb286) v3 x3_1) ∧ Aside0 (Kd.V k40 40 w' w.heap.size (fun k_ => (P0_5_ k_ ∨ w.heap.size ≤ k_) ∧ some k_ ≠ (v3 : Value).ownBlock ∧ k_ ≠ gb286) (.slice A0_5 l0_5.length c0_5) l0_5) ∧ Aside0 (w'.heap[gb286]? = some (.cells #[.int .i64 a0_0, .int .i64 a0_1, .int .i64 a0_2, .int .i64 a0_3, .int .i64 a0_4, (.slice A0_5 l0_5.length c0_5)] 40 (0, 0))) ∧ Aside0 (Below w.heap.size w w'))
  case atStart => exact ⟨(y287), (1), (1), (by first | rfl | (simp; done) | (simp [*]; done)), (by first | rfl | (simp; done) | (simp [*]; done)), H', ⟨Nat.le_refl _⟩, ⟨by (with_reducible repeat (first | apply Kd.N_alloc | apply Kd.N_drewN | apply Kd.N_drew)); exact HO289.out⟩, ⟨by (with_reducible repeat (first | apply Kd.V_alloc | apply Kd.V_drewN | apply Kd.V_drew)); exact Kd.V_mono HO0_5.out (fun _ hk => ⟨hk.1.1, ⟨hk.2, hk.1.2⟩⟩)⟩, ⟨by (with_reducible repeat (first | refine blk_drewN ?_ _ | refine blk_drew ?_ | refine blk_alloc ?_ _)); exact BK286.out⟩, ⟨by repeat (first | (with_reducible first | exact HB.out | apply below_alloc | apply pw_below_drewN | apply below_drew1 | refine below_set ?_ GE286.out) | exact HB.out)⟩⟩
  case round =>
    clear H'
    try clear c1
    try clear p2
    try clear hcz3_0
    try clear hcz3_1
    try clear hcz3_2
    try clear hcz3_3
    try clear hcz3_4
    try clear hcz3_5
    try clear hfz3_0
    try clear hfz3_1
    try clear hfz3_2
    try clear hfz3_3
    try clear hfz3_4
    try clear hfz3_5
    obtain ⟨x3_1, x4_1, x5_1, rfl, rfl, HA, HK1, HO_3, HO_287005, BK286, HB⟩ := hrel
    cases gk with
    | zero => exact absurd HA.out (by simp [graftref2_Guard.l0])
    | succ k1 =>
      have H := HA.out
      clear HA
      simp only [graftref2_Guard.l0] at H
      have H' := Aside0.mk H
      clear H
      go_wp2
      go_loopg [4, 6, 7] k1 (fun kq v4 v6 v7 w' => ∃ (x4_2 : Int) (x6_2 : List (S40)) (x7_2 : Int), v4 = .int .i64 x4_2 ∧ v7 = .int .i64 x7_2 ∧ Aside0 (graftref2_Guard.l1 kq x3_1 x4_2 x5_1 x6_2 x7_2 = some r) ∧ Aside0 (kq ≤ k1) ∧ Aside0 (Kd.N k40 40 w' w.heap.size (fun k_ => (P0_5_ k_ ∨ w.heap.size ≤ k_) ∧ some k_ ≠ (v6 : Value).ownBlock ∧ k_ ≠ gb286) u3 x3_1) ∧ Aside0 (Kd.N k40 40 w' w.heap.size (fun k_ => (P0_5_ k_ ∨ w.heap.size ≤ k_) ∧ some k_ ≠ (u3 : Value).ownBlock ∧ k_ ≠ gb286) v6 x6_2) ∧ Aside0 (Kd.V k40 40 w' w.heap.size (fun k_ => (P0_5_ k_ ∨ w.heap.size ≤ k_) ∧ some k_ ≠ (u3 : Value).ownBlock ∧ some k_ ≠ (v6 : Value).ownBlock ∧ k_ ≠ gb286) (.slice A0_5 l0_5.length c0_5) l0_5) ∧ Aside0 (w'.heap[gb286]? = some (.cells #[.int .i64 a0_0, .int .i64 a0_1, .int .i64 a0_2, .int .i64 a0_3, .int .i64 a0_4, (.slice A0_5 l0_5.length c0_5)] 40 (0, 0))) ∧ Aside0 (Below w.heap.size w w'))
      case atStart => exact ⟨(x4_1), (([] : List (S40))), (0), (by first | rfl | (simp; done) | (simp [*]; done)), (by first | rfl | (simp; done) | (simp [*]; done)), H', ⟨Nat.le_refl _⟩, ⟨by (with_reducible repeat (first | apply Kd.N_alloc | apply Kd.N_drewN | apply Kd.N_drew)); exact Kd.N_mono HO_3.out (fun _ hk => ⟨hk.1, ⟨(by simp [Value.ownBlock]), hk.2⟩⟩)⟩, ⟨by first | exact Kd.R_nil _ _ _ _ _ | exact Kd.N_nil _ _ _ _ _ | exact Kd.V_nil _ _ _ _ _ | exact Kd.Q_nil _ _ _ _ _ | exact Kd.S_nil _ _ _ _ _⟩, ⟨by (with_reducible repeat (first | apply Kd.V_alloc | apply Kd.V_drewN | apply Kd.V_drew)); exact Kd.V_mono HO_287005.out (fun _ hk => ⟨hk.1, ⟨hk.2.1, ⟨(by simp [Value.ownBlock]), hk.2.2⟩⟩⟩)⟩, ⟨by (with_reducible repeat (first | refine blk_drewN ?_ _ | refine blk_drew ?_ | refine blk_alloc ?_ _)); exact BK286.out⟩, ⟨by repeat (first | (with_reducible first | exact HB.out | apply below_alloc | apply pw_below_drewN | apply below_drew1 | refine below_set ?_ GE286.out) | exact HB.out)⟩⟩
      case round =>
        clear H'
        try clear c1
        try clear p2
        try clear hcz3_0
        try clear hcz3_1
        try clear hcz3_2
        try clear hcz3_3
        try clear hcz3_4
        try clear hcz3_5
        try clear hfz3_0
        try clear hfz3_1
        try clear hfz3_2
        try clear hfz3_3
        try clear hfz3_4
        try clear hfz3_5
        try clear p2
        obtain ⟨x4_2, x6_2, x7_2, rfl, rfl, HA, HK2, HO_3, HO_6, HO_287005, BK286, HB⟩ := hrel
        cases gk with
        | zero => exact absurd HA.out (by simp [graftref2_Guard.l1])
        | succ k2 =>
          have H := HA.out
          clear HA
          simp only [graftref2_Guard.l1] at H
          by_cases c6 : x7_2 < (x3_1.length : Int)
          · rw [if_pos c6] at H
            have c6b0 : decide (x7_2 < (x3_1.length : Int)) = true := decide_eq_true c6
            clear c6
            by_cases c7 : 0 ≤ x7_2
            · rw [if_pos c7] at H
              have c7b0 : decide (0 ≤ x7_2) = true := decide_eq_true c7
              clear c7
              by_cases c8 : (wrap64 (x4_2 + (((rd_T40 x3_1 x7_2).f5).length : Int))) > 4096
              · rw [if_pos c8] at H
                have c8b0 : decide (4096 < (wrap64 (x4_2 + (((rd_T40 x3_1 x7_2).f5).length : Int)))) = true := decide_eq_true c8
                clear c8
                obtain rfl := Option.some.inj H
                obtain ⟨Ao9, co9, eo9⟩ := Kd.N_slice HO_3.out
                subst eo9
                have p290 : 0 ≤ (x7_2 : Int) := of_decide_eq_true (by first | (with_reducible assumption) | assumption)
                have q290 : x7_2 < (x3_1.length : Int) := of_decide_eq_true (by first | (with_reducible assumption) | assumption)
                obtain ⟨ad290, A290_5, c290_5, e290, hx290_0, hx290_1, hx290_2, hx290_3, hx290_4, hx290_5, hl290_5, hi290_5⟩ := at_T40 (Kd.N_reads' HO_3.out).2.2 x7_2 p290 q290
                cases e290
                obtain ⟨ce290, hce290, hMe290, hcc290⟩ := Kd.N_get HO_3.out z40 x7_2 p290 (by first | exact q290 | exact of_decide_eq_true (by first | (with_reducible assumption) | assumption) | (have e_ := (Kd.N_reads' HO_3.out).1; omega))
                obtain ⟨ua290_5, uc290_5, rfl, ul290_5, ge290_5⟩ := k40_openF hMe290
                have hv290_5 := hcc290 5 _ rfl
                rw [add_field _ _ 5 (by omega)] at hv290_5
                replace hv290_5 := Option.some.inj (hv290_5.symm.trans hx290_5)
                injection hv290_5 with hva_ hvn_ hvc_
                rw [hva_] at ge290_5
                rw [hvc_] at ul290_5
                have HL290_5 := Aside0.mk (show Kd.V k40 40 _ w.heap.size _ _ ((rd_T40 x3_1 x7_2).f5) from Kd.V_mk ul290_5 ge290_5)
                clear hva_ hvn_ hvc_ ge290_5 ul290_5
                clear hcc290 hce290
                have HR290_5 := Aside0.mk hi290_5
                have HC290_5 := Aside0.mk hl290_5
                clear hi290_5 hl290_5
                replace p290 := eq_true p290
                replace q290 := eq_true q290
                go_wp2
                go_ret
                exact ⟨by first | rfl | (simp [errW_none, errW_some] <;> rfl) | (simp [*, errW_none, errW_some] <;> rfl), by repeat (first | (with_reducible first | exact HB.out | apply below_alloc | apply pw_below_drewN | apply below_drew1 | refine below_set ?_ GE286.out) | exact HB.out)⟩
              · rw [if_neg c8] at H
                have c8b0 : decide (4096 < (wrap64 (x4_2 + (((rd_T40 x3_1 x7_2).f5).length : Int)))) = false := decide_eq_false c8
                clear c8
                by_cases c10 : x6_2.length + ((rd_T40 x3_1 x7_2).f5).length < 2199023255552
                · rw [if_pos c10] at H
                  have LMc10 := Aside0.mk c10
                  clear c10
                  obtain ⟨y292, hy292⟩ : ∃ y_ : List (S40), y_ = (x6_2 ++ ((rd_T40 x3_1 x7_2).f5)) := ⟨_, rfl⟩
                  replace H : (graftref2_Guard.l1 k2 x3_1 (wrap64 (x4_2 + (((rd_T40 x3_1 x7_2).f5).length : Int))) x5_1 y292 (wrap64 (x7_2 + 1))) = some r := by first | (rw [hy292]; with_reducible exact H) | (have H2_ := (Option.bind_some _ _).symm.trans H; rw [hy292]; with_reducible exact H2_) | (have H2_ := (Option.bind_some _ _).symm.trans H; with_reducible exact H2_) | with_reducible exact H | (rw [hy292]; exact H) | exact H
                  have Ny292 := Aside0.mk hy292
                  clear hy292
                  have H' := Aside0.mk H
                  clear H
                  obtain ⟨Ao11, co11, eo11⟩ := Kd.N_slice HO_3.out
                  subst eo11
                  have p290 : 0 ≤ (x7_2 : Int) := of_decide_eq_true (by first | (with_reducible assumption) | assumption)
                  have q290 : x7_2 < (x3_1.length : Int) := of_decide_eq_true (by first | (with_reducible assumption) | assumption)
                  obtain ⟨ad290, A290_5, c290_5, e290, hx290_0, hx290_1, hx290_2, hx290_3, hx290_4, hx290_5, hl290_5, hi290_5⟩ := at_T40 (Kd.N_reads' HO_3.out).2.2 x7_2 p290 q290
                  cases e290
                  obtain ⟨ce290, hce290, hMe290, hcc290⟩ := Kd.N_get HO_3.out z40 x7_2 p290 (by first | exact q290 | exact of_decide_eq_true (by first | (with_reducible assumption) | assumption) | (have e_ := (Kd.N_reads' HO_3.out).1; omega))
                  obtain ⟨ua290_5, uc290_5, rfl, ul290_5, ge290_5⟩ := k40_openF hMe290
                  have hv290_5 := hcc290 5 _ rfl
                  rw [add_field _ _ 5 (by omega)] at hv290_5
                  replace hv290_5 := Option.some.inj (hv290_5.symm.trans hx290_5)
                  injection hv290_5 with hva_ hvn_ hvc_
                  rw [hva_] at ge290_5
                  rw [hvc_] at ul290_5
                  have HL290_5 := Aside0.mk (show Kd.V k40 40 _ w.heap.size _ _ ((rd_T40 x3_1 x7_2).f5) from Kd.V_mk ul290_5 ge290_5)
                  clear hva_ hvn_ hvc_ ge290_5 ul290_5
                  clear hcc290 hce290
                  have HR290_5 := Aside0.mk hi290_5
                  have HC290_5 := Aside0.mk hl290_5
                  clear hi290_5 hl290_5
                  replace p290 := eq_true p290
                  replace q290 := eq_true q290
                  have p291 : 0 ≤ (x7_2 : Int) := of_decide_eq_true (by first | (with_reducible assumption) | assumption)
                  have q291 : x7_2 < (x3_1.length : Int) := of_decide_eq_true (by first | (with_reducible assumption) | assumption)
                  obtain ⟨ad291, A291_5, c291_5, e291, hx291_0, hx291_1, hx291_2, hx291_3, hx291_4, hx291_5, hl291_5, hi291_5⟩ := at_T40 (Kd.N_reads' HO_3.out).2.2 x7_2 p291 q291
                  obtain rfl : ad290 = ad291 := (by injection e291)
                  obtain ⟨ce291, hce291, hMe291, hcc291⟩ := Kd.N_get HO_3.out z40 x7_2 p291 (by first | exact q291 | exact of_decide_eq_true (by first | (with_reducible assumption) | assumption) | (have e_ := (Kd.N_reads' HO_3.out).1; omega))
                  obtain ⟨ua291_5, uc291_5, rfl, ul291_5, ge291_5⟩ := k40_openF hMe291
                  have hv291_5 := hcc291 5 _ rfl
                  rw [add_field _ _ 5 (by omega)] at hv291_5
                  replace hv291_5 := Option.some.inj (hv291_5.symm.trans hx291_5)
                  injection hv291_5 with hva_ hvn_ hvc_
                  rw [hva_] at ge291_5
                  rw [hvc_] at ul291_5
                  have HL291_5 := Aside0.mk (show Kd.V k40 40 _ w.heap.size _ _ ((rd_T40 x3_1 x7_2).f5) from Kd.V_mk ul291_5 ge291_5)
                  clear hva_ hvn_ hvc_ ge291_5 ul291_5
                  clear hcc291 hce291
                  have HR291_5 := Aside0.mk hi291_5
                  have HC291_5 := Aside0.mk hl291_5
                  clear hi291_5 hl291_5
                  replace p291 := eq_true p291
                  replace q291 := eq_true q291
                  have ea_ := Option.some.inj (hx290_5.symm.trans hx291_5)
                  injection ea_ with ea_ en_ ec_
                  subst ea_
                  subst ec_
                  clear en_
                  go_wp2_with (first | ((with_reducible refine gate_builtin (b := .append) (xs := #[.tmp 26, .tmp 31]) rfl ?_); at_builtin; refine Kd.N_append_rows k40 (w0 := w) w.heap.size rfl (.tmp 26) (.tmp 31) 38 40 (.agg #[(.int .i64 0), (.int .i64 0), (.int .i64 0), (.int .i64 0), (.int .i64 0), (.slice none 0 0)]) 64 rfl Tryz.underlying38 info40 rfl (by decide) (by omega) u6 x6_2 ((rd_T40 x3_1 x7_2).f5) _ _ _ (fun k_ => (P0_5_ k_ ∨ w.heap.size ≤ k_) ∧ some k_ ≠ (.slice (some ad290) x3_1.length co11 : Value).ownBlock ∧ k_ ≠ gb286) (fun k_ => ((fun k_ => (P0_5_ k_ ∨ w.heap.size ≤ k_) ∧ some k_ ≠ (.slice (some ad290) x3_1.length co11 : Value).ownBlock ∧ k_ ≠ gb286)) k_ ∧ some k_ ≠ (u6 : Value).ownBlock) rfl rfl ?aO ?aR (fun _ hk => hk) ?aF ?aB ?aS ?aL ?_; (case aR => exact (by skip; exact Kd.V_F (Kd.V_mono (ok' := (fun k_ => ((fun k_ => (P0_5_ k_ ∨ w.heap.size ≤ k_) ∧ some k_ ≠ (.slice (some ad290) x3_1.length co11 : Value).ownBlock ∧ k_ ≠ gb286)) k_ ∧ some k_ ≠ (u6 : Value).ownBlock)) (HL291_5.out) (fun k_ hk => ⟨⟨hk.1.1, ⟨hk.2, hk.1.2.2⟩⟩, hk.1.2.1⟩)))); (case aB => exact (by repeat (first | (with_reducible first | exact HB.out | apply below_alloc | apply pw_below_drewN | apply below_drew1 | refine below_set ?_ GE286.out) | exact HB.out))); (case aF => exact (fun k_ hk => ⟨(.inr (Nat.le_trans (below_size (by repeat (first | (with_reducible first | exact HB.out | apply below_alloc | apply pw_below_drewN | apply below_drew1 | refine below_set ?_ GE286.out) | exact HB.out))) hk)), Kd.fresh' (Kd.N_lt (by (with_reducible repeat (first | apply Kd.N_alloc | apply Kd.N_drewN | apply Kd.N_drew)); exact HO_3.out)) k_ hk, Kd.freshB (g := gb286) (o := .cells #[.int .i64 a0_0, .int .i64 a0_1, .int .i64 a0_2, .int .i64 a0_3, .int .i64 a0_4, .slice A0_5 l0_5.length c0_5] 40 (0, 0)) (by (with_reducible repeat (first | refine blk_drewN ?_ _ | refine blk_drew ?_ | refine blk_alloc ?_ _)); exact BK286.out) k_ hk⟩)); (case aO => exact (by (with_reducible repeat (first | apply Kd.N_alloc | apply Kd.N_drewN | apply Kd.N_drew)); exact HO_6.out)); (case aS => exact (below_size (by repeat (first | (with_reducible first | exact HB.out | apply below_alloc | apply pw_below_drewN | apply below_drew1 | refine below_set ?_ GE286.out) | exact HB.out)))); (case aL => have := LMc10.out; omega); intro v293 w12 ho hb hg hat; rw [← Ny292.out] at ho; have n0_ := Aside0.mk (Kd.N_afterv (ok := (fun k_ => (P0_5_ k_ ∨ w.heap.size ≤ k_) ∧ k_ ≠ gb286)) (by (with_reducible repeat (first | apply Kd.N_alloc | apply Kd.N_drewN | apply Kd.N_drew)); exact Kd.N_mono HO_3.out (fun _ hk => ⟨⟨hk.1, hk.2.2⟩, hk.2.1⟩)) hg hat); have n1_ := Aside0.mk (Kd.V_afterv (ok := (fun k_ => (P0_5_ k_ ∨ w.heap.size ≤ k_) ∧ some k_ ≠ (.slice (some ad290) x3_1.length co11 : Value).ownBlock ∧ k_ ≠ gb286)) (by (with_reducible repeat (first | apply Kd.V_alloc | apply Kd.V_drewN | apply Kd.V_drew)); exact Kd.V_mono HO_287005.out (fun _ hk => ⟨⟨hk.1, ⟨hk.2.1, hk.2.2.2⟩⟩, hk.2.2.1⟩)) hg hat); have n2_ := Aside0.mk (blk_grown (g := gb286) (o := .cells #[.int .i64 a0_0, .int .i64 a0_1, .int .i64 a0_2, .int .i64 a0_3, .int .i64 a0_4, .slice A0_5 l0_5.length c0_5] 40 (0, 0)) (by (with_reducible repeat (first | refine blk_drewN ?_ _ | refine blk_drew ?_ | refine blk_alloc ?_ _)); exact BK286.out) hg (Kd.N_away HO_6.out (fun _ hk => hk.2.2))); have n3_ := Aside0.mk (Kd.V_afterv (ok := (fun k_ => (P0_5_ k_ ∨ w.heap.size ≤ k_) ∧ some k_ ≠ (.slice (some ad290) x3_1.length co11 : Value).ownBlock ∧ k_ ≠ gb286)) (by (with_reducible repeat (first | apply Kd.V_alloc | apply Kd.V_drewN | apply Kd.V_drew)); exact Kd.V_mono HL290_5.out (fun _ hk => ⟨⟨hk.1.1, ⟨hk.2, hk.1.2.2⟩⟩, hk.1.2.1⟩)) hg hat); have n4_ := Aside0.mk (Kd.V_afterv (ok := (fun k_ => (P0_5_ k_ ∨ w.heap.size ≤ k_) ∧ some k_ ≠ (.slice (some ad290) x3_1.length co11 : Value).ownBlock ∧ k_ ≠ gb286)) (by (with_reducible repeat (first | apply Kd.V_alloc | apply Kd.V_drewN | apply Kd.V_drew)); exact Kd.V_mono HL291_5.out (fun _ hk => ⟨⟨hk.1.1, ⟨hk.2, hk.1.2.2⟩⟩, hk.1.2.1⟩)) hg hat); have n5_ := Aside0.mk (hb); have n6_ := Aside0.mk (ho); clear HO_3; clear HO_287005; clear BK286; clear HL290_5; clear HL291_5; clear HB; clear HO_6; have HO_3 := n0_; have HO_287005 := n1_; have BK286 := n2_; have HL290_5 := n3_; have HL291_5 := n4_; have HB := n5_; have HO294 := n6_; clear n0_ n1_ n2_ n3_ n4_ n5_ n6_; clear ho hb hg hat))
                  go_roundg k2
                  case measure => have := HK1.out; have := HK2.out; omega
                  case rel => exact ⟨(wrap64 (x4_2 + (((rd_T40 x3_1 x7_2).f5).length : Int))), (y292), (wrap64 (x7_2 + 1)), (by first | rfl | (simp; done) | (simp [*]; done)), (by first | rfl | (simp; done) | (simp [*]; done)), H', ⟨by have := HK1.out; have := HK2.out; omega⟩, ⟨by (with_reducible repeat (first | apply Kd.N_alloc | apply Kd.N_drewN | apply Kd.N_drew)); exact Kd.N_mono HO_3.out (fun _ hk => ⟨hk.1.1, ⟨hk.2, hk.1.2⟩⟩)⟩, ⟨by (with_reducible repeat (first | apply Kd.N_alloc | apply Kd.N_drewN | apply Kd.N_drew)); exact HO294.out⟩, ⟨by (with_reducible repeat (first | apply Kd.V_alloc | apply Kd.V_drewN | apply Kd.V_drew)); exact Kd.V_mono HO_287005.out (fun _ hk => ⟨hk.1.1, ⟨hk.1.2.1, ⟨hk.2, hk.1.2.2⟩⟩⟩)⟩, ⟨by (with_reducible repeat (first | refine blk_drewN ?_ _ | refine blk_drew ?_ | refine blk_alloc ?_ _)); exact BK286.out⟩, ⟨by repeat (first | (with_reducible first | exact HB.out | apply below_alloc | apply pw_below_drewN | apply below_drew1 | refine below_set ?_ GE286.out) | exact HB.out)⟩⟩
                · rw [if_neg c10] at H
                  exact absurd H (by simp)
            · rw [if_neg c7] at H
              exact absurd H (by simp)
          · rw [if_neg c6] at H
            have c6b0 : decide (x7_2 < (x3_1.length : Int)) = false := decide_eq_false c6
            clear c6
            by_cases c13 : (x6_2.length : Int) = 0
            · rw [if_pos c13] at H
              have c13b0 : ((x6_2.length : Int) == 0) = true := beq_iff_eq.mpr c13
              have c13b1 : ((x6_2.length : Int) != 0) = false := bne_eq_false_iff_eq.mpr c13
              clear c13
              by_cases c14 : x5_1 > 64
              · rw [if_pos c14] at H
                have c14b0 : decide (64 < x5_1) = true := decide_eq_true c14
                clear c14
                obtain rfl := Option.some.inj H
                obtain ⟨Ao15, co15, eo15⟩ := Kd.N_slice HO_3.out
                subst eo15
                obtain ⟨Ao16, co16, eo16⟩ := Kd.N_slice HO_6.out
                subst eo16
                go_wp2
                go_ret
                exact ⟨by first | rfl | (simp [errW_none, errW_some] <;> rfl) | (simp [*, errW_none, errW_some] <;> rfl), by repeat (first | (with_reducible first | exact HB.out | apply below_alloc | apply pw_below_drewN | apply below_drew1 | refine below_set ?_ GE286.out) | exact HB.out)⟩
              · rw [if_neg c14] at H
                have c14b0 : decide (64 < x5_1) = false := decide_eq_false c14
                clear c14
                obtain rfl := Option.some.inj H
                obtain ⟨Ao17, co17, eo17⟩ := Kd.N_slice HO_3.out
                subst eo17
                obtain ⟨Ao18, co18, eo18⟩ := Kd.N_slice HO_6.out
                subst eo18
                go_wp2
                go_ret
                exact ⟨by first | rfl | (simp [errW_none, errW_some] <;> rfl) | (simp [*, errW_none, errW_some] <;> rfl), by repeat (first | (with_reducible first | exact HB.out | apply below_alloc | apply pw_below_drewN | apply below_drew1 | refine below_set ?_ GE286.out) | exact HB.out)⟩
            · rw [if_neg c13] at H
              have c13b0 : ((x6_2.length : Int) == 0) = false := beq_eq_false_iff_ne.mpr c13
              have c13b1 : ((x6_2.length : Int) != 0) = true := bne_iff_ne.mpr c13
              have c13b2 : ¬ (x6_2 = []) := fun h_ => c13 (by rw [h_]; rfl)
              have H' := Aside0.mk H
              clear H
              obtain ⟨Ao19, co19, eo19⟩ := Kd.N_slice HO_3.out
              subst eo19
              obtain ⟨Ao20, co20, eo20⟩ := Kd.N_slice HO_6.out
              subst eo20
              go_wp2
              go_roundg k2
              case measure => have := HK1.out; have := HK2.out; omega
              case rel => exact ⟨(x6_2), (x4_2), (wrap64 (x5_1 + 1)), (by first | rfl | (simp; done) | (simp [*]; done)), (by first | rfl | (simp; done) | (simp [*]; done)), H', ⟨by have := HK1.out; have := HK2.out; omega⟩, ⟨by (with_reducible repeat (first | apply Kd.N_alloc | apply Kd.N_drewN | apply Kd.N_drew)); exact Kd.N_mono HO_6.out (fun _ hk => ⟨hk.1, hk.2.2⟩)⟩, ⟨by (with_reducible repeat (first | apply Kd.V_alloc | apply Kd.V_drewN | apply Kd.V_drew)); exact Kd.V_mono HO_287005.out (fun _ hk => ⟨hk.1, ⟨hk.2.2.1, hk.2.2.2⟩⟩)⟩, ⟨by (with_reducible repeat (first | refine blk_drewN ?_ _ | refine blk_drew ?_ | refine blk_alloc ?_ _)); exact BK286.out⟩, ⟨by repeat (first | (with_reducible first | exact HB.out | apply below_alloc | apply pw_below_drewN | apply below_drew1 | refine below_set ?_ GE286.out) | exact HB.out)⟩⟩
end Go.Proofs.YtpnkifincadakaaGreatDoor.PPackSpecs
end
