/- Proved: part 23 of the proof of PackReads (Head2, Ps3, Op1, Ld1, Ld2, Hs, Rd1, Rd2, Rd3, Rd4, Rd5, Rd6, Rd7, Rd8, Rd9, Rd11, Rd14, Dc, Re6). Conditions: each theorem states its own. -/
import Derived.ArgAppend
import Derived.Deep.AppendLies
import Derived.Lib.AppendStr
import Derived.Lib.SlBytesConst
import Derived.ChangeArms
import Derived.DataReads
import Derived.SizedLaws
import Derived.Handed
import Derived.LaidLaws
import Derived.Test.YtpnkifincadakaaGreatDoorRows
import Derived.ProofKit
import Derived.Below
import Derived.Carry
import Derived.ChangeMaps5
import Derived.ChangeOld
import Derived.OpenShut
import Derived.SevenTiedAt
import Derived.ShutString
import Derived.Test.YtpnkifincadakaaGreatDoorCards
import Derived.Test.YtpnkifincadakaaGreatDoorTie
import Derived.BigQuiet
import Derived.Deep.QuietTactic
import Derived.Laws.BitsLemmas
import Derived.Deep.RegionWith
import Derived.Test.YtpnkifincadakaaGreatDoorP13
import Derived.Test.YtpnkifincadakaaGreatDoorP14
import Derived.Test.YtpnkifincadakaaGreatDoorP15
import Derived.Test.YtpnkifincadakaaGreatDoorP17
import Derived.Test.YtpnkifincadakaaGreatDoorP22
set_option linter.unusedVariables false
set_option linter.unusedSimpArgs false
section
namespace Go.Am
open Go.Proofs Go.RowKit Go.Pk
theorem h0_next : h0.next = 5 := by kernel_rfl
theorem hget_h0 {b : Nat} {o : AObj} (h : hget h0 b = some o) : b = 0 ∧ o = ofObj (.cells tabV.toArray 263) := by
  have none_step : ∀ (A : Heap) (o : AObj), hget (hpush A none) b = some o → hget A b = some o := fun A o h => by
    rw [hget_push] at h
    by_cases e : b = A.next
    · rw [if_pos e] at h; cases h
    · rw [if_neg e] at h; exact h
  have h1 := none_step _ _ (none_step _ _ (none_step _ _ (none_step _ _ h)))
  rw [hget_push] at h1
  by_cases e : b = (⟨0, .leaf⟩ : Heap).next
  · rw [if_pos e] at h1
    exact ⟨e, (Option.some.inj h1).symm⟩
  · rw [if_neg e] at h1
    exact absurd h1 (by simp [hget, Tr.get_leaf])
def m0 : Mp := fun b => if b < 5 then some (b, 0) else none
theorem ofObj_cells (c : Array Value) (e : TypeId) : ofObj (.cells c e) = .cells c.size (fillT c.toList 0 .leaf) e := rfl
theorem head_hr (w : World) (top : Nat) (h5 : 5 ≤ w.heap.size) (hb : w.heap[0]? = some (.cells tabV.toArray 263 (0, 0))) : HR Tryz.prog 5 w.heap.size w top m0 h0 w := by
  refine ⟨Below.refl _ _, Nat.le_refl _, h5, by rw [h0_next]; exact Nat.le_refl _, fun b a1 a2 => ?_, fun b r d e => ?_, fun b r d hG e => ?_, fun b hb => ?_, fun b o ho => ?_, fun b b' o o' r d d' hG h1 h2 e1 e2 => ?_⟩
  · rw [h0_next] at a1
    simp only [m0, if_neg (show ¬ b < 5 by omega)]
  · simp only [m0] at e
    split at e
    · cases e; omega
    · cases e
  · simp only [m0] at e
    split at e
    · omega
    · cases e
  · simp only [m0, if_pos hb]
  · obtain ⟨rfl, rfl⟩ := hget_h0 ho
    refine ⟨by rw [h0_next]; omega, 0, 0, _, rfl, hb, ?_⟩
    rw [ofObj_cells]
    refine .cells (.inl rfl) (by simp) fun i v hi hv => ?_
    rw [fillT_get] at hv
    rw [if_pos (by simpa using hi)] at hv
    refine ⟨v, by simpa using hv, ?_⟩
    have hm : v ∈ tabV := List.mem_of_getElem? (by simpa using hv)
    unfold tabV at hm
    obtain ⟨n, _, rfl⟩ := List.mem_map.1 hm
    exact .int _ _
  · simp only [m0] at e1
    split at e1
    · omega
    · cases e1
theorem head_calls (w : World) (h5 : 5 ≤ w.heap.size) (hb : w.heap[0]? = some (.cells tabV.toArray 263 (0, 0))) : Calls Tryz.prog 6 #[] w fun e w' => e = .returned (.bool true) ∧ Below w.heap.size w w' := by
  obtain ⟨A, hA⟩ := isTrue_spec headRuns
  obtain ⟨_, hc⟩ := (machineX_ok (base := w.heap.size) (w0 := w) 3000).call A.next 6 #[] h0 _ _ hA
  refine (hc (Nat.le_refl _) m0 #[] w ⟨rfl, fun i v v' h => by simp at h⟩ (head_hr w _ h5 hb)).mono ?_
  intro e w' h
  cases e with
  | returned v =>
    obtain ⟨m', _, hv, hr, _⟩ := h
    cases hv
    exact ⟨rfl, hr.below⟩
  | outgrown => exact h.elim
  | panicked ch => exact h.elim
end Go.Am
end
section
namespace Go.Proofs.YtpnkifincadakaaGreatDoor.Wr
open Go.RowKit Go.Pk Go.Proofs.YtpnkifincadakaaGreatDoorW.PrintWords Go.Proofs.YtpnkifincadakaaGreatDoor.PPackSpecs
open Go.Am (TabVar tabV head_calls)
theorem Ob.toR {w : World} {B : Nat} {v : Value} {bs : List Int} (h : Ob w B v bs) : (Kd.int .u8).R 5 w B (fun _ => True) v bs := by
  refine ⟨fun _ _ => trivial, nums .u8 bs, h, by rw [nums_length]; show _ = _ * 1; omega, fun j x hj => ?_⟩
  obtain ⟨hjl, rfl⟩ := List.getElem?_eq_some_iff.1 hj
  show ((nums .u8 bs).drop (j * 1)).take 1 = [.int .u8 bs[j]]
  rw [Nat.mul_one, List.drop_eq_getElem_cons (by rw [nums_length]; exact hjl)]
  simp [nums]
theorem Ob.C {w : World} {B : Nat} {a : Option Addr} {n c : Nat} {bs : List Int} (h : Ob w B (.slice a n c) bs) : n = bs.length ∧ n ≤ c ∧ (Kd.int .u8).C w a bs.length bs := by
  obtain ⟨A, c', e, hr⟩ := own_reads h
  injection e with e1 e2 e3
  subst e1
  subst e3
  have h' : Ob w B (.slice a bs.length c) bs := by rw [← e2]; exact h
  exact ⟨e2, by rw [e2]; exact (Kd.R_reads' h'.toR).2.1, (Kd.R_reads' h'.toR).2.2⟩
theorem tab_of_block {w : World} (h : w.heap[0]? = some (.cells tabV.toArray 263 (0, 0))) : TabVar w := fun j v hj => by
  have e : Go.Am.tabI = crcTab.map (fun n : Nat => (n : Int)) := by kernel_rfl
  rw [blk_cell h j]
  unfold tabV
  rw [e]
  simp [hj]
end Go.Proofs.YtpnkifincadakaaGreatDoor.Wr
end
section
set_option maxRecDepth 100000
namespace Go.Proofs.YtpnkifincadakaaGreatDoor.Wr
open Go.RowKit Go.Pk Go.Proofs.YtpnkifincadakaaGreatDoorW.PrintWords Go.Proofs.YtpnkifincadakaaGreatDoor.PPackSpecs
open Go.ChangeShapes Go.WideShapes
def Wt {H : Type} (t : TypeId) (d : DataW H) : Prop := ∀ n, n ∈ d.weights Tryz.prog t → n ≤ reachBytes
theorem weightsAll_mem {H : Type} {P : Program} {e : TypeId} : ∀ {l : List (DataW H)} {d : DataW H} {n : Nat}, d ∈ l → n ∈ d.weights P e → n ∈ DataW.weightsAll P e l
  | x :: r, d, n, hd, hn => by
    simp only [DataW.weightsAll, List.mem_append]
    rcases List.mem_cons.1 hd with rfl | hd
    · exact .inl hn
    · exact .inr (weightsAll_mem hd hn)
theorem Wt.slice {H : Type} {t e : TypeId} {elems spare : List (DataW H)} (h : Wt t (.slice elems spare)) (ht : Tryz.prog.underlying t = some (.slice e)) : elems.length * Tryz.prog.bytesOf e ≤ reachBytes ∧ ∀ d, d ∈ elems → Wt e d := by
  refine ⟨?_, fun d hd n hn => h n ?_⟩
  · have := h ((elems.length + spare.length) * Tryz.prog.bytesOf e) (by simp [DataW.weights, ht])
    exact Nat.le_trans (Nat.mul_le_mul_right _ (Nat.le_add_right _ _)) this
  · simp only [DataW.weights, ht]
    exact List.mem_cons_of_mem _ (List.mem_append.2 (.inl (weightsAll_mem hd hn)))
section
variable {H : Type} {enc : TypeId × Value → H} {W : World} {sp : Nat → Bool} {held : Bool}
end
end Go.Proofs.YtpnkifincadakaaGreatDoor.Wr
end
section
set_option maxRecDepth 100000
namespace Go.Proofs.YtpnkifincadakaaGreatDoor.Wr
open Go.RowKit Go.Pk Go.ChangeShapes Go.WideShapes
open Go.Am (tabV tabI)
abbrev laid4 : List (String × DataW Unit) := [("math/bits.deBruijn32tab", Rows.laid_math_bits_deBruijn32tab), ("math/bits.deBruijn64tab", Rows.laid_math_bits_deBruijn64tab), ("internal/strconv.uint64pow10", Rows.laid_internal_strconv_uint64pow10), ("graft/pack.table", Rows.laid_graft_pack_table)]
theorem globTab : Tryz.prog.globalNamed "graft/pack.table" = some 0 := by kernel_rfl
theorem globTabType : (Tryz.prog.globals[0]?).map (·.type) = some 263 := by kernel_rfl
theorem globCount : Tryz.prog.globals.size = 5 := by kernel_rfl
theorem cells129 : Tryz.prog.cellsOf 129 = 1 := by kernel_rfl
theorem cells263 : Tryz.prog.cellsOf 263 = 16 := by kernel_rfl
theorem under129 : Tryz.prog.underlying 129 = some (.int .u32) := by kernel_rfl
theorem laidTab : (Rows.laid_graft_pack_table : DataW Unit) = .agg (tabI.map fun n => .lit (.int .u32 n)) := by kernel_rfl
theorem row0 : ((((begin Tryz.prog (fun _ _ => 0) default).world.heap[0]?).bind Obj.row?).map (·.2)) = some 263 := by kernel_rfl
theorem row4 : ((((begin Tryz.prog (fun _ _ => 0) default).world.heap[4]?).bind Obj.row?).isSome) = true := by kernel_rfl
theorem tab_cells {W : World} {fuel : Nat} {cs : Array Value} {p : List MemPlace} (hd : DataW.trod (fun _ => ()) Tryz.prog W 0 (fun _ => true) false fuel 263 cs.toList = some (Rows.laid_graft_pack_table, p)) : cs = tabV.toArray := by
  obtain ⟨l⟩ := cs
  cases fuel with
  | zero => simp [DataW.trod] at hd
  | succ n =>
    rw [laidTab] at hd
    unfold DataW.trod at hd
    rw [Tryz.underlying263] at hd
    dsimp only at hd
    split at hd
    · rename_i hl
      rw [cells263] at hl
      obtain ⟨xs, hx, hxe⟩ := Option.map_eq_some_iff.1 hd
      have hxl := mapM_some_length hx
      rw [List.length_range] at hxl
      injection hxe with hx1 _
      injection hx1 with hx1
      have key : l = tabV := by
        apply List.ext_getElem?
        intro i
        by_cases hi : i < 16
        · have hg := mapM_some_get hx i i (by simp [hi])
          rw [cells129, Nat.mul_one, List.getElem?_eq_getElem (by omega), List.drop_eq_getElem_cons (by omega)] at hg
          obtain ⟨v, q, e, _⟩ := DataW.trod_int under129 hg
          injection (show [l[i]] = [Value.int .u32 v] from q) with q
          have h2 : (xs.map (·.1))[i]? = (tabI.map fun n => DataW.lit (H := Unit) (.int .u32 n))[i]? := by rw [hx1]
          rw [List.getElem?_map, List.getElem?_map, List.getElem?_eq_getElem (by omega), e] at h2
          have hti : i < tabI.length := by show i < 16; exact hi
          rw [List.getElem?_eq_getElem hti] at h2
          simp at h2
          unfold tabV
          rw [List.getElem?_map, List.getElem?_eq_getElem hti, List.getElem?_eq_getElem (by omega), q, h2]
          rfl
        · rw [List.getElem?_eq_none (by omega), List.getElem?_eq_none (by show 16 ≤ i; omega)]
      rw [key]
    · cases hd
theorem tab_laid {W : World} (h : laidMet Tryz.prog laid4 W) (hs : W.ShapedOpen Tryz.prog) : W.heap[0]? = some (.cells tabV.toArray 263 (0, 0)) ∧ 5 ≤ W.heap.size := by
  obtain ⟨z, hz, h0⟩ := Option.map_eq_some_iff.1 row0
  obtain ⟨zero, t⟩ := z
  dsimp only at h0
  subst h0
  obtain ⟨cs, hcs, _, _⟩ := hs.1 0 zero _ (by rw [globCount]; omega) hz
  obtain ⟨z4, hz4⟩ := Option.isSome_iff_exists.1 row4
  obtain ⟨cs4, hcs4, _, _⟩ := hs.1 4 z4.1 z4.2 (by rw [globCount]; omega) hz4
  refine ⟨?_, by have := (Array.getElem?_eq_some_iff.1 hcs4).1; omega⟩
  obtain ⟨ps, ⟨_, _, _, _, _, _, _, _, _, _, ⟨_, _, _, _, _, _, _, _, _, _, ⟨_, _, _, _, _, _, _, _, _, _, ⟨g, t, cs', fuel, p, q, hg, ht, hvar, hd, _, _⟩, _⟩, _⟩, _⟩, _⟩ := h
  obtain rfl := Option.some.inj (globTab.symm.trans hg)
  obtain rfl := Option.some.inj (globTabType.symm.trans ht)
  have e := tab_cells hd
  subst e
  rw [hcs]
  have hv : W.var? Tryz.prog "graft/pack.table" = some cs := by
    unfold World.var?
    rw [globTab]
    simp only [Option.bind_some, hcs]
  rw [hv] at hvar
  injection hvar with hvar
  rw [hvar]
end Go.Proofs.YtpnkifincadakaaGreatDoor.Wr
end
section
set_option maxRecDepth 100000
namespace Go.Proofs.YtpnkifincadakaaGreatDoor.Wr
open Go.RowKit Go.Pk Go.ChangeShapes Go.WideShapes
open Go.Am (tabV tabI)
def litCells : DataW Unit → Array Value
  | .agg l => (l.map fun d => match d with
    | .lit (.int k n) => Value.int k n
    | _ => .int .u8 0).toArray
  | _ => #[]
def layOne (g : Nat) (d : DataW Unit) (h : Array Obj) : Array Obj := h.modify g fun o => match o with
  | .cells _ t frozen => .cells (litCells d) t frozen
  | o => o
noncomputable def laidWorld (os : Os) : World :=
  { World.holding Tryz.prog os ⟨#[], #[], []⟩ with heap := layOne 0 Rows.laid_graft_pack_table (layOne 2 Rows.laid_internal_strconv_uint64pow10 (layOne 3 Rows.laid_math_bits_deBruijn32tab (layOne 4 Rows.laid_math_bits_deBruijn64tab (World.holding Tryz.prog os ⟨#[], #[], []⟩).heap))) }
noncomputable def tOf (g : Nat) : TypeId := ((Tryz.prog.globals[g]?).map (·.type)).getD 0
theorem laidRow0 (os : Os) (args : Array Value) : ((laidWorld os).forCall (fun _ _ => 0) ⟨#[], args, []⟩).memory.heap[0]? = some (.cells (litCells Rows.laid_graft_pack_table) (tOf 0) (0, 0)) := by kernel_rfl
theorem laidRow2 (os : Os) (args : Array Value) : ((laidWorld os).forCall (fun _ _ => 0) ⟨#[], args, []⟩).memory.heap[2]? = some (.cells (litCells Rows.laid_internal_strconv_uint64pow10) (tOf 2) (0, 0)) := by kernel_rfl
theorem laidRow3 (os : Os) (args : Array Value) : ((laidWorld os).forCall (fun _ _ => 0) ⟨#[], args, []⟩).memory.heap[3]? = some (.cells (litCells Rows.laid_math_bits_deBruijn32tab) (tOf 3) (0, 0)) := by kernel_rfl
theorem laidRow4 (os : Os) (args : Array Value) : ((laidWorld os).forCall (fun _ _ => 0) ⟨#[], args, []⟩).memory.heap[4]? = some (.cells (litCells Rows.laid_math_bits_deBruijn64tab) (tOf 4) (0, 0)) := by kernel_rfl
def allInts (cs : Array Value) : Bool := cs.toList.all fun v => match v with
  | .int _ _ => true
  | _ => false
theorem noIface {cs : Array Value} (h : allInts cs = true) {j : Nat} {t : TypeId} {v : Value} (hj : cs[j]? = some (.iface t v)) : False := by
  have hm : Value.iface t v ∈ cs.toList := by
    rw [← Array.getElem?_toList] at hj
    exact List.mem_of_getElem? hj
  have := List.all_eq_true.1 h _ hm
  simp at this
theorem mem_row {b off g n : Nat} (h : MemPlace.cell b off ∈ MemPlace.row ⟨g, 0, none⟩ n) : b = g := by
  unfold MemPlace.row at h
  obtain ⟨i, _, e⟩ := List.mem_map.1 h
  injection e with e _
  exact e.symm
theorem row_ok {W : World} {g : Nat} {cs : Array Value} {t : TypeId} (h : W.heap[g]? = some (.cells cs t (0, 0))) (hi : allInts cs = true) (off : Nat) : (∃ c t, W.heap[g]? = some (.cells c t (0, 0))) ∧ ∀ u v, W.cell? ⟨g, off, none⟩ = some (.iface u v) → Value.okWide Tryz.prog W .any 0 u v :=
  ⟨⟨_, _, h⟩, fun u v hc => by
    have : W.cell? ⟨g, off, none⟩ = cs[off]? := by simp [World.cell?, h]
    rw [this] at hc
    exact (noIface hi hc).elim⟩
theorem laidWorld_met (os : Os) (args : Array Value) : laidMet Tryz.prog laid4 ((laidWorld os).forCall (fun _ _ => 0) ⟨#[], args, []⟩).memory :=
  ⟨_, ⟨3, tOf 3, litCells Rows.laid_math_bits_deBruijn32tab, 8, [], _, by kernel_rfl, by kernel_rfl, by kernel_rfl, by kernel_rfl,
    ⟨4, tOf 4, litCells Rows.laid_math_bits_deBruijn64tab, 8, [], _, by kernel_rfl, by kernel_rfl, by kernel_rfl, by kernel_rfl,
      ⟨2, tOf 2, litCells Rows.laid_internal_strconv_uint64pow10, 8, [], _, by kernel_rfl, by kernel_rfl, by kernel_rfl, by kernel_rfl,
        ⟨0, tOf 0, litCells Rows.laid_graft_pack_table, 8, [], [], by kernel_rfl, by kernel_rfl, by kernel_rfl, by kernel_rfl, rfl, rfl⟩, rfl⟩, rfl⟩, rfl⟩, of_decide_eq_true (by kernel_rfl), fun b off h => by
    simp only [List.append_nil, List.mem_append] at h
    rcases h with h | h | h | h
    · obtain rfl := mem_row h
      exact row_ok (laidRow3 os args) (by kernel_rfl) off
    · obtain rfl := mem_row h
      exact row_ok (laidRow4 os args) (by kernel_rfl) off
    · obtain rfl := mem_row h
      exact row_ok (laidRow2 os args) (by kernel_rfl) off
    · obtain rfl := mem_row h
      exact row_ok (laidRow0 os args) (by kernel_rfl) off⟩
end Go.Proofs.YtpnkifincadakaaGreatDoor.Wr
end
section
namespace Go.Proofs.YtpnkifincadakaaGreatDoor.Wr
open Go.ChangeShapes Go.WideShapes Go.ChangeAt Go.RowKit
open Go.Pk Go.Proofs.YtpnkifincadakaaGreatDoorW.PrintWords Go.Proofs.YtpnkifincadakaaGreatDoor.PPackSpecs
theorem own : ownKnob Tryz.prog.godebug = none := by kernel_rfl
theorem laidOut : laidOutB Tryz.prog = true := by kernel_rfl
theorem handed_shaped {H : Type} {enc : TypeId × Value → H} {C : Checked} {os : Os} {f : FuncId} {fn : Func} {s : ChangeSpec} {conds : List PathCond} {apart fresh handsOn again : Bool} {X : World → Array Value → Prop}
    (hX : ∀ (w w' : World) (args : Array Value), w.heap = w'.heap → X w args → X w' args)
    (own : ownKnob C.prog.godebug = none) (started : os.Started) (noInit : C.prog.inits.idxOf? f = none) (hfn : C.prog.funcs[f]? = some fn)
    (witness : ∃ (w : World) (tape : Tape) (i : Input), w.os = os ∧ (w.forCall tape i).Shaped C.prog ∧ i.vars = [] ∧ Input.okWide C.prog (w.forCall tape i) .any w.heap.size f i ∧
      ((s.pre enc C.prog fn conds apart (w.forCall tape i).memory i.args ∧ X (w.forCall tape i).memory i.args) ∧ sizedMet enc C.prog fn (OpenSpec.ofChange s) apart (w.forCall tape i).memory i.args) ∧ ({} : Assume).holds C.prog (lone (Frame.enter C.prog f i.args .normal) [] (w.forCall tape i)))
    (contract : ∀ (W : World) (base : Nat) (args : Array Value) (ds gs : List (DataW H)) (before : List MemPlace),
      (∀ (j : Nat) t v, fn.params[j]? = some t → args[j]? = some v → Value.okWide C.prog W .any base t v) →
      DataW.Whole enc C.prog fn.params.toList s.vars apart W args.toList ds gs before →
      (DataW.weightsEach C.prog (fn.params.toList ++ s.plain.varTypes C.prog) (ds ++ gs)).all (· ≤ reachBytes) = true → X W args → W.ShapedOpen C.prog →
      Calls C.prog f args W fun e W' => ∃ v, e = .returned v ∧ s.post enc C.prog fn apart fresh handsOn again W args v W') :
    ReturnsInHanded {} C os f .any (fun w args => (s.pre enc C.prog fn conds apart w args ∧ X w args) ∧ sizedMet enc C.prog fn (OpenSpec.ofChange s) apart w args) (s.post enc C.prog fn apart fresh handsOn again) := by
  refine returnsInHanded_of_calls own started noInit witness ?_
  intro w tape i _ hshape _ hok hpre _
  obtain ⟨_, _, _, fn', hfn', _, _, _, _, hval⟩ := hok
  have e : fn' = fn := Option.some.inj (hfn'.symm.trans hfn)
  subst e
  obtain ⟨⟨⟨ds, gs, before, hw, hc⟩, hx⟩, hz⟩ := hpre
  have hw' := DataW.Whole.of_heap (w' := w.forCall tape i) (by rfl) hw
  refine (contract (w.forCall tape i) w.heap.size i.args ds gs before hval hw' (hz.weights hw) (hX _ _ _ (by rfl) hx) hshape).mono fun e W' ⟨v, he, hp⟩ => ?_
  subst he
  exact ChangeSpec.post_blind hp
end Go.Proofs.YtpnkifincadakaaGreatDoor.Wr
end
section
namespace Go.Proofs.YtpnkifincadakaaGreatDoor.Wr
open Go.RowKit Go.Pk Go.Proofs.YtpnkifincadakaaGreatDoorW.PrintWords Go.Proofs.YtpnkifincadakaaGreatDoor.PPackSpecs
structure Mv (g : Nat) (w w' : World) : Prop where
  keep : ∀ k, k < w.heap.size → k ≠ g → w'.heap[k]? = w.heap[k]?
  size : w.heap.size ≤ w'.heap.size
  below : Below g w w'
theorem Mv.refl (g : Nat) (w : World) : Mv g w w := ⟨fun _ _ _ => rfl, Nat.le_refl _, Below.refl _ _⟩
theorem Mv.trans {g : Nat} {a b c : World} (h : Mv g a b) (k : Mv g b c) : Mv g a c := ⟨fun i hi hne => (k.keep i (Nat.lt_of_lt_of_le hi h.size) hne).trans (h.keep i hi hne), Nat.le_trans h.size k.size, h.below.trans k.below⟩
theorem Mv.of_below {g : Nat} {w w' : World} (h : Below w.heap.size w w') (hg : g ≤ w.heap.size) : Mv g w w' := ⟨fun k hk _ => h.block k hk, h.size, h.mono hg⟩
structure RS (g q cb : Nat) (bs : List Int) (at_ rules names : Nat) (w : World) : Prop where
  box : w.heap[g]? = some (.cells #[.slice (some ⟨q, 0, none⟩) bs.length cb, .int .i64 at_, .int .i64 rules, .int .i64 names] 90 (0, 0))
  row : ∃ cells, w.heap[q]? = some (.cells cells 5 (0, 0)) ∧ ∀ (i : Nat) (b : Int), bs[i]? = some b → cells[i]? = some (.int .u8 b)
  cap : bs.length ≤ cb ∧ cb ≤ 9223372036854775807
  pos : at_ ≤ bs.length
  byt : ∀ b, b ∈ bs → 0 ≤ b ∧ b < 256
theorem RS.ne {g q cb : Nat} {bs : List Int} {a r n : Nat} {w : World} (h : RS g q cb bs a r n w) : q ≠ g := fun e => by
  obtain ⟨cells, hc, _⟩ := h.row
  rw [e, h.box] at hc
  injection hc with hc
  injection hc with _ hc
  exact absurd hc (by decide)
theorem RS.glt {g q cb : Nat} {bs : List Int} {a r n : Nat} {w : World} (h : RS g q cb bs a r n w) : g < w.heap.size := blk_lt h.box
theorem RS.qlt {g q cb : Nat} {bs : List Int} {a r n : Nat} {w : World} (h : RS g q cb bs a r n w) : q < w.heap.size := by obtain ⟨_, hc, _⟩ := h.row; exact blk_lt hc
theorem RS.byte {g q cb : Nat} {bs : List Int} {a r n : Nat} {w : World} (h : RS g q cb bs a r n w) (i : Nat) (hi : i < bs.length) : w.cell? ⟨q, i, none⟩ = some (.int .u8 bs[i]) := by
  obtain ⟨cells, hc, hr⟩ := h.row
  exact (blk_cell hc i).trans (hr i _ (List.getElem?_eq_getElem hi))
theorem RS.below {g q cb : Nat} {bs : List Int} {a r n : Nat} {w w' : World} (h : RS g q cb bs a r n w) (k : Below w.heap.size w w') : RS g q cb bs a r n w' := by
  obtain ⟨cells, hc, hr⟩ := h.row
  exact ⟨(k.block _ h.glt).trans h.box, ⟨cells, (k.block _ (blk_lt hc)).trans hc, hr⟩, h.cap, h.pos, h.byt⟩
theorem RS.set {g q cb : Nat} {bs : List Int} {a r n : Nat} {w : World} (h : RS g q cb bs a r n w) (j : Nat) (v : Value) (a' r' n' : Nat) (ha : a' ≤ bs.length)
    (e : (#[.slice (some ⟨q, 0, none⟩) bs.length cb, .int .i64 a, .int .i64 r, .int .i64 n] : Array Value).setIfInBounds j v = #[.slice (some ⟨q, 0, none⟩) bs.length cb, .int .i64 a', .int .i64 r', .int .i64 n']) :
    RS g q cb bs a' r' n' (w.setCell ⟨g, j, none⟩ v) ∧ Mv g w (w.setCell ⟨g, j, none⟩ v) := by
  obtain ⟨cells, hc, hr⟩ := h.row
  have hne := h.ne
  refine ⟨⟨?_, ⟨cells, ?_, hr⟩, h.cap, ha, h.byt⟩, ⟨fun k hk hkg => ?_, ?_, ?_⟩⟩
  · rw [blk_set h.box j v, e]
  · rw [Below.heap_setCell _ _ _ _ (by simpa using hne)]; exact hc
  · rw [Below.heap_setCell _ _ _ _ (by simpa using hkg)]
  · simp
  · exact (Below.refl g w).setCell (p := ⟨g, j, none⟩) (Nat.le_refl _) v
set_option maxHeartbeats 8000000 in
set_option maxRecDepth 100000 in
theorem take149 (g q cb : Nat) (bs : List Int) (a r n m : Nat) (w : World) (h : RS g q cb bs a r n w) (hm : a + m ≤ bs.length) (ha : a < bs.length) :
    Calls Tryz.prog 149 #[.pointer (some ⟨g, 0, none⟩), .int .i64 m] w fun e w' => e = .returned (.slice (some ⟨q, a, none⟩) m (cb - a)) ∧ RS g q cb bs (a + m) r n w' ∧ Mv g w w' := by
  have hl := h.cap.1
  have hc := h.cap.2
  have H := Aside0.mk h
  have c0 : w.cell? ⟨g, 0, none⟩ = some (.slice (some ⟨q, 0, none⟩) bs.length cb) := (blk_cell h.box 0).trans rfl
  have c1 : w.cell? ⟨g, 1, none⟩ = some (.int .i64 a) := (blk_cell h.box 1).trans rfl
  have f1 : w.frozen? ⟨g, 1, none⟩ = false := blk_frozen h.box 1
  clear h
  have hca : ¬ cb = a := by omega
  have hb : decide ((bs.length : Int) - (a : Int) < (m : Int)) = false := decide_eq_false (by omega)
  go_enter Tryz.func149, Tryz.ntmps149
  go_wp2_with fail
  go_quiet (fail)
  obtain ⟨nq0, rfl⟩ : ∃ k, k = nq := ⟨_, rfl⟩
  go_wp2_with fail
  go_quiet (fail)
  obtain ⟨nq1, rfl⟩ : ∃ k, k = nq := ⟨_, rfl⟩
  go_wp2
  go_ret
  have h1 := H.out.below (pw_below_drewN (Below.refl _ w) nq0)
  obtain ⟨h2, h3⟩ := h1.set 1 (.int .i64 (a + m)) (a + m) r n hm rfl
  have h4 := h2.below (pw_below_drewN (Below.refl _ _) nq1)
  exact ⟨(show Ending.returned (.slice (some ⟨q, a, none⟩) (a + m - a) (cb - a)) = _ by rw [Nat.add_sub_cancel_left]), h4, ((Mv.of_below (pw_below_drewN (Below.refl _ w) nq0) (Nat.le_of_lt H.out.glt)).trans h3).trans (Mv.of_below (pw_below_drewN (Below.refl _ _) nq1) (Nat.le_of_lt h2.glt))⟩
end Go.Proofs.YtpnkifincadakaaGreatDoor.Wr
end
section
namespace Go.Proofs.YtpnkifincadakaaGreatDoor.Wr
open Go.RowKit Go.Pk Go.Proofs.YtpnkifincadakaaGreatDoorW.PrintWords Go.Proofs.YtpnkifincadakaaGreatDoor.PPackSpecs
def leN : List Int → Int | [] => 0 | b :: r => b + 256 * leN r
theorem or_low (i : Nat) (y x : Int) (hy0 : 0 ≤ y) (hy : y < 2 ^ i) (hi : i ≤ 63) (hx0 : 0 ≤ x) (hx : x % 2 ^ i = 0) (hx1 : x < 2 ^ 63) : bits .or .i64 y x = y + x := by
  have hc : bits .or .i64 y x = bits .or .i64 x y := by simp only [bits, BitVec.or_comm]
  have hp : (2 : Int) ^ i ≤ 2 ^ 63 := by
    have := Nat.pow_le_pow_right (n := 2) (by decide) hi
    exact_mod_cast this
  rw [hc, bits_join .i64 63 (by decide) (fun n h0 h1 => by rw [IntKind.wrap_i64]; omega) i x y hx0 hx hx1 hy0 hy (by omega)]
  omega
theorem leN_snoc : ∀ (l : List Int) (b : Int), leN (l ++ [b]) = leN l + b * 256 ^ l.length
  | [], b => by simp [leN]
  | a :: l, b => by
    simp only [List.cons_append, leN, leN_snoc l b, List.length_cons]
    rw [Int.pow_succ, Int.mul_add, Int.mul_left_comm 256 b, Int.mul_comm 256 (256 ^ l.length), Int.add_assoc]
theorem leN_bound : ∀ (l : List Int), (∀ b, b ∈ l → 0 ≤ b ∧ b < 256) → 0 ≤ leN l ∧ leN l < 256 ^ l.length
  | [], _ => by simp [leN]
  | a :: l, h => by
    have h1 := h a (by simp)
    have h2 := leN_bound l fun b hb => h b (by simp [hb])
    simp only [leN, List.length_cons, Int.pow_succ]
    omega
set_option maxHeartbeats 16000000 in
set_option maxRecDepth 100000 in
theorem number151 (g q cb : Nat) (bs : List Int) (a r n m : Nat) (w : World) (h : RS g q cb bs a r n w) (hm : m ≤ 4) (ham : a + m ≤ bs.length) (ha : a < bs.length) :
    Calls Tryz.prog 151 #[.pointer (some ⟨g, 0, none⟩), .int .i64 m] w fun e w' => e = .returned (.tuple #[.int .i64 (leN ((bs.drop a).take m)), .int .i64 a]) ∧ RS g q cb bs (a + m) r n w' ∧ Mv g w w' := by
  have c1 : w.cell? ⟨g, 1, none⟩ = some (.int .i64 a) := (blk_cell h.box 1).trans rfl
  have hl := h.cap.1
  have hc := h.cap.2
  have HT := Aside0.mk (take149 g q cb bs a r n m w h ham ha)
  have hlen : ((bs.drop a).take m).length = m := by rw [List.length_take, List.length_drop]; omega
  have HLEN := Aside0.mk hlen
  have HBY := Aside0.mk h.byt
  have HEL : Aside0 (∀ k, k < m → ((bs.drop a).take m)[k]? = bs[a + k]?) := ⟨fun k hk => by rw [List.getElem?_take_of_lt hk, List.getElem?_drop]⟩
  clear h hlen
  obtain ⟨L, hL⟩ : ∃ L, L = (bs.drop a).take m := ⟨_, rfl⟩
  rw [← hL] at HLEN HEL ⊢
  have HIN : Aside0 (∀ b, b ∈ L → 0 ≤ b ∧ b < 256) := ⟨fun b hb => HBY.out b (List.mem_of_mem_drop (List.mem_of_mem_take (hL ▸ hb)))⟩
  clear hL
  go_enter Tryz.func151, Tryz.ntmps151
  go_wp2_with (go_at_call 149; refine HT.out.mono ?_)
  rintro e w1 ⟨rfl, h1, h2⟩
  have HR := Aside0.mk h1
  have HM := Aside0.mk h2
  clear h1 h2
  go_wp2
  go_loopw [4, 16] (fun v i wr => ∃ k : Nat, k ≤ m ∧ v = .int .i64 (leN (L.take k)) ∧ i = .int .i64 k ∧ wr = w1) (fun _ i _ => m - (intOf i).toNat)
  case atStart => exact ⟨0, Nat.zero_le _, rfl, rfl, rfl⟩
  case round =>
    obtain ⟨k, hk, rfl, rfl, rfl⟩ := hrel
    by_cases hlt : k < m
    · have hkl : k < L.length := by rw [HLEN.out]; exact hlt
      have hb := HIN.out _ (List.getElem_mem hkl)
      have hcell : wr.cell? ⟨q, a + k, none⟩ = some (.int .u8 L[k]) := by
        have hh := HEL.out k hlt
        rw [List.getElem?_eq_getElem hkl, List.getElem?_eq_getElem (by omega)] at hh
        injection hh with hh
        rw [hh]
        exact HR.out.byte (a + k) (by omega)
      have hsn : leN (L.take (k + 1)) = leN (L.take k) + L[k] * 256 ^ k := by
        rw [List.take_succ_eq_append_getElem hkl, leN_snoc, List.length_take, Nat.min_eq_left (by omega)]
      have hbd := leN_bound (L.take k) fun b hb => HIN.out b (List.mem_of_mem_take hb)
      rw [List.length_take, Nat.min_eq_left (by omega)] at hbd
      obtain ⟨hv0, hv1⟩ := hbd
      have HSN := Aside0.mk hsn
      clear hsn
      generalize L[k] = b at *
      generalize hv : leN (L.take k) = v at *
      have HV := Aside0.mk hv
      clear hv
      obtain ⟨hb0, hb1⟩ := hb
      have hk4 : k = 0 ∨ k = 1 ∨ k = 2 ∨ k = 3 := by omega
      rcases hk4 with rfl | rfl | rfl | rfl
      · have o := or_low 0 v b hv0 (by simpa using hv1) (by omega) hb0 (by omega) (by omega)
        rw [Nat.add_zero] at hcell
        go_wp2
        go_roundw
        case rel => exact ⟨1, by omega, congrArg (Value.int .i64) (show v + b = _ by rw [HSN.out]; simp), by go_num, trivial⟩
        case measure => simp [intOf]; omega
      · have o := or_low 8 v (b * 256) hv0 (by simpa using hv1) (by omega) (by omega) (by omega) (by omega)
        go_wp2
        go_roundw
        case rel => exact ⟨2, by omega, congrArg (Value.int .i64) (show v + b * 256 = _ by rw [HSN.out]; simp), by go_num, trivial⟩
        case measure => simp [intOf]; omega
      · have o := or_low 16 v (b * 65536) hv0 (by simpa using hv1) (by omega) (by omega) (by omega) (by omega)
        go_wp2
        go_roundw
        case rel => exact ⟨3, by omega, congrArg (Value.int .i64) (show v + b * 65536 = _ by rw [HSN.out]; simp), by go_num, trivial⟩
        case measure => simp [intOf]; omega
      · have o := or_low 24 v (b * 16777216) hv0 (by simpa using hv1) (by omega) (by omega) (by omega) (by omega)
        go_wp2
        go_roundw
        case rel => exact ⟨4, by omega, congrArg (Value.int .i64) (show v + b * 16777216 = _ by rw [HSN.out]; simp), by go_num, trivial⟩
        case measure => simp [intOf]; omega
    · obtain rfl : k = m := by omega
      have hT : L.take k = L := List.take_of_length_le (by rw [HLEN.out]; exact Nat.le_refl _)
      rw [hT]
      clear hT
      go_wp2
      go_ret2
      exact ⟨rfl, HR.out, HM.out⟩
end Go.Proofs.YtpnkifincadakaaGreatDoor.Wr
end
section
namespace Go.Proofs.YtpnkifincadakaaGreatDoor.Wr
open Go.RowKit Go.Pk Go.Proofs.YtpnkifincadakaaGreatDoorW.PrintWords Go.Proofs.YtpnkifincadakaaGreatDoor.PPackSpecs
set_option maxHeartbeats 8000000 in
set_option maxRecDepth 100000 in
theorem upto85 (g q cb : Nat) (bs : List Int) (a r n m : Nat) (mo v : Int) (w : World) (h : RS g q cb bs a r n w) (hm : m ≤ 4) (ham : a + m ≤ bs.length) (ha : a < bs.length) (hv : leN ((bs.drop a).take m) = v) (hle : v ≤ mo) :
    Calls Tryz.prog 85 #[.pointer (some ⟨g, 0, none⟩), .int .i64 m, .int .i64 mo] w fun e w' => e = .returned (.int .i64 v) ∧ RS g q cb bs (a + m) r n w' ∧ Mv g w w' := by
  have HN := Aside0.mk (number151 g q cb bs a r n m w h hm ham ha)
  rw [hv] at HN
  clear h hv
  have hle' : decide (mo < v) = false := decide_eq_false (by omega)
  go_enter Tryz.func85, Tryz.ntmps85
  go_wp2_with (go_at_call 151; refine HN.out.mono ?_)
  first | rintro e w1 rfl h1 h2 | rintro e w1 ⟨rfl, h1, h2⟩
  have HR := Aside0.mk h1
  have HM := Aside0.mk h2
  clear h1 h2
  go_wp2
  go_ret
  exact ⟨rfl, HR.out, HM.out⟩
end Go.Proofs.YtpnkifincadakaaGreatDoor.Wr
end
section
namespace Go.Proofs.YtpnkifincadakaaGreatDoor.Wr
open Go.RowKit Go.Pk Go.Proofs.YtpnkifincadakaaGreatDoorW.PrintWords Go.Proofs.YtpnkifincadakaaGreatDoor.PPackSpecs
theorem add_plain' (g o j : Nat) : (⟨g, o, none⟩ : Addr).add j = ⟨g, o + j, none⟩ := by unfold Addr.add; split <;> simp_all
end Go.Proofs.YtpnkifincadakaaGreatDoor.Wr
end
section
namespace Go.Proofs.YtpnkifincadakaaGreatDoor.Wr
open Go.RowKit Go.Pk Go.Proofs.YtpnkifincadakaaGreatDoorW.PrintWords Go.Proofs.YtpnkifincadakaaGreatDoor.PPackSpecs
theorem RS.alloc {g q cb : Nat} {bs : List Int} {a r n : Nat} {w : World} (h : RS g q cb bs a r n w) (o : Obj) : RS g q cb bs a r n (w.alloc o) := h.below (below_alloc (Below.refl _ _) o)
theorem Mv.blk {g k : Nat} {w w' : World} {o : Obj} (h : Mv g w w') (hb : w.heap[k]? = some o) (hne : k ≠ g) : w'.heap[k]? = some o := (h.keep k (blk_lt hb) hne).trans hb
theorem Mv.alloc {g : Nat} {w w' : World} (h : Mv g w w') (hg : g ≤ w.heap.size) (o : Obj) : Mv g w (w'.alloc o) := h.trans (Mv.of_below (below_alloc (Below.refl _ _) o) (Nat.le_trans hg h.size))
theorem RS.far {g q cb : Nat} {bs : List Int} {a r n a' r' n' : Nat} {w w0 : World} (h : RS g q cb bs a r n w) (h0 : RS g q cb bs a' r' n' w0) {p : Addr} (hp : w0.heap.size ≤ p.block) (u : Value) : RS g q cb bs a r n (w.setCell p u) := by
  obtain ⟨cells, hc, hr⟩ := h.row
  have hg := h0.glt
  have hq := h0.qlt
  refine ⟨?_, ⟨cells, ?_, hr⟩, h.cap, h.pos, h.byt⟩
  · rw [Below.heap_setCell _ _ _ _ (by omega)]; exact h.box
  · rw [Below.heap_setCell _ _ _ _ (by omega)]; exact hc
theorem Mv.far {g : Nat} {w w' : World} (h : Mv g w w') (hg : g < w.heap.size) {p : Addr} (hp : w.heap.size ≤ p.block) (u : Value) : Mv g w (w'.setCell p u) :=
  ⟨fun k hk hne => by rw [Below.heap_setCell _ _ _ _ (by omega)]; exact h.keep k hk hne, by simpa using h.size, h.below.setCell (by omega) u⟩
end Go.Proofs.YtpnkifincadakaaGreatDoor.Wr
end
section
namespace Go.Proofs.YtpnkifincadakaaGreatDoor.Wr
open Go.RowKit Go.Pk Go.Proofs.YtpnkifincadakaaGreatDoorW.PrintWords Go.Proofs.YtpnkifincadakaaGreatDoor.PPackSpecs
theorem RS.base {g q cb : Nat} {bs : List Int} {a r n a' r' n' : Nat} {w0 w w1 : World} (h : RS g q cb bs a r n w) (h0 : RS g q cb bs a' r' n' w0) (hb : Below w0.heap.size w w1) (hs : w0.heap.size ≤ w.heap.size) : RS g q cb bs a r n w1 := by
  obtain ⟨cells, hc, hr⟩ := h.row
  exact ⟨(hb.block _ h0.glt).trans h.box, ⟨cells, (hb.block _ h0.qlt).trans hc, hr⟩, h.cap, h.pos, h.byt⟩
theorem Mv.base {g : Nat} {w w5 w1 : World} (h : Mv g w w5) (hb : Below w.heap.size w5 w1) (hg : g < w.heap.size) : Mv g w w1 :=
  ⟨fun k hk hne => (hb.block k hk).trans (h.keep k hk hne), Nat.le_trans h.size hb.size, h.below.trans (hb.mono (Nat.le_of_lt hg))⟩
theorem N_mv {α : Type} {d : Kd α} {e g B : Nat} {w w' : World} {v : Value} {xs : List α} (h : Kd.N d e w B (fun k => B ≤ k) v xs) (hm : Mv g w w') (hg : g < B) : Kd.N d e w' B (fun k => B ≤ k) v xs :=
  Kd.N_step h fun k hk hlt => hm.keep k hlt (by omega)
end Go.Proofs.YtpnkifincadakaaGreatDoor.Wr
end
section
namespace Go.Proofs.YtpnkifincadakaaGreatDoor.Wr
open Go.RowKit Go.Pk Go.Proofs.YtpnkifincadakaaGreatDoorW.PrintWords Go.Proofs.YtpnkifincadakaaGreatDoor.PPackSpecs
theorem str_mkF (W : World) (ok : Nat → Prop) (x : ByteArray) : Kd.FK Kd.string W ok x [.string x] := fun _ _ => rfl
end Go.Proofs.YtpnkifincadakaaGreatDoor.Wr
end
section
namespace Go.Proofs.YtpnkifincadakaaGreatDoor.Wr
open Go.RowKit Go.Pk Go.Proofs.YtpnkifincadakaaGreatDoorW.PrintWords Go.Proofs.YtpnkifincadakaaGreatDoor.PPackSpecs
structure Mv2 (g P : Nat) (w w' : World) : Prop where
  keep : ∀ k, k < w.heap.size → k ≠ g → k ≠ P → w'.heap[k]? = w.heap[k]?
  size : w.heap.size ≤ w'.heap.size
  below : Below (min g P) w w'
theorem Mv2.refl (g P : Nat) (w : World) : Mv2 g P w w := ⟨fun _ _ _ _ => rfl, Nat.le_refl _, Below.refl _ _⟩
theorem Mv2.trans {g P : Nat} {a b c : World} (h : Mv2 g P a b) (k : Mv2 g P b c) : Mv2 g P a c := ⟨fun i hi hne hnp => (k.keep i (Nat.lt_of_lt_of_le hi h.size) hne hnp).trans (h.keep i hi hne hnp), Nat.le_trans h.size k.size, h.below.trans k.below⟩
theorem Mv.two {g : Nat} {w w' : World} (h : Mv g w w') (P : Nat) : Mv2 g P w w' := ⟨fun k hk hne _ => h.keep k hk hne, h.size, h.below.mono (by omega)⟩
theorem Mv2.blk {g P k : Nat} {w w' : World} {o : Obj} (h : Mv2 g P w w') (hb : w.heap[k]? = some o) (hne : k ≠ g) (hnp : k ≠ P) : w'.heap[k]? = some o := (h.keep k (blk_lt hb) hne hnp).trans hb
theorem Mv2.far {g P : Nat} {w w' : World} (h : Mv2 g P w w') (hg : g < w.heap.size) {p : Addr} (hp : w.heap.size ≤ p.block) (u : Value) : Mv2 g P w (w'.setCell p u) :=
  ⟨fun k hk hne hnp => by rw [Below.heap_setCell _ _ _ _ (by omega)]; exact h.keep k hk hne hnp, by simpa using h.size, h.below.setCell (by omega) u⟩
theorem Mv2.base {g P : Nat} {w w5 w1 : World} (h : Mv2 g P w w5) (hb : Below w.heap.size w5 w1) (hg : g < w.heap.size) : Mv2 g P w w1 :=
  ⟨fun k hk hne hnp => (hb.block k hk).trans (h.keep k hk hne hnp), Nat.le_trans h.size hb.size, h.below.trans (hb.mono (by omega))⟩
theorem Mv2.setP {g P : Nat} {w w' : World} (h : Mv2 g P w w') (j : Nat) (u : Value) : Mv2 g P w (w'.setCell ⟨P, j, none⟩ u) :=
  ⟨fun k hk hne hnp => by rw [Below.heap_setCell _ _ _ _ (by simpa using hnp)]; exact h.keep k hk hne hnp, by simpa using h.size, h.below.setCell (by show min g P ≤ P; omega) u⟩
theorem Mv2.alloc {g P : Nat} {w w' : World} (h : Mv2 g P w w') (hg : g < w.heap.size) (o : Obj) : Mv2 g P w (w'.alloc o) := h.base ((Below.refl w.heap.size w').alloc h.size o) hg
def PS (g P : Nat) (cnt : Int) (w : World) : Prop := w.heap[P]? = some (.cells #[.pointer (some ⟨g, 0, none⟩), .int .i64 cnt] 268 (0, 0))
theorem PS.ne_q {g P q cb : Nat} {cnt : Int} {bs : List Int} {a r n : Nat} {w : World} (h : PS g P cnt w) (k : RS g q cb bs a r n w) : q ≠ P := fun e => by
  obtain ⟨cells, hc, _⟩ := k.row
  rw [e, h] at hc
  injection hc with hc
  injection hc with _ hc
  exact absurd hc (by decide)
theorem PS.ne_g {g P q cb : Nat} {cnt : Int} {bs : List Int} {a r n : Nat} {w : World} (h : PS g P cnt w) (k : RS g q cb bs a r n w) : P ≠ g := fun e => by
  have hc := k.box
  rw [← e, h] at hc
  injection hc with hc
  injection hc with _ hc
  exact absurd hc (by decide)
theorem RS.put {g q cb : Nat} {bs : List Int} {a r n : Nat} {w : World} (h : RS g q cb bs a r n w) {p : Addr} (hg : p.block ≠ g) (hq : p.block ≠ q) (u : Value) : RS g q cb bs a r n (w.setCell p u) := by
  obtain ⟨cells, hc, hr⟩ := h.row
  refine ⟨?_, ⟨cells, ?_, hr⟩, h.cap, h.pos, h.byt⟩
  · rw [Below.heap_setCell _ _ _ _ (fun e => hg e.symm)]; exact h.box
  · rw [Below.heap_setCell _ _ _ _ (fun e => hq e.symm)]; exact hc
structure Rk (g q cb : Nat) (bs : List Int) (a r n P : Nat) (cnt deep : Int) (w0 : World) (E : Nat) (cs : Array Value) (w : World) : Prop where
  rs : RS g q cb bs a r n w
  ps : PS g P cnt w
  bp : w.heap[w0.heap.size]? = some (.cells #[.pointer (some ⟨P, 0, none⟩)] 266 (0, 0))
  bd : w.heap[w0.heap.size + 1]? = some (.cells #[.int .i64 deep] 3 (0, 0))
  br : w.heap[w0.heap.size + 2]? = some (.cells #[.int .i64 0, .int .i64 0, .int .i64 0, .int .i64 0, .int .i64 0, .slice none 0 0] 40 (0, 0))
  be : w.heap[E]? = some (.cells cs 40 (0, 0))
  mv : Mv2 g P w0 w
  le : w0.heap.size + 3 ≤ E
  lg : g < w0.heap.size
  lp : P < w0.heap.size
  lq : q < w0.heap.size
theorem Rk.num {g q cb : Nat} {bs : List Int} {a r n P : Nat} {cnt deep : Int} {w0 : World} {E : Nat} {cs : Array Value} {w w' : World} {a' : Nat} (h : Rk g q cb bs a r n P cnt deep w0 E cs w) (hr : RS g q cb bs a' r n w') (hm : Mv g w w') : Rk g q cb bs a' r n P cnt deep w0 E cs w' := by
  have h1 := h.lg
  have h2 := h.le
  have h3 := h.ps.ne_g h.rs
  exact ⟨hr, hm.blk h.ps h3, hm.blk h.bp (by omega), hm.blk h.bd (by omega), hm.blk h.br (by omega), hm.blk h.be (by omega), h.mv.trans (hm.two P), h2, h1, h.lp, h.lq⟩
theorem Rk.put {g q cb : Nat} {bs : List Int} {a r n P : Nat} {cnt deep : Int} {w0 : World} {E : Nat} {cs : Array Value} {w : World} (h : Rk g q cb bs a r n P cnt deep w0 E cs w) (i : Nat) (u : Value) (cs' : Array Value) (e : cs.setIfInBounds i u = cs') : Rk g q cb bs a r n P cnt deep w0 E cs' (w.setCell ⟨E, i, none⟩ u) := by
  have h1 := h.lg
  have h2 := h.le
  have h3 := h.lp
  have h4 := h.lq
  have far : ∀ {k : Nat} {o : Obj}, w.heap[k]? = some o → k ≠ E → (w.setCell ⟨E, i, none⟩ u).heap[k]? = some o := fun hb hne => by rw [Below.heap_setCell _ _ _ _ (by simpa using hne)]; exact hb
  exact ⟨h.rs.put (by show E ≠ g; omega) (by show E ≠ q; omega) u, far h.ps (by omega), far h.bp (by omega), far h.bd (by omega), far h.br (by omega), blk_put h.be i u e, h.mv.far h1 (by show w0.heap.size ≤ E; omega) u, h2, h1, h3, h4⟩
theorem Rk.cellE {g q cb : Nat} {bs : List Int} {a r n P : Nat} {cnt deep : Int} {w0 : World} {E : Nat} {cs : Array Value} {w : World} (h : Rk g q cb bs a r n P cnt deep w0 E cs w) (i : Nat) (u : Value) (e : cs[i]? = some u) : w.cell? ⟨E, i, none⟩ = some u := (blk_cell h.be i).trans e
theorem Rk.at {g q cb : Nat} {bs : List Int} {a r n P : Nat} {cnt deep : Int} {w0 : World} {E : Nat} {cs : Array Value} {w : World} (h : Rk g q cb bs a r n P cnt deep w0 E cs w) :
    w.cell? ⟨w0.heap.size, 0, none⟩ = some (.pointer (some ⟨P, 0, none⟩)) ∧ w.cell? ⟨P, 0, none⟩ = some (.pointer (some ⟨g, 0, none⟩)) ∧ ∀ i, w.frozen? ⟨E, i, none⟩ = false :=
  ⟨(blk_cell h.bp 0).trans rfl, (blk_cell h.ps 0).trans rfl, fun i => blk_frozen h.be i⟩
end Go.Proofs.YtpnkifincadakaaGreatDoor.Wr
end
section
namespace Go.Proofs.YtpnkifincadakaaGreatDoor.Wr
open Go.RowKit Go.Pk Go.Proofs.YtpnkifincadakaaGreatDoorW.PrintWords Go.Proofs.YtpnkifincadakaaGreatDoor.PPackSpecs
abbrev put6 (w : World) (N : Nat) (a b d f g : Int) (v : Value) : World := (((((w.setCell ⟨N, 0, none⟩ (.int .i64 a)).setCell ⟨N, 1, none⟩ (.int .i64 b)).setCell ⟨N, 2, none⟩ (.int .i64 d)).setCell ⟨N, 3, none⟩ (.int .i64 f)).setCell ⟨N, 4, none⟩ (.int .i64 g)).setCell ⟨N, 5, none⟩ v
theorem put6_blk {w : World} {N : Nat} (h : w.heap[N]? = some (.cells #[.int .i64 0, .int .i64 0, .int .i64 0, .int .i64 0, .int .i64 0, .slice none 0 0] 40 (0, 0))) (a b d f g : Int) (v : Value) : (put6 w N a b d f g v).heap[N]? = some (.cells #[.int .i64 a, .int .i64 b, .int .i64 d, .int .i64 f, .int .i64 g, v] 40 (0, 0)) :=
  blk_put (cs := #[.int .i64 a, .int .i64 b, .int .i64 d, .int .i64 f, .int .i64 g, .slice none 0 0]) (blk_put (cs := #[.int .i64 a, .int .i64 b, .int .i64 d, .int .i64 f, .int .i64 0, .slice none 0 0]) (blk_put (cs := #[.int .i64 a, .int .i64 b, .int .i64 d, .int .i64 0, .int .i64 0, .slice none 0 0]) (blk_put (cs := #[.int .i64 a, .int .i64 b, .int .i64 0, .int .i64 0, .int .i64 0, .slice none 0 0]) (blk_put (cs := #[.int .i64 a, .int .i64 0, .int .i64 0, .int .i64 0, .int .i64 0, .slice none 0 0]) (blk_put h 0 _ rfl) 1 _ rfl) 2 _ rfl) 3 _ rfl) 4 _ rfl) 5 _ rfl
theorem put6_other {w : World} {N k : Nat} (hk : k ≠ N) (a b d f g : Int) (v : Value) : (put6 w N a b d f g v).heap[k]? = w.heap[k]? := by
  unfold put6
  rw [Below.heap_setCell _ _ _ _ (by simpa using hk), Below.heap_setCell _ _ _ _ (by simpa using hk), Below.heap_setCell _ _ _ _ (by simpa using hk), Below.heap_setCell _ _ _ _ (by simpa using hk), Below.heap_setCell _ _ _ _ (by simpa using hk), Below.heap_setCell _ _ _ _ (by simpa using hk)]
theorem put6_rs {g q cb : Nat} {bs : List Int} {A r n : Nat} {w : World} (h : RS g q cb bs A r n w) {N : Nat} (hg : N ≠ g) (hq : N ≠ q) (a b d f e : Int) (v : Value) : RS g q cb bs A r n (put6 w N a b d f e v) :=
  (((((h.put (p := ⟨N, 0, none⟩) hg hq _).put (p := ⟨N, 1, none⟩) hg hq _).put (p := ⟨N, 2, none⟩) hg hq _).put (p := ⟨N, 3, none⟩) hg hq _).put (p := ⟨N, 4, none⟩) hg hq _).put (p := ⟨N, 5, none⟩) hg hq _
theorem put6_mv {g P : Nat} {w0 w : World} (h : Mv2 g P w0 w) (hg : g < w0.heap.size) {N : Nat} (hN : w0.heap.size ≤ N) (a b d f e : Int) (v : Value) : Mv2 g P w0 (put6 w N a b d f e v) :=
  (((((h.far hg (p := ⟨N, 0, none⟩) hN _).far hg (p := ⟨N, 1, none⟩) hN _).far hg (p := ⟨N, 2, none⟩) hN _).far hg (p := ⟨N, 3, none⟩) hN _).far hg (p := ⟨N, 4, none⟩) hN _).far hg (p := ⟨N, 5, none⟩) hN _
theorem put6_F {α : Type} {d0 : Kd α} {w : World} {ok : Nat → Prop} {A : Option Addr} {n N : Nat} {xs : List α} (h : Kd.F d0 w ok A n xs) (hk : ∀ k, ok k → k ≠ N) (a b d f e : Int) (v : Value) : Kd.F d0 (put6 w N a b d f e v) ok A n xs :=
  Kd.F_step h fun k hok _ => put6_other (hk k hok) a b d f e v
theorem N_mv2 {α : Type} {d : Kd α} {e g P B : Nat} {w w' : World} {v : Value} {xs : List α} (h : Kd.N d e w B (fun k => B ≤ k) v xs) (hm : Mv2 g P w w') (hg : g < B) (hP : P < B) : Kd.N d e w' B (fun k => B ≤ k) v xs :=
  Kd.N_step h fun k hk hlt => hm.keep k hlt (by omega) (by omega)
end Go.Proofs.YtpnkifincadakaaGreatDoor.Wr
end
section
namespace Go.Proofs.YtpnkifincadakaaGreatDoor.Wr
open Go.RowKit Go.Pk Go.Proofs.YtpnkifincadakaaGreatDoorW.PrintWords Go.Proofs.YtpnkifincadakaaGreatDoor.PPackSpecs
theorem Mv2.one {g P : Nat} {w w1 w3 : World} (h : Mv2 g P w1 w3) (hm : Mv g w w1) (hP : w.heap.size ≤ P) (hg : g < w.heap.size) : Mv g w w3 :=
  ⟨fun k hk hne => (h.keep k (Nat.lt_of_lt_of_le hk hm.size) hne (by omega)).trans (hm.keep k hk hne), Nat.le_trans hm.size h.size, hm.below.trans (by have := h.below; rwa [show min g P = g by omega] at this)⟩
abbrev put8 (w : World) (N : Nat) (s : ByteArray) (t : Bool) (a b d f g : Int) (v : Value) : World := (((((((w.setCell ⟨N, 0, none⟩ (.string s)).setCell ⟨N, 1, none⟩ (.bool t)).setCell ⟨N, 2, none⟩ (.int .i64 a)).setCell ⟨N, 3, none⟩ (.int .i64 b)).setCell ⟨N, 4, none⟩ (.int .i64 d)).setCell ⟨N, 5, none⟩ (.int .i64 f)).setCell ⟨N, 6, none⟩ (.int .i64 g)).setCell ⟨N, 7, none⟩ v
theorem put8_blk {w : World} {N : Nat} (h : w.heap[N]? = some (.cells #[.string ⟨#[]⟩, .bool false, .int .i64 0, .int .i64 0, .int .i64 0, .int .i64 0, .int .i64 0, .slice none 0 0] 42 (0, 0))) (s : ByteArray) (t : Bool) (a b d f g : Int) (v : Value) : (put8 w N s t a b d f g v).heap[N]? = some (.cells #[.string s, .bool t, .int .i64 a, .int .i64 b, .int .i64 d, .int .i64 f, .int .i64 g, v] 42 (0, 0)) :=
  blk_put (cs := #[.string s, .bool t, .int .i64 a, .int .i64 b, .int .i64 d, .int .i64 f, .int .i64 g, .slice none 0 0]) (blk_put (cs := #[.string s, .bool t, .int .i64 a, .int .i64 b, .int .i64 d, .int .i64 f, .int .i64 0, .slice none 0 0]) (blk_put (cs := #[.string s, .bool t, .int .i64 a, .int .i64 b, .int .i64 d, .int .i64 0, .int .i64 0, .slice none 0 0]) (blk_put (cs := #[.string s, .bool t, .int .i64 a, .int .i64 b, .int .i64 0, .int .i64 0, .int .i64 0, .slice none 0 0]) (blk_put (cs := #[.string s, .bool t, .int .i64 a, .int .i64 0, .int .i64 0, .int .i64 0, .int .i64 0, .slice none 0 0]) (blk_put (cs := #[.string s, .bool t, .int .i64 0, .int .i64 0, .int .i64 0, .int .i64 0, .int .i64 0, .slice none 0 0]) (blk_put (cs := #[.string s, .bool false, .int .i64 0, .int .i64 0, .int .i64 0, .int .i64 0, .int .i64 0, .slice none 0 0]) (blk_put h 0 _ rfl) 1 _ rfl) 2 _ rfl) 3 _ rfl) 4 _ rfl) 5 _ rfl) 6 _ rfl) 7 _ rfl
theorem put8_other {w : World} {N k : Nat} (hk : k ≠ N) (s : ByteArray) (t : Bool) (a b d f g : Int) (v : Value) : (put8 w N s t a b d f g v).heap[k]? = w.heap[k]? := by
  unfold put8
  rw [Below.heap_setCell _ _ _ _ (by simpa using hk), Below.heap_setCell _ _ _ _ (by simpa using hk), Below.heap_setCell _ _ _ _ (by simpa using hk), Below.heap_setCell _ _ _ _ (by simpa using hk), Below.heap_setCell _ _ _ _ (by simpa using hk), Below.heap_setCell _ _ _ _ (by simpa using hk), Below.heap_setCell _ _ _ _ (by simpa using hk), Below.heap_setCell _ _ _ _ (by simpa using hk)]
theorem put8_rs {g q cb : Nat} {bs : List Int} {A r n : Nat} {w : World} (h : RS g q cb bs A r n w) {N : Nat} (hg : N ≠ g) (hq : N ≠ q) (s : ByteArray) (t : Bool) (a b d f e : Int) (v : Value) : RS g q cb bs A r n (put8 w N s t a b d f e v) :=
  (((((((h.put (p := ⟨N, 0, none⟩) hg hq _).put (p := ⟨N, 1, none⟩) hg hq _).put (p := ⟨N, 2, none⟩) hg hq _).put (p := ⟨N, 3, none⟩) hg hq _).put (p := ⟨N, 4, none⟩) hg hq _).put (p := ⟨N, 5, none⟩) hg hq _).put (p := ⟨N, 6, none⟩) hg hq _).put (p := ⟨N, 7, none⟩) hg hq _
theorem put8_mv {g : Nat} {w0 w : World} (h : Mv g w0 w) (hg : g < w0.heap.size) {N : Nat} (hN : w0.heap.size ≤ N) (s : ByteArray) (t : Bool) (a b d f e : Int) (v : Value) : Mv g w0 (put8 w N s t a b d f e v) :=
  (((((((h.far hg (p := ⟨N, 0, none⟩) hN _).far hg (p := ⟨N, 1, none⟩) hN _).far hg (p := ⟨N, 2, none⟩) hN _).far hg (p := ⟨N, 3, none⟩) hN _).far hg (p := ⟨N, 4, none⟩) hN _).far hg (p := ⟨N, 5, none⟩) hN _).far hg (p := ⟨N, 6, none⟩) hN _).far hg (p := ⟨N, 7, none⟩) hN _
theorem put8_F {α : Type} {d0 : Kd α} {w : World} {ok : Nat → Prop} {A : Option Addr} {n N : Nat} {xs : List α} (h : Kd.F d0 w ok A n xs) (hk : ∀ k, ok k → k ≠ N) (s : ByteArray) (t : Bool) (a b d f e : Int) (v : Value) : Kd.F d0 (put8 w N s t a b d f e v) ok A n xs :=
  Kd.F_step h fun k hok _ => put8_other (hk k hok) s t a b d f e v
end Go.Proofs.YtpnkifincadakaaGreatDoor.Wr
end
section
namespace Go.Proofs.YtpnkifincadakaaGreatDoor.Wr
open Go.RowKit Go.Pk Go.Am Go.Proofs.YtpnkifincadakaaGreatDoorW.PrintWords Go.Proofs.YtpnkifincadakaaGreatDoor.PPackSpecs
structure Sk (g q cb : Nat) (bs : List Int) (a r n : Nat) (w0 : World) (cs : Array Value) (w : World) : Prop where
  rs : RS g q cb bs a r n w
  res : w.heap[w0.heap.size]? = some (.cells cs 28 (0, 0))
  mv : Mv g w0 w
  tab : TabVar w
  lg : 0 < g ∧ g < w0.heap.size
  lq : q < w0.heap.size
theorem Sk.num {g q cb : Nat} {bs : List Int} {a r n : Nat} {w0 : World} {cs : Array Value} {w w' : World} {a' : Nat} (h : Sk g q cb bs a r n w0 cs w) (hr : RS g q cb bs a' r n w') (hm : Mv g w w') : Sk g q cb bs a' r n w0 cs w' := by
  have h1 := h.lg
  exact ⟨hr, hm.blk h.res (by omega), h.mv.trans hm, tab_below h.tab h1.1 hm.below, h1, h.lq⟩
theorem Sk.put {g q cb : Nat} {bs : List Int} {a r n : Nat} {w0 : World} {cs : Array Value} {w : World} (h : Sk g q cb bs a r n w0 cs w) (i : Nat) (u : Value) (cs' : Array Value) (e : cs.setIfInBounds i u = cs') : Sk g q cb bs a r n w0 cs' (w.setCell ⟨w0.heap.size, i, none⟩ u) := by
  have h1 := h.lg
  have h2 := h.lq
  exact ⟨h.rs.put (by show w0.heap.size ≠ g; omega) (by show w0.heap.size ≠ q; omega) u, blk_put h.res i u e, h.mv.far h1.2 (Nat.le_refl _) u, tab_below h.tab h1.1 ((Below.refl g w).setCell (by show g ≤ w0.heap.size; omega) u), h1, h2⟩
theorem Sk.set {g q cb : Nat} {bs : List Int} {a r n : Nat} {w0 : World} {cs : Array Value} {w : World} (h : Sk g q cb bs a r n w0 cs w) (j : Nat) (v : Value) (r' n' : Nat)
    (e : (#[.slice (some ⟨q, 0, none⟩) bs.length cb, .int .i64 a, .int .i64 r, .int .i64 n] : Array Value).setIfInBounds j v = #[.slice (some ⟨q, 0, none⟩) bs.length cb, .int .i64 a, .int .i64 r', .int .i64 n']) : Sk g q cb bs a r' n' w0 cs (w.setCell ⟨g, j, none⟩ v) := by
  have h1 := h.lg
  obtain ⟨k1, k2⟩ := h.rs.set j v a r' n' h.rs.pos e
  exact ⟨k1, k2.blk h.res (by omega), h.mv.trans k2, tab_below h.tab h1.1 k2.below, h1, h.lq⟩
theorem Sk.at {g q cb : Nat} {bs : List Int} {a r n : Nat} {w0 : World} {cs : Array Value} {w : World} (h : Sk g q cb bs a r n w0 cs w) :
    w.cell? ⟨g, 2, none⟩ = some (.int .i64 r) ∧ w.cell? ⟨g, 3, none⟩ = some (.int .i64 n) ∧ (∀ i, w.frozen? ⟨g, i, none⟩ = false) ∧ ∀ i, w.frozen? ⟨w0.heap.size, i, none⟩ = false :=
  ⟨(blk_cell h.rs.box 2).trans rfl, (blk_cell h.rs.box 3).trans rfl, fun i => blk_frozen h.rs.box i, fun i => blk_frozen h.res i⟩
theorem Sk.cell {g q cb : Nat} {bs : List Int} {a r n : Nat} {w0 : World} {cs : Array Value} {w : World} (h : Sk g q cb bs a r n w0 cs w) (i : Nat) (u : Value) (e : cs[i]? = some u) : w.cell? ⟨w0.heap.size, i, none⟩ = some u := (blk_cell h.res i).trans e
theorem Sk.lt {g q cb : Nat} {bs : List Int} {a r n : Nat} {w0 : World} {cs : Array Value} {w : World} (h : Sk g q cb bs a r n w0 cs w) : w0.heap.size < w.heap.size := blk_lt h.res
theorem F_mv {α : Type} {d : Kd α} {g N : Nat} {w w' : World} {A : Option Addr} {n : Nat} {xs : List α} (h : Kd.F d w (fun k => N < k) A n xs) (hm : Mv g w w') (hg : g < N) : Kd.F d w' (fun k => N < k) A n xs := Kd.F_step h fun k hk hlt => hm.keep k hlt (by omega)
theorem F_putN {α : Type} {d : Kd α} {N b i : Nat} {w : World} {A : Option Addr} {n : Nat} {xs : List α} (h : Kd.F d w (fun k => N < k) A n xs) (hb : b ≤ N) (u : Value) : Kd.F d (w.setCell ⟨b, i, none⟩ u) (fun k => N < k) A n xs := Kd.F_far (p := ⟨b, i, none⟩) h (fun k hk e => by have e : k = b := e; omega) u
end Go.Proofs.YtpnkifincadakaaGreatDoor.Wr
end
section
namespace Go.Pk
open Go.Proofs.YtpnkifincadakaaGreatDoor.PPackSpecs Go.Proofs.YtpnkifincadakaaGreatDoorW.PrintWords
open Go.Proofs.YtpnkifincadakaaGreatDoor.Wr (leN magic)
inductive Rdd (α : Type) : Type where
  | ok (x : α) (a : Nat)
  | bad (e : Int) (p : Nat)
def Rdd.bind {α β : Type} (r : Rdd α) (f : α → Nat → Rdd β) : Rdd β := match r with
  | .ok x a => f x a
  | .bad e p => .bad e p
theorem Rdd.bind_bad {α β : Type} (e : Int) (p : Nat) (f : α → Nat → Rdd β) : (Rdd.bad e p).bind f = .bad e p := rfl
theorem Rdd.bind_ok {α β : Type} (x : α) (a : Nat) (f : α → Nat → Rdd β) : (Rdd.ok x a).bind f = f x a := rfl
def takeD (bs : List Int) (a n : Nat) : Rdd (List Int) := if bs.length < a + n then .bad 182 bs.length else .ok ((bs.drop a).take n) (a + n)
def numD (bs : List Int) (a k : Nat) (lo hi : Int) : Rdd Int := (takeD bs a k).bind fun l a' => if leN l < lo ∨ hi < leN l then .bad 180 a else .ok (leN l) a'
def manyD {α σ : Type} (one : σ → Nat → Rdd (α × σ)) : Nat → σ → Nat → Rdd (List α × σ)
  | 0, s, a => .ok ([], s) a
  | n + 1, s, a => (one s a).bind fun x a1 => (manyD one n x.2 a1).bind fun l a2 => .ok (x.1 :: l.1, l.2) a2
def magicD (bs : List Int) : List Int → Nat → Rdd Unit
  | [], a => .ok () a
  | c :: r, a => (numD bs a 1 c c).bind fun _ a1 => magicD bs r a1
def valueD (bs : List Int) : Nat → Nat → Nat → Rdd (S40 × Nat)
  | 0, _, a => (numD bs a 1 0 255).bind fun _ _ => .bad 180 a
  | f + 1, cnt, a => (numD bs a 1 0 255).bind fun k a1 =>
    if k < 1 ∨ 4 < k ∨ 4096 < cnt + 1 then .bad 180 a
    else if k = 1 then (numD bs a1 1 0 255).bind fun lo a2 => (numD bs a2 1 0 255).bind fun hi a3 => if lo ≤ hi then .ok (⟨1, lo, hi, 0, 0, []⟩, cnt + 1) a3 else .bad 180 a
    else if k = 4 then (numD bs a1 2 0 65535).bind fun mi a2 => (numD bs a2 2 0 65535).bind fun m a3 =>
      if mi ≤ 1000 ∧ (m = 65535 ∨ mi ≤ m ∧ m ≤ 1000) then (manyD (valueD bs f) 1 (cnt + 1) a3).bind fun l a4 => .ok (⟨4, 0, 0, mi, if m = 65535 then -1 else m, l.1⟩, l.2) a4 else .bad 180 a
    else (numD bs a1 2 0 65535).bind fun n a2 => if 1 < n ∨ n = 0 ∧ k = 2 then (manyD (valueD bs f) n.toNat (cnt + 1) a2).bind fun l a3 => .ok (⟨k, 0, 0, 0, 0, l.1⟩, l.2) a3 else .bad 180 a
def patternD (bs : List Int) (a : Nat) : Rdd S40 := (valueD bs 64 0 a).bind fun x a1 => if chk x.1 = 0 then .ok x.1 a1 else .bad 180 a
def nameD (bs : List Int) (a : Nat) : Rdd ByteArray := (numD bs a 1 0 64).bind fun n a1 => (takeD bs a1 n.toNat).bind fun l a2 => .ok (strOfNums l) a2
def ruleD (bs : List Int) (a : Nat) : Rdd S42 := (numD bs a 1 0 1).bind fun t a1 => (nameD bs a1).bind fun s a2 => (patternD bs a2).bind fun e a3 => .ok ⟨s, decide (t = 1), e⟩ a3
def symD (bs : List Int) (nl nn : Nat) (a : Nat) : Rdd S85 := (numD bs a 1 0 255).bind fun k a1 => if k < 1 ∨ 3 < k then .bad 180 a else (numD bs a1 1 0 255).bind fun n a2 => if symOk ⟨k, n⟩ nl nn = true then .ok ⟨k, n⟩ a2 else .bad 180 a
def one {α : Type} (f : Nat → Rdd α) : Unit → Nat → Rdd (α × Unit) := fun _ a => (f a).bind fun x a1 => .ok (x, ()) a1
def prodD (bs : List Int) (nl nn : Nat) (a : Nat) : Rdd S67 := (numD bs a 1 0 ((nn : Int) - 1)).bind fun l a1 => (numD bs a1 1 0 16).bind fun m a2 => (manyD (one (symD bs nl nn)) m.toNat () a2).bind fun r a3 => .ok ⟨l, r.1⟩ a3
def endD (bs : List Int) (a : Nat) : Rdd Unit := (takeD bs a 4).bind fun l a1 => if leN l = (crc (bs.take a) : Nat) then if a1 < bs.length then .bad 180 a1 else .ok () a1 else .bad 181 a
def specD (bs : List Int) : Rdd (List S42 × List ByteArray × Int × List S67) :=
  (magicD bs magic 0).bind fun _ a => (numD bs a 1 0 64).bind fun nl a => (manyD (one (ruleD bs)) nl.toNat () a).bind fun lex a => (numD bs a 1 0 128).bind fun nn a => (manyD (one (nameD bs)) nn.toNat () a).bind fun names a =>
  (numD bs a 1 0 (nn - 1)).bind fun st a => (numD bs a 2 0 512).bind fun np a => (manyD (one (prodD bs nl.toNat nn.toNat)) np.toNat () a).bind fun prods a => (endD bs a).bind fun _ a => .ok (lex.1, names.1, st, prods.1) a
end Go.Pk
end
section
namespace Go.Pk
open Go.Proofs.YtpnkifincadakaaGreatDoor.PPackSpecs
def Pre {α σ : Type} (on : σ → Nat → Rdd (α × σ)) (d : Rdd (List α × σ)) (xs : List α) (m : Nat) (s : σ) (a : Nat) : Prop := d = (manyD on m s a).bind fun l a' => .ok (xs ++ l.1, l.2) a'
section
variable {α σ : Type} {on : σ → Nat → Rdd (α × σ)} {d : Rdd (List α × σ)} {xs : List α} {m : Nat} {s s' : σ} {a a' : Nat}
theorem pre_start (hd : manyD on m s a = d) : Pre on d [] m s a := by
  unfold Pre
  rw [hd]
  cases d <;> rfl
theorem pre_ok (h : Pre on d xs (m + 1) s a) {x : α} (ho : on s a = .ok (x, s') a') : Pre on d (xs ++ [x]) m s' a' := by
  unfold Pre at h ⊢
  rw [h, manyD, ho, Rdd.bind_ok]
  cases manyD on m s' a' with
  | ok l b => simp [Rdd.bind]
  | bad e p => rfl
theorem pre_bad (h : Pre on d xs (m + 1) s a) {e : Int} {p : Nat} (ho : on s a = .bad e p) : d = .bad e p := by
  unfold Pre at h
  rw [h, manyD, ho]
  rfl
theorem pre_end (h : Pre on d xs 0 s a) : d = .ok (xs, s) a := by
  unfold Pre at h
  rw [h, manyD, Rdd.bind_ok, List.append_nil]
end
theorem one_ok {α : Type} {f : Nat → Rdd α} {a a' : Nat} {x : α} (h : f a = .ok x a') : one f () a = .ok (x, ()) a' := by unfold one; rw [h]; rfl
theorem one_bad {α : Type} {f : Nat → Rdd α} {a p : Nat} {e : Int} (h : f a = .bad e p) : one f () a = .bad e p := by unfold one; rw [h]; rfl
end Go.Pk
end
