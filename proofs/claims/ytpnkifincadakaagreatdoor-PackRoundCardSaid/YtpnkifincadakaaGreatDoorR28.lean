/- Proved: part 28 of the proof of PackRound (Head2, Ps3, Op1, Ld1, Ld2, Hs, Rd1, Rd2, Rd3, Rd4, Rd5). Conditions: each theorem states its own. -/
import Derived.ChangeArms
import Derived.DataReads
import Derived.SizedLaws
import Derived.Handed
import Derived.LaidLaws
import Derived.Test.YtpnkifincadakaaGreatDoorRows
import Derived.ProofKit
import Derived.Below
import Derived.Carry
import Derived.ChangeMaps5
import Derived.ChangeOld
import Derived.OpenShut
import Derived.SevenTiedAt
import Derived.ShutString
import Derived.Test.YtpnkifincadakaaGreatDoorCards
import Derived.Test.YtpnkifincadakaaGreatDoorTie
import Derived.BigQuiet
import Derived.Deep.QuietTactic
import Derived.Laws.BitsLemmas
import Derived.Deep.RegionWith
import Derived.Test.YtpnkifincadakaaGreatDoorR15
import Derived.Test.YtpnkifincadakaaGreatDoorR16
import Derived.Test.YtpnkifincadakaaGreatDoorR21
import Derived.Test.YtpnkifincadakaaGreatDoorR22
import Derived.Test.YtpnkifincadakaaGreatDoorR27
set_option linter.unusedVariables false
set_option linter.unusedSimpArgs false
section
namespace Go.Am
open Go.Proofs Go.RowKit Go.Pk
theorem h0_next : h0.next = 5 := by kernel_rfl
theorem hget_h0 {b : Nat} {o : AObj} (h : hget h0 b = some o) : b = 0 ∧ o = ofObj (.cells tabV.toArray 263) := by
  have none_step : ∀ (A : Heap) (o : AObj), hget (hpush A none) b = some o → hget A b = some o := fun A o h => by
    rw [hget_push] at h
    by_cases e : b = A.next
    · rw [if_pos e] at h; cases h
    · rw [if_neg e] at h; exact h
  have h1 := none_step _ _ (none_step _ _ (none_step _ _ (none_step _ _ h)))
  rw [hget_push] at h1
  by_cases e : b = (⟨0, .leaf⟩ : Heap).next
  · rw [if_pos e] at h1
    exact ⟨e, (Option.some.inj h1).symm⟩
  · rw [if_neg e] at h1
    exact absurd h1 (by simp [hget, Tr.get_leaf])
def m0 : Mp := fun b => if b < 5 then some (b, 0) else none
theorem ofObj_cells (c : Array Value) (e : TypeId) : ofObj (.cells c e) = .cells c.size (fillT c.toList 0 .leaf) e := rfl
theorem head_hr (w : World) (top : Nat) (h5 : 5 ≤ w.heap.size) (hb : w.heap[0]? = some (.cells tabV.toArray 263 (0, 0))) : HR Tryz.prog 5 w.heap.size w top m0 h0 w := by
  refine ⟨Below.refl _ _, Nat.le_refl _, h5, by rw [h0_next]; exact Nat.le_refl _, fun b a1 a2 => ?_, fun b r d e => ?_, fun b r d hG e => ?_, fun b hb => ?_, fun b o ho => ?_, fun b b' o o' r d d' hG h1 h2 e1 e2 => ?_⟩
  · rw [h0_next] at a1
    simp only [m0, if_neg (show ¬ b < 5 by omega)]
  · simp only [m0] at e
    split at e
    · cases e; omega
    · cases e
  · simp only [m0] at e
    split at e
    · omega
    · cases e
  · simp only [m0, if_pos hb]
  · obtain ⟨rfl, rfl⟩ := hget_h0 ho
    refine ⟨by rw [h0_next]; omega, 0, 0, _, rfl, hb, ?_⟩
    rw [ofObj_cells]
    refine .cells (.inl rfl) (by simp) fun i v hi hv => ?_
    rw [fillT_get] at hv
    rw [if_pos (by simpa using hi)] at hv
    refine ⟨v, by simpa using hv, ?_⟩
    have hm : v ∈ tabV := List.mem_of_getElem? (by simpa using hv)
    unfold tabV at hm
    obtain ⟨n, _, rfl⟩ := List.mem_map.1 hm
    exact .int _ _
  · simp only [m0] at e1
    split at e1
    · omega
    · cases e1
theorem head_calls (w : World) (h5 : 5 ≤ w.heap.size) (hb : w.heap[0]? = some (.cells tabV.toArray 263 (0, 0))) : Calls Tryz.prog 6 #[] w fun e w' => e = .returned (.bool true) ∧ Below w.heap.size w w' := by
  obtain ⟨A, hA⟩ := isTrue_spec headRuns
  obtain ⟨_, hc⟩ := (machineX_ok (base := w.heap.size) (w0 := w) 3000).call A.next 6 #[] h0 _ _ hA
  refine (hc (Nat.le_refl _) m0 #[] w ⟨rfl, fun i v v' h => by simp at h⟩ (head_hr w _ h5 hb)).mono ?_
  intro e w' h
  cases e with
  | returned v =>
    obtain ⟨m', _, hv, hr, _⟩ := h
    cases hv
    exact ⟨rfl, hr.below⟩
  | outgrown => exact h.elim
  | panicked ch => exact h.elim
end Go.Am
end
section
namespace Go.Proofs.YtpnkifincadakaaGreatDoor.Wr
open Go.RowKit Go.Pk Go.Proofs.YtpnkifincadakaaGreatDoorW.PrintWords Go.Proofs.YtpnkifincadakaaGreatDoor.PPackSpecs
open Go.Am (TabVar tabV head_calls)
structure S28 where
  lex : List S42
  names : List ByteArray
  start : Int
  prods : List S67
structure Lim (s : S28) : Prop where
  b0 : s.lex.length ≤ 1599289640401
  b1 : s.names.length < 8796093022208
  b3 : s.prods.length ≤ 4398046511104
  b4 : ∀ p, p ∈ s.prods → p.f1.length < 8796093022208
  lim : ∀ x, x ∈ s.lex → limE x.f2
  b5 : ∀ x, x ∈ s.names → x.size ≤ 140737488355328
theorem Ob.toR {w : World} {B : Nat} {v : Value} {bs : List Int} (h : Ob w B v bs) : (Kd.int .u8).R 5 w B (fun _ => True) v bs := by
  refine ⟨fun _ _ => trivial, nums .u8 bs, h, by rw [nums_length]; show _ = _ * 1; omega, fun j x hj => ?_⟩
  obtain ⟨hjl, rfl⟩ := List.getElem?_eq_some_iff.1 hj
  show ((nums .u8 bs).drop (j * 1)).take 1 = [.int .u8 bs[j]]
  rw [Nat.mul_one, List.drop_eq_getElem_cons (by rw [nums_length]; exact hjl)]
  simp [nums]
theorem Ob.C {w : World} {B : Nat} {a : Option Addr} {n c : Nat} {bs : List Int} (h : Ob w B (.slice a n c) bs) : n = bs.length ∧ n ≤ c ∧ (Kd.int .u8).C w a bs.length bs := by
  obtain ⟨A, c', e, hr⟩ := own_reads h
  injection e with e1 e2 e3
  subst e1
  subst e3
  have h' : Ob w B (.slice a bs.length c) bs := by rw [← e2]; exact h
  exact ⟨e2, by rw [e2]; exact (Kd.R_reads' h'.toR).2.1, (Kd.R_reads' h'.toR).2.2⟩
theorem same10 (bs : List Int) (hm : bs.length ≤ 67108864) (a b : Option Addr) (n m c d : Nat) (w : World) {B B' : Nat} (ha : Ob w B (.slice a n c) bs) (hb : Ob w B' (.slice b m d) bs) :
    Calls Tryz.prog 10 #[.slice a n c, .slice b m d] w fun e w' => e = .returned (.bool true) ∧ Below w.heap.size w w' := by
  obtain ⟨rfl, h1, h2⟩ := ha.C
  obtain ⟨rfl, h3, h4⟩ := hb.C
  obtain ⟨k, hk⟩ := same_any bs (by omega)
  refine (graftlaw18_same.calls k a c bs b d bs true w h2 h1 h4 h3 hk).mono ?_
  rintro e w' ⟨rfl, h⟩
  exact ⟨rfl, h.below⟩
theorem tab_of_block {w : World} (h : w.heap[0]? = some (.cells tabV.toArray 263 (0, 0))) : TabVar w := fun j v hj => by
  have e : Go.Am.tabI = crcTab.map (fun n : Nat => (n : Int)) := by kernel_rfl
  rw [blk_cell h j]
  unfold tabV
  rw [e]
  simp [hj]
end Go.Proofs.YtpnkifincadakaaGreatDoor.Wr
end
section
set_option maxRecDepth 100000
namespace Go.Proofs.YtpnkifincadakaaGreatDoor.Wr
open Go.RowKit Go.Pk Go.Proofs.YtpnkifincadakaaGreatDoorW.PrintWords Go.Proofs.YtpnkifincadakaaGreatDoor.PPackSpecs
open Go.ChangeShapes Go.WideShapes
def Wt {H : Type} (t : TypeId) (d : DataW H) : Prop := ∀ n, n ∈ d.weights Tryz.prog t → n ≤ reachBytes
theorem weightsAll_mem {H : Type} {P : Program} {e : TypeId} : ∀ {l : List (DataW H)} {d : DataW H} {n : Nat}, d ∈ l → n ∈ d.weights P e → n ∈ DataW.weightsAll P e l
  | x :: r, d, n, hd, hn => by
    simp only [DataW.weightsAll, List.mem_append]
    rcases List.mem_cons.1 hd with rfl | hd
    · exact .inl hn
    · exact .inr (weightsAll_mem hd hn)
theorem Wt.slice {H : Type} {t e : TypeId} {elems spare : List (DataW H)} (h : Wt t (.slice elems spare)) (ht : Tryz.prog.underlying t = some (.slice e)) : elems.length * Tryz.prog.bytesOf e ≤ reachBytes ∧ ∀ d, d ∈ elems → Wt e d := by
  refine ⟨?_, fun d hd n hn => h n ?_⟩
  · have := h ((elems.length + spare.length) * Tryz.prog.bytesOf e) (by simp [DataW.weights, ht])
    exact Nat.le_trans (Nat.mul_le_mul_right _ (Nat.le_add_right _ _)) this
  · simp only [DataW.weights, ht]
    exact List.mem_cons_of_mem _ (List.mem_append.2 (.inl (weightsAll_mem hd hn)))
theorem Wt.struct {H : Type} {t : TypeId} {fs : Array Field} {parts : List (DataW H)} (h : Wt t (.agg parts)) (ht : Tryz.prog.underlying t = some (.struct fs)) (i : Nat) (f : Field) (d : DataW H) (hf : fs[i]? = some f) (hd : parts[i]? = some d) : Wt f.type d := fun n hn => h n (by
  simp only [DataW.weights, ht]
  exact DataW.weights_mem_each (j := i) (by simp [hf]) hd n hn)
section
variable {H : Type} {enc : TypeId × Value → H} {W : World} {sp : Nat → Bool} {held : Bool}
theorem open_kd {α : Type} (d : Kd α) (Pr : α → Prop) {t e : TypeId} (ht : Tryz.prog.underlying t = some (.slice e)) (hc : Tryz.prog.cellsOf e = d.sz) (fuel : Nat)
    (hel : ∀ n, n < fuel → ∀ cs (x : DataW H × List MemPlace), DataW.trod enc Tryz.prog W 0 sp held n e cs = some x → Wt e x.1 → ∃ y : α, d.K W y cs ∧ Pr y)
    {cs : List Value} {x : DataW H × List MemPlace} (h : DataW.trod enc Tryz.prog W 0 sp held fuel t cs = some x) (hw : Wt t x.1) :
    ∃ A c, ∃ xs : List α, cs = [.slice A xs.length c] ∧ xs.length ≤ c ∧ d.C W A xs.length xs ∧ xs.length * Tryz.prog.bytesOf e ≤ reachBytes ∧ ∀ y, y ∈ xs → Pr y := by
  rcases DataW.trod_slice ht h with ⟨rfl, rfl⟩ | ⟨a, len, cap, elems, rest, n, rfl, rfl, rfl, _, hl, hm, hlen, hget, _, _⟩
  · exact ⟨none, 0, [], rfl, Nat.le_refl _, C_zero _ _ _, by simp, fun y hy => by cases hy⟩
  · obtain ⟨hb, hwe⟩ := hw.slice ht
    rw [List.length_map, hlen] at hb
    have hone : ∀ i : Fin len, ∃ y : α, ∃ c, d.K W y c ∧ W.cells? 0 (a.add (i.val * Tryz.prog.cellsOf e)) (Tryz.prog.cellsOf e) = some c ∧ Pr y := fun i => by
      have hg := hget i.val i.isLt
      rw [List.getElem?_eq_getElem (by rw [hlen]; exact i.isLt)] at hg
      obtain ⟨c, h1, h2⟩ := Option.bind_eq_some_iff.1 hg
      obtain ⟨y, hy, hp⟩ := hel n (by omega) c _ h2 (hwe _ (List.mem_map.2 ⟨_, List.getElem_mem _, rfl⟩))
      exact ⟨y, c, hy, h1, hp⟩
    let F : Fin len → α := fun i => (hone i).choose
    have hF : ∀ i, ∃ c, d.K W (F i) c ∧ W.cells? 0 (a.add (i.val * Tryz.prog.cellsOf e)) (Tryz.prog.cellsOf e) = some c ∧ Pr (F i) := fun i => (hone i).choose_spec
    have hxl : (List.ofFn F).length = len := List.length_ofFn
    refine ⟨some a, cap, List.ofFn F, by rw [hxl], by rw [hxl]; exact hl, ⟨rfl, by rw [hxl]; exact Nat.le_trans hl hm, fun hp => ⟨a, rfl, fun j p hj => ?_⟩⟩, by rw [hxl]; exact hb, fun y hy => ?_⟩
    · obtain ⟨hjl, rfl⟩ := List.getElem?_eq_some_iff.1 hj
      rw [List.getElem_ofFn]
      obtain ⟨c, h1, h2, _⟩ := hF ⟨j, by rw [hxl] at hjl; exact hjl⟩
      rw [hc] at h2
      obtain ⟨_, h3, h4⟩ := World.cells?_some h2
      refine ⟨c, h3, h1, fun k u hu => ?_⟩
      have hk := (List.getElem?_eq_some_iff.1 hu).1
      rw [← Go.Proofs.YtpnkifincadakaaGreatDoorW.PrintWords.add_add, h4 k (by omega)]
      exact hu
    · obtain ⟨i, rfl⟩ := List.mem_ofFn.1 hy
      obtain ⟨_, _, _, h⟩ := hF i
      exact h
theorem open_field {t : TypeId} {fs : Array Field} {xs : List (DataW H × List MemPlace)} {n : Nat} {cs : List Value} (ht : Tryz.prog.underlying t = some (.struct fs)) (hl : xs.length = fs.size) (hw : Wt t (.agg (xs.map (·.1))))
    (hg : ∀ (i : Nat) (f : Field), fs[i]? = some f → DataW.trod enc Tryz.prog W 0 sp held n f.type ((cs.drop f.offset).take (Tryz.prog.cellsOf f.type)) = xs[i]?) (i : Nat) (t' o c : Nat) (hf : (fs[i]?).map (fun f => (f.type, f.offset)) = some (t', o)) (hc : Tryz.prog.cellsOf t' = c) :
    ∃ x : DataW H × List MemPlace, DataW.trod enc Tryz.prog W 0 sp held n t' ((cs.drop o).take c) = some x ∧ Wt t' x.1 := by
  obtain ⟨f, hf1, hf2⟩ := Option.map_eq_some_iff.1 hf
  injection hf2 with e1 e2
  subst e1
  subst e2
  subst hc
  have hi : i < xs.length := by rw [hl]; exact (Array.getElem?_eq_some_iff.1 hf1).1
  refine ⟨xs[i], by rw [hg i f hf1, List.getElem?_eq_getElem hi], hw.struct ht i f _ hf1 ?_⟩
  rw [List.getElem?_map, List.getElem?_eq_getElem hi]
  rfl
theorem cells1 (t : TypeId) (h : t = 3 ∨ t = 4 ∨ t = 9 ∨ t = 24 ∨ t = 25 ∨ t = 26 ∨ t = 38 ∨ t = 65) : Tryz.prog.cellsOf t = 1 := by
  rcases h with rfl | rfl | rfl | rfl | rfl | rfl | rfl | rfl <;> kernel_rfl
theorem cells40 : Tryz.prog.cellsOf 40 = 6 := by kernel_rfl
theorem cells85 : Tryz.prog.cellsOf 85 = 2 := by kernel_rfl
theorem cells67 : Tryz.prog.cellsOf 67 = 2 := by kernel_rfl
theorem cells42' : Tryz.prog.cellsOf 42 = 8 := by kernel_rfl
theorem cells28 : Tryz.prog.cellsOf 28 = 4 := by kernel_rfl
theorem under38 : Tryz.prog.underlying 38 = some (.slice 40) := by kernel_rfl
theorem bytes40 : Tryz.prog.bytesOf 40 = 64 := by kernel_rfl
theorem bytes85 : Tryz.prog.bytesOf 85 = 16 := by kernel_rfl
theorem bytes67 : Tryz.prog.bytesOf 67 = 32 := by kernel_rfl
theorem bytes42 : Tryz.prog.bytesOf 42 = 88 := by kernel_rfl
theorem bytes9 : Tryz.prog.bytesOf 9 = 16 := by kernel_rfl
theorem open9 (n : Nat) (cs : List Value) (x : DataW H × List MemPlace) (h : DataW.trod enc Tryz.prog W 0 sp held n 9 cs = some x) (hw : Wt 9 x.1) : ∃ s : ByteArray, Kd.string.K W s cs ∧ s.size ≤ 140737488355328 := by
  obtain ⟨s, rfl, rfl, _⟩ := DataW.trod_string Tryz.underlying9 h
  refine ⟨s, rfl, ?_⟩
  have := hw s.data.toList.length (show _ ∈ [s.data.toList.length] from List.mem_singleton.2 rfl)
  have hr := reachBytes_lt
  have : s.data.toList.length = s.size := Array.length_toList
  omega
theorem open85 (n : Nat) (cs : List Value) (x : DataW H × List MemPlace) (h : DataW.trod enc Tryz.prog W 0 sp held n 85 cs = some x) (hw : Wt 85 x.1) : ∃ y : S85, k85.K W y cs ∧ True := by
  obtain ⟨xs, m, rfl, rfl, hl, hx, hg⟩ := DataW.trod_struct Tryz.underlying85 h
  rw [cells85] at hl
  match cs, hl with
  | [c0, c1], _ =>
    obtain ⟨y0, e0, _⟩ := open_field Tryz.underlying85 hx hw hg 0 3 0 1 rfl (cells1 3 (by simp))
    obtain ⟨y1, e1, _⟩ := open_field Tryz.underlying85 hx hw hg 1 3 1 1 rfl (cells1 3 (by simp))
    obtain ⟨i0, q0, _⟩ := DataW.trod_int Tryz.underlying3 e0
    obtain ⟨i1, q1, _⟩ := DataW.trod_int Tryz.underlying3 e1
    simp at q0 q1
    subst q0; subst q1
    exact ⟨⟨i0, i1⟩, k85_mk W ⟨i0, i1⟩, trivial⟩
theorem open65 (n : Nat) (cs : List Value) (x : DataW H × List MemPlace) (h : DataW.trod enc Tryz.prog W 0 sp held n 65 cs = some x) (hw : Wt 65 x.1) : ∃ A c, ∃ xs : List S85, cs = [.slice A xs.length c] ∧ xs.length ≤ c ∧ k85.C W A xs.length xs ∧ xs.length < 8796093022208 := by
  obtain ⟨A, c, xs, h1, h2, h3, h4, _⟩ := open_kd k85 (fun _ => True) Tryz.underlying65 cells85 n (fun m _ cs x => open85 m cs x) h hw
  rw [bytes85] at h4
  have hr := reachBytes_lt
  exact ⟨A, c, xs, h1, h2, h3, by omega⟩
theorem open67 (n : Nat) (cs : List Value) (x : DataW H × List MemPlace) (h : DataW.trod enc Tryz.prog W 0 sp held n 67 cs = some x) (hw : Wt 67 x.1) : ∃ y : S67, k67.K W y cs ∧ y.f1.length < 8796093022208 := by
  obtain ⟨xs, m, rfl, rfl, hl, hx, hg⟩ := DataW.trod_struct Tryz.underlying67 h
  rw [cells67] at hl
  match cs, hl with
  | [c0, c1], _ =>
    obtain ⟨y0, e0, _⟩ := open_field Tryz.underlying67 hx hw hg 0 3 0 1 rfl (cells1 3 (by simp))
    obtain ⟨y1, e1, w1⟩ := open_field Tryz.underlying67 hx hw hg 1 65 1 1 rfl (cells1 65 (by simp))
    obtain ⟨i0, q0, _⟩ := DataW.trod_int Tryz.underlying3 e0
    obtain ⟨A, c, ys, q1, l1, g1, b1⟩ := open65 _ _ _ e1 w1
    simp at q0 q1
    subst q0; subst q1
    exact ⟨⟨i0, ys⟩, k67_mk W ⟨i0, ys⟩ l1 g1, b1⟩
theorem limL_of : ∀ {l : List S40}, (∀ x, x ∈ l → limE x) → limL l
  | [], _ => by simp [limL]
  | x :: r, h => by
    simp only [limL]
    exact ⟨h x (List.mem_cons_self ..), limL_of fun y hy => h y (List.mem_cons_of_mem _ hy)⟩
theorem open40 (n : Nat) : ∀ (cs : List Value) (x : DataW H × List MemPlace), DataW.trod enc Tryz.prog W 0 sp held n 40 cs = some x → Wt 40 x.1 → ∃ y : S40, k40.K W y cs ∧ limE y := by
  induction n using Nat.strongRecOn with
  | _ n ih =>
    intro cs x h hw
    obtain ⟨xs, m, rfl, rfl, hl, hx, hg⟩ := DataW.trod_struct Tryz.underlying40 h
    rw [cells40] at hl
    match cs, hl with
    | [c0, c1, c2, c3, c4, c5], _ =>
      obtain ⟨y0, e0, _⟩ := open_field Tryz.underlying40 hx hw hg 0 3 0 1 rfl (cells1 3 (by simp))
      obtain ⟨y1, e1, _⟩ := open_field Tryz.underlying40 hx hw hg 1 3 1 1 rfl (cells1 3 (by simp))
      obtain ⟨y2, e2, _⟩ := open_field Tryz.underlying40 hx hw hg 2 3 2 1 rfl (cells1 3 (by simp))
      obtain ⟨y3, e3, _⟩ := open_field Tryz.underlying40 hx hw hg 3 3 3 1 rfl (cells1 3 (by simp))
      obtain ⟨y4, e4, _⟩ := open_field Tryz.underlying40 hx hw hg 4 3 4 1 rfl (cells1 3 (by simp))
      obtain ⟨y5, e5, w5⟩ := open_field Tryz.underlying40 hx hw hg 5 38 5 1 rfl (cells1 38 (by simp))
      obtain ⟨i0, q0, _⟩ := DataW.trod_int Tryz.underlying3 e0
      obtain ⟨i1, q1, _⟩ := DataW.trod_int Tryz.underlying3 e1
      obtain ⟨i2, q2, _⟩ := DataW.trod_int Tryz.underlying3 e2
      obtain ⟨i3, q3, _⟩ := DataW.trod_int Tryz.underlying3 e3
      obtain ⟨i4, q4, _⟩ := DataW.trod_int Tryz.underlying3 e4
      obtain ⟨A, c, ys, q5, l5, g5, b5, p5⟩ := open_kd k40 limE under38 cells40 m (fun k hk cs x => ih k (by omega) cs x) e5 w5
      simp at q0 q1 q2 q3 q4 q5
      subst q0; subst q1; subst q2; subst q3; subst q4; subst q5
      rw [bytes40] at b5
      have hr := reachBytes_lt
      refine ⟨⟨i0, i1, i2, i3, i4, ys⟩, k40_mk W ⟨i0, i1, i2, i3, i4, ys⟩ l5 g5, ?_⟩
      rw [limE_eq]
      exact ⟨by dsimp only; omega, limL_of p5⟩
theorem open42 (n : Nat) (cs : List Value) (x : DataW H × List MemPlace) (h : DataW.trod enc Tryz.prog W 0 sp held n 42 cs = some x) (hw : Wt 42 x.1) : ∃ y : S42, k42.K W y cs ∧ limE y.f2 := by
  obtain ⟨xs, m, rfl, rfl, hl, hx, hg⟩ := DataW.trod_struct Tryz.underlying42 h
  rw [cells42'] at hl
  match cs, hl with
  | [c0, c1, c2, c3, c4, c5, c6, c7], _ =>
    obtain ⟨y0, e0, w0⟩ := open_field Tryz.underlying42 hx hw hg 0 9 0 1 rfl (cells1 9 (by simp))
    obtain ⟨y1, e1, _⟩ := open_field Tryz.underlying42 hx hw hg 1 4 1 1 rfl (cells1 4 (by simp))
    obtain ⟨y2, e2, w2⟩ := open_field Tryz.underlying42 hx hw hg 2 40 2 6 rfl cells40
    obtain ⟨s, q0, _⟩ := DataW.trod_string Tryz.underlying9 e0
    obtain ⟨b, q1, _⟩ := DataW.trod_bool Tryz.underlying4 e1
    obtain ⟨e, hK, hlim⟩ := open40 _ _ _ e2 w2
    obtain ⟨A, c, q2, l5, g5⟩ := k40_open hK
    simp at q0 q1 q2
    obtain ⟨rfl, rfl, rfl, rfl, rfl, rfl⟩ := q2
    subst q0; subst q1
    exact ⟨⟨s, b, e⟩, k42_mk W ⟨s, b, e⟩ l5 g5, hlim⟩
def Spk (W : World) (s : S28) (cs : List Value) : Prop :=
  ∃ A0 A1 A3 c0 c1 c3, cs = [.slice A0 s.lex.length c0, .slice A1 s.names.length c1, .int .i64 s.start, .slice A3 s.prods.length c3] ∧
    k42.C W A0 s.lex.length s.lex ∧ Kd.string.C W A1 s.names.length s.names ∧ k67.C W A3 s.prods.length s.prods ∧ s.lex.length ≤ c0 ∧ s.names.length ≤ c1 ∧ s.prods.length ≤ c3
theorem open28 (n : Nat) (cs : List Value) (x : DataW H × List MemPlace) (h : DataW.trod enc Tryz.prog W 0 sp held n 28 cs = some x) (hw : Wt 28 x.1) : ∃ s : S28, Spk W s cs ∧ Lim s := by
  obtain ⟨xs, m, rfl, rfl, hl, hx, hg⟩ := DataW.trod_struct Tryz.underlying28 h
  rw [cells28] at hl
  match cs, hl with
  | [a0, a1, a2, a3], _ =>
    obtain ⟨y0, e0, w0⟩ := open_field Tryz.underlying28 hx hw hg 0 24 0 1 rfl (cells1 24 (by simp))
    obtain ⟨y1, e1, w1⟩ := open_field Tryz.underlying28 hx hw hg 1 25 1 1 rfl (cells1 25 (by simp))
    obtain ⟨y2, e2, _⟩ := open_field Tryz.underlying28 hx hw hg 2 3 2 1 rfl (cells1 3 (by simp))
    obtain ⟨y3, e3, w3⟩ := open_field Tryz.underlying28 hx hw hg 3 26 3 1 rfl (cells1 26 (by simp))
    obtain ⟨A0, c0, lex, q0, l0, g0, b0, p0⟩ := open_kd k42 (fun y => limE y.f2) Tryz.underlying24 cells42' m (fun k _ cs x => open42 k cs x) e0 w0
    obtain ⟨A1, c1, names, q1, l1, g1, b1, p1⟩ := open_kd Kd.string (fun s => s.size ≤ 140737488355328) Tryz.underlying25 (cells1 9 (by simp)) m (fun k _ cs x => open9 k cs x) e1 w1
    obtain ⟨i2, q2, _⟩ := DataW.trod_int Tryz.underlying3 e2
    obtain ⟨A3, c3, prods, q3, l3, g3, b3, p3⟩ := open_kd k67 (fun y => y.f1.length < 8796093022208) Tryz.underlying26 cells67 m (fun k _ cs x => open67 k cs x) e3 w3
    simp at q0 q1 q2 q3
    subst q0; subst q1; subst q2; subst q3
    rw [bytes42] at b0
    rw [bytes9] at b1
    rw [bytes67] at b3
    have hr : reachBytes = 140737488351232 := by decide
    exact ⟨⟨lex, names, i2, prods⟩, ⟨A0, A1, A3, c0, c1, c3, rfl, g0, g1, g3, l0, l1, l3⟩, ⟨by dsimp only; omega, by dsimp only; omega, by dsimp only; omega, p3, p0, p1⟩⟩
end
end Go.Proofs.YtpnkifincadakaaGreatDoor.Wr
end
section
set_option maxRecDepth 100000
namespace Go.Proofs.YtpnkifincadakaaGreatDoor.Wr
open Go.RowKit Go.Pk Go.ChangeShapes Go.WideShapes
open Go.Am (tabV tabI)
abbrev laid4 : List (String × DataW Unit) := [("math/bits.deBruijn32tab", Rows.laid_math_bits_deBruijn32tab), ("math/bits.deBruijn64tab", Rows.laid_math_bits_deBruijn64tab), ("internal/strconv.uint64pow10", Rows.laid_internal_strconv_uint64pow10), ("graft/pack.table", Rows.laid_graft_pack_table)]
theorem globTab : Tryz.prog.globalNamed "graft/pack.table" = some 0 := by kernel_rfl
theorem globTabType : (Tryz.prog.globals[0]?).map (·.type) = some 263 := by kernel_rfl
theorem globCount : Tryz.prog.globals.size = 5 := by kernel_rfl
theorem cells129 : Tryz.prog.cellsOf 129 = 1 := by kernel_rfl
theorem cells263 : Tryz.prog.cellsOf 263 = 16 := by kernel_rfl
theorem under129 : Tryz.prog.underlying 129 = some (.int .u32) := by kernel_rfl
theorem laidTab : (Rows.laid_graft_pack_table : DataW Unit) = .agg (tabI.map fun n => .lit (.int .u32 n)) := by kernel_rfl
theorem row0 : ((((begin Tryz.prog (fun _ _ => 0) default).world.heap[0]?).bind Obj.row?).map (·.2)) = some 263 := by kernel_rfl
theorem row4 : ((((begin Tryz.prog (fun _ _ => 0) default).world.heap[4]?).bind Obj.row?).isSome) = true := by kernel_rfl
theorem tab_cells {W : World} {fuel : Nat} {cs : Array Value} {p : List MemPlace} (hd : DataW.trod (fun _ => ()) Tryz.prog W 0 (fun _ => true) false fuel 263 cs.toList = some (Rows.laid_graft_pack_table, p)) : cs = tabV.toArray := by
  obtain ⟨l⟩ := cs
  cases fuel with
  | zero => simp [DataW.trod] at hd
  | succ n =>
    rw [laidTab] at hd
    unfold DataW.trod at hd
    rw [Tryz.underlying263] at hd
    dsimp only at hd
    split at hd
    · rename_i hl
      rw [cells263] at hl
      obtain ⟨xs, hx, hxe⟩ := Option.map_eq_some_iff.1 hd
      have hxl := mapM_some_length hx
      rw [List.length_range] at hxl
      injection hxe with hx1 _
      injection hx1 with hx1
      have key : l = tabV := by
        apply List.ext_getElem?
        intro i
        by_cases hi : i < 16
        · have hg := mapM_some_get hx i i (by simp [hi])
          rw [cells129, Nat.mul_one, List.getElem?_eq_getElem (by omega), List.drop_eq_getElem_cons (by omega)] at hg
          obtain ⟨v, q, e, _⟩ := DataW.trod_int under129 hg
          injection (show [l[i]] = [Value.int .u32 v] from q) with q
          have h2 : (xs.map (·.1))[i]? = (tabI.map fun n => DataW.lit (H := Unit) (.int .u32 n))[i]? := by rw [hx1]
          rw [List.getElem?_map, List.getElem?_map, List.getElem?_eq_getElem (by omega), e] at h2
          have hti : i < tabI.length := by show i < 16; exact hi
          rw [List.getElem?_eq_getElem hti] at h2
          simp at h2
          unfold tabV
          rw [List.getElem?_map, List.getElem?_eq_getElem hti, List.getElem?_eq_getElem (by omega), q, h2]
          rfl
        · rw [List.getElem?_eq_none (by omega), List.getElem?_eq_none (by show 16 ≤ i; omega)]
      rw [key]
    · cases hd
theorem tab_laid {W : World} (h : laidMet Tryz.prog laid4 W) (hs : W.ShapedOpen Tryz.prog) : W.heap[0]? = some (.cells tabV.toArray 263 (0, 0)) ∧ 5 ≤ W.heap.size := by
  obtain ⟨z, hz, h0⟩ := Option.map_eq_some_iff.1 row0
  obtain ⟨zero, t⟩ := z
  dsimp only at h0
  subst h0
  obtain ⟨cs, hcs, _, _⟩ := hs.1 0 zero _ (by rw [globCount]; omega) hz
  obtain ⟨z4, hz4⟩ := Option.isSome_iff_exists.1 row4
  obtain ⟨cs4, hcs4, _, _⟩ := hs.1 4 z4.1 z4.2 (by rw [globCount]; omega) hz4
  refine ⟨?_, by have := (Array.getElem?_eq_some_iff.1 hcs4).1; omega⟩
  obtain ⟨ps, ⟨_, _, _, _, _, _, _, _, _, _, ⟨_, _, _, _, _, _, _, _, _, _, ⟨_, _, _, _, _, _, _, _, _, _, ⟨g, t, cs', fuel, p, q, hg, ht, hvar, hd, _, _⟩, _⟩, _⟩, _⟩, _⟩ := h
  obtain rfl := Option.some.inj (globTab.symm.trans hg)
  obtain rfl := Option.some.inj (globTabType.symm.trans ht)
  have e := tab_cells hd
  subst e
  rw [hcs]
  have hv : W.var? Tryz.prog "graft/pack.table" = some cs := by
    unfold World.var?
    rw [globTab]
    simp only [Option.bind_some, hcs]
  rw [hv] at hvar
  injection hvar with hvar
  rw [hvar]
end Go.Proofs.YtpnkifincadakaaGreatDoor.Wr
end
section
set_option maxRecDepth 100000
namespace Go.Proofs.YtpnkifincadakaaGreatDoor.Wr
open Go.RowKit Go.Pk Go.ChangeShapes Go.WideShapes
open Go.Am (tabV tabI)
def litCells : DataW Unit → Array Value
  | .agg l => (l.map fun d => match d with
    | .lit (.int k n) => Value.int k n
    | _ => .int .u8 0).toArray
  | _ => #[]
def layOne (g : Nat) (d : DataW Unit) (h : Array Obj) : Array Obj := h.modify g fun o => match o with
  | .cells _ t frozen => .cells (litCells d) t frozen
  | o => o
noncomputable def laidWorld (os : Os) : World :=
  { World.holding Tryz.prog os ⟨#[], #[], []⟩ with heap := layOne 0 Rows.laid_graft_pack_table (layOne 2 Rows.laid_internal_strconv_uint64pow10 (layOne 3 Rows.laid_math_bits_deBruijn32tab (layOne 4 Rows.laid_math_bits_deBruijn64tab (World.holding Tryz.prog os ⟨#[], #[], []⟩).heap))) }
noncomputable def tOf (g : Nat) : TypeId := ((Tryz.prog.globals[g]?).map (·.type)).getD 0
theorem laidRow0 (os : Os) (args : Array Value) : ((laidWorld os).forCall (fun _ _ => 0) ⟨#[], args, []⟩).memory.heap[0]? = some (.cells (litCells Rows.laid_graft_pack_table) (tOf 0) (0, 0)) := by kernel_rfl
theorem laidRow2 (os : Os) (args : Array Value) : ((laidWorld os).forCall (fun _ _ => 0) ⟨#[], args, []⟩).memory.heap[2]? = some (.cells (litCells Rows.laid_internal_strconv_uint64pow10) (tOf 2) (0, 0)) := by kernel_rfl
theorem laidRow3 (os : Os) (args : Array Value) : ((laidWorld os).forCall (fun _ _ => 0) ⟨#[], args, []⟩).memory.heap[3]? = some (.cells (litCells Rows.laid_math_bits_deBruijn32tab) (tOf 3) (0, 0)) := by kernel_rfl
theorem laidRow4 (os : Os) (args : Array Value) : ((laidWorld os).forCall (fun _ _ => 0) ⟨#[], args, []⟩).memory.heap[4]? = some (.cells (litCells Rows.laid_math_bits_deBruijn64tab) (tOf 4) (0, 0)) := by kernel_rfl
def allInts (cs : Array Value) : Bool := cs.toList.all fun v => match v with
  | .int _ _ => true
  | _ => false
theorem noIface {cs : Array Value} (h : allInts cs = true) {j : Nat} {t : TypeId} {v : Value} (hj : cs[j]? = some (.iface t v)) : False := by
  have hm : Value.iface t v ∈ cs.toList := by
    rw [← Array.getElem?_toList] at hj
    exact List.mem_of_getElem? hj
  have := List.all_eq_true.1 h _ hm
  simp at this
theorem mem_row {b off g n : Nat} (h : MemPlace.cell b off ∈ MemPlace.row ⟨g, 0, none⟩ n) : b = g := by
  unfold MemPlace.row at h
  obtain ⟨i, _, e⟩ := List.mem_map.1 h
  injection e with e _
  exact e.symm
theorem row_ok {W : World} {g : Nat} {cs : Array Value} {t : TypeId} (h : W.heap[g]? = some (.cells cs t (0, 0))) (hi : allInts cs = true) (off : Nat) : (∃ c t, W.heap[g]? = some (.cells c t (0, 0))) ∧ ∀ u v, W.cell? ⟨g, off, none⟩ = some (.iface u v) → Value.okWide Tryz.prog W .any 0 u v :=
  ⟨⟨_, _, h⟩, fun u v hc => by
    have : W.cell? ⟨g, off, none⟩ = cs[off]? := by simp [World.cell?, h]
    rw [this] at hc
    exact (noIface hi hc).elim⟩
theorem laidWorld_met (os : Os) (args : Array Value) : laidMet Tryz.prog laid4 ((laidWorld os).forCall (fun _ _ => 0) ⟨#[], args, []⟩).memory :=
  ⟨_, ⟨3, tOf 3, litCells Rows.laid_math_bits_deBruijn32tab, 8, [], _, by kernel_rfl, by kernel_rfl, by kernel_rfl, by kernel_rfl,
    ⟨4, tOf 4, litCells Rows.laid_math_bits_deBruijn64tab, 8, [], _, by kernel_rfl, by kernel_rfl, by kernel_rfl, by kernel_rfl,
      ⟨2, tOf 2, litCells Rows.laid_internal_strconv_uint64pow10, 8, [], _, by kernel_rfl, by kernel_rfl, by kernel_rfl, by kernel_rfl,
        ⟨0, tOf 0, litCells Rows.laid_graft_pack_table, 8, [], [], by kernel_rfl, by kernel_rfl, by kernel_rfl, by kernel_rfl, rfl, rfl⟩, rfl⟩, rfl⟩, rfl⟩, of_decide_eq_true (by kernel_rfl), fun b off h => by
    simp only [List.append_nil, List.mem_append] at h
    rcases h with h | h | h | h
    · obtain rfl := mem_row h
      exact row_ok (laidRow3 os args) (by kernel_rfl) off
    · obtain rfl := mem_row h
      exact row_ok (laidRow4 os args) (by kernel_rfl) off
    · obtain rfl := mem_row h
      exact row_ok (laidRow2 os args) (by kernel_rfl) off
    · obtain rfl := mem_row h
      exact row_ok (laidRow0 os args) (by kernel_rfl) off⟩
end Go.Proofs.YtpnkifincadakaaGreatDoor.Wr
end
section
namespace Go.Proofs.YtpnkifincadakaaGreatDoor.Wr
open Go.ChangeShapes Go.WideShapes Go.ChangeAt Go.RowKit
open Go.Pk Go.Proofs.YtpnkifincadakaaGreatDoorW.PrintWords Go.Proofs.YtpnkifincadakaaGreatDoor.PPackSpecs
theorem own : ownKnob Tryz.prog.godebug = none := by kernel_rfl
theorem laidOut : laidOutB Tryz.prog = true := by kernel_rfl
theorem handed_shaped {H : Type} {enc : TypeId × Value → H} {C : Checked} {os : Os} {f : FuncId} {fn : Func} {s : ChangeSpec} {conds : List PathCond} {apart fresh handsOn again : Bool} {X : World → Array Value → Prop}
    (hX : ∀ (w w' : World) (args : Array Value), w.heap = w'.heap → X w args → X w' args)
    (own : ownKnob C.prog.godebug = none) (started : os.Started) (noInit : C.prog.inits.idxOf? f = none) (hfn : C.prog.funcs[f]? = some fn)
    (witness : ∃ (w : World) (tape : Tape) (i : Input), w.os = os ∧ (w.forCall tape i).Shaped C.prog ∧ i.vars = [] ∧ Input.okWide C.prog (w.forCall tape i) .any w.heap.size f i ∧
      ((s.pre enc C.prog fn conds apart (w.forCall tape i).memory i.args ∧ X (w.forCall tape i).memory i.args) ∧ sizedMet enc C.prog fn (OpenSpec.ofChange s) apart (w.forCall tape i).memory i.args) ∧ ({} : Assume).holds C.prog (lone (Frame.enter C.prog f i.args .normal) [] (w.forCall tape i)))
    (contract : ∀ (W : World) (base : Nat) (args : Array Value) (ds gs : List (DataW H)) (before : List MemPlace),
      (∀ (j : Nat) t v, fn.params[j]? = some t → args[j]? = some v → Value.okWide C.prog W .any base t v) →
      DataW.Whole enc C.prog fn.params.toList s.vars apart W args.toList ds gs before →
      (DataW.weightsEach C.prog (fn.params.toList ++ s.plain.varTypes C.prog) (ds ++ gs)).all (· ≤ reachBytes) = true → X W args → W.ShapedOpen C.prog →
      Calls C.prog f args W fun e W' => ∃ v, e = .returned v ∧ s.post enc C.prog fn apart fresh handsOn again W args v W') :
    ReturnsInHanded {} C os f .any (fun w args => (s.pre enc C.prog fn conds apart w args ∧ X w args) ∧ sizedMet enc C.prog fn (OpenSpec.ofChange s) apart w args) (s.post enc C.prog fn apart fresh handsOn again) := by
  refine returnsInHanded_of_calls own started noInit witness ?_
  intro w tape i _ hshape _ hok hpre _
  obtain ⟨_, _, _, fn', hfn', _, _, _, _, hval⟩ := hok
  have e : fn' = fn := Option.some.inj (hfn'.symm.trans hfn)
  subst e
  obtain ⟨⟨⟨ds, gs, before, hw, hc⟩, hx⟩, hz⟩ := hpre
  have hw' := DataW.Whole.of_heap (w' := w.forCall tape i) (by rfl) hw
  refine (contract (w.forCall tape i) w.heap.size i.args ds gs before hval hw' (hz.weights hw) (hX _ _ _ (by rfl) hx) hshape).mono fun e W' ⟨v, he, hp⟩ => ?_
  subst he
  exact ChangeSpec.post_blind hp
end Go.Proofs.YtpnkifincadakaaGreatDoor.Wr
end
section
namespace Go.Proofs.YtpnkifincadakaaGreatDoor.Wr
open Go.RowKit Go.Pk Go.Proofs.YtpnkifincadakaaGreatDoorW.PrintWords Go.Proofs.YtpnkifincadakaaGreatDoor.PPackSpecs
structure Mv (g : Nat) (w w' : World) : Prop where
  keep : ∀ k, k < w.heap.size → k ≠ g → w'.heap[k]? = w.heap[k]?
  size : w.heap.size ≤ w'.heap.size
  below : Below g w w'
theorem Mv.refl (g : Nat) (w : World) : Mv g w w := ⟨fun _ _ _ => rfl, Nat.le_refl _, Below.refl _ _⟩
theorem Mv.trans {g : Nat} {a b c : World} (h : Mv g a b) (k : Mv g b c) : Mv g a c := ⟨fun i hi hne => (k.keep i (Nat.lt_of_lt_of_le hi h.size) hne).trans (h.keep i hi hne), Nat.le_trans h.size k.size, h.below.trans k.below⟩
theorem Mv.of_below {g : Nat} {w w' : World} (h : Below w.heap.size w w') (hg : g ≤ w.heap.size) : Mv g w w' := ⟨fun k hk _ => h.block k hk, h.size, h.mono hg⟩
structure RS (g q cb : Nat) (bs : List Int) (at_ rules names : Nat) (w : World) : Prop where
  box : w.heap[g]? = some (.cells #[.slice (some ⟨q, 0, none⟩) bs.length cb, .int .i64 at_, .int .i64 rules, .int .i64 names] 90 (0, 0))
  row : ∃ cells, w.heap[q]? = some (.cells cells 5 (0, 0)) ∧ ∀ (i : Nat) (b : Int), bs[i]? = some b → cells[i]? = some (.int .u8 b)
  cap : bs.length ≤ cb ∧ cb ≤ 9223372036854775807
  pos : at_ ≤ bs.length
  byt : ∀ b, b ∈ bs → 0 ≤ b ∧ b < 256
theorem RS.ne {g q cb : Nat} {bs : List Int} {a r n : Nat} {w : World} (h : RS g q cb bs a r n w) : q ≠ g := fun e => by
  obtain ⟨cells, hc, _⟩ := h.row
  rw [e, h.box] at hc
  injection hc with hc
  injection hc with _ hc
  exact absurd hc (by decide)
theorem RS.glt {g q cb : Nat} {bs : List Int} {a r n : Nat} {w : World} (h : RS g q cb bs a r n w) : g < w.heap.size := blk_lt h.box
theorem RS.qlt {g q cb : Nat} {bs : List Int} {a r n : Nat} {w : World} (h : RS g q cb bs a r n w) : q < w.heap.size := by obtain ⟨_, hc, _⟩ := h.row; exact blk_lt hc
theorem RS.byte {g q cb : Nat} {bs : List Int} {a r n : Nat} {w : World} (h : RS g q cb bs a r n w) (i : Nat) (hi : i < bs.length) : w.cell? ⟨q, i, none⟩ = some (.int .u8 bs[i]) := by
  obtain ⟨cells, hc, hr⟩ := h.row
  exact (blk_cell hc i).trans (hr i _ (List.getElem?_eq_getElem hi))
theorem RS.below {g q cb : Nat} {bs : List Int} {a r n : Nat} {w w' : World} (h : RS g q cb bs a r n w) (k : Below w.heap.size w w') : RS g q cb bs a r n w' := by
  obtain ⟨cells, hc, hr⟩ := h.row
  exact ⟨(k.block _ h.glt).trans h.box, ⟨cells, (k.block _ (blk_lt hc)).trans hc, hr⟩, h.cap, h.pos, h.byt⟩
theorem RS.set {g q cb : Nat} {bs : List Int} {a r n : Nat} {w : World} (h : RS g q cb bs a r n w) (j : Nat) (v : Value) (a' r' n' : Nat) (ha : a' ≤ bs.length)
    (e : (#[.slice (some ⟨q, 0, none⟩) bs.length cb, .int .i64 a, .int .i64 r, .int .i64 n] : Array Value).setIfInBounds j v = #[.slice (some ⟨q, 0, none⟩) bs.length cb, .int .i64 a', .int .i64 r', .int .i64 n']) :
    RS g q cb bs a' r' n' (w.setCell ⟨g, j, none⟩ v) ∧ Mv g w (w.setCell ⟨g, j, none⟩ v) := by
  obtain ⟨cells, hc, hr⟩ := h.row
  have hne := h.ne
  refine ⟨⟨?_, ⟨cells, ?_, hr⟩, h.cap, ha, h.byt⟩, ⟨fun k hk hkg => ?_, ?_, ?_⟩⟩
  · rw [blk_set h.box j v, e]
  · rw [Below.heap_setCell _ _ _ _ (by simpa using hne)]; exact hc
  · rw [Below.heap_setCell _ _ _ _ (by simpa using hkg)]
  · simp
  · exact (Below.refl g w).setCell (p := ⟨g, j, none⟩) (Nat.le_refl _) v
set_option maxHeartbeats 8000000 in
set_option maxRecDepth 100000 in
theorem take149 (g q cb : Nat) (bs : List Int) (a r n m : Nat) (w : World) (h : RS g q cb bs a r n w) (hm : a + m ≤ bs.length) (ha : a < bs.length) :
    Calls Tryz.prog 149 #[.pointer (some ⟨g, 0, none⟩), .int .i64 m] w fun e w' => e = .returned (.slice (some ⟨q, a, none⟩) m (cb - a)) ∧ RS g q cb bs (a + m) r n w' ∧ Mv g w w' := by
  have hl := h.cap.1
  have hc := h.cap.2
  have H := Aside0.mk h
  have c0 : w.cell? ⟨g, 0, none⟩ = some (.slice (some ⟨q, 0, none⟩) bs.length cb) := (blk_cell h.box 0).trans rfl
  have c1 : w.cell? ⟨g, 1, none⟩ = some (.int .i64 a) := (blk_cell h.box 1).trans rfl
  have f1 : w.frozen? ⟨g, 1, none⟩ = false := blk_frozen h.box 1
  clear h
  have hca : ¬ cb = a := by omega
  have hb : decide ((bs.length : Int) - (a : Int) < (m : Int)) = false := decide_eq_false (by omega)
  go_enter Tryz.func149, Tryz.ntmps149
  go_wp2_with fail
  go_quiet (fail)
  obtain ⟨nq0, rfl⟩ : ∃ k, k = nq := ⟨_, rfl⟩
  go_wp2_with fail
  go_quiet (fail)
  obtain ⟨nq1, rfl⟩ : ∃ k, k = nq := ⟨_, rfl⟩
  go_wp2
  go_ret
  have h1 := H.out.below (pw_below_drewN (Below.refl _ w) nq0)
  obtain ⟨h2, h3⟩ := h1.set 1 (.int .i64 (a + m)) (a + m) r n hm rfl
  have h4 := h2.below (pw_below_drewN (Below.refl _ _) nq1)
  exact ⟨(show Ending.returned (.slice (some ⟨q, a, none⟩) (a + m - a) (cb - a)) = _ by rw [Nat.add_sub_cancel_left]), h4, ((Mv.of_below (pw_below_drewN (Below.refl _ w) nq0) (Nat.le_of_lt H.out.glt)).trans h3).trans (Mv.of_below (pw_below_drewN (Below.refl _ _) nq1) (Nat.le_of_lt h2.glt))⟩
end Go.Proofs.YtpnkifincadakaaGreatDoor.Wr
end
section
namespace Go.Proofs.YtpnkifincadakaaGreatDoor.Wr
open Go.RowKit Go.Pk Go.Proofs.YtpnkifincadakaaGreatDoorW.PrintWords Go.Proofs.YtpnkifincadakaaGreatDoor.PPackSpecs
def leN : List Int → Int | [] => 0 | b :: r => b + 256 * leN r
theorem or_low (i : Nat) (y x : Int) (hy0 : 0 ≤ y) (hy : y < 2 ^ i) (hi : i ≤ 63) (hx0 : 0 ≤ x) (hx : x % 2 ^ i = 0) (hx1 : x < 2 ^ 63) : bits .or .i64 y x = y + x := by
  have hc : bits .or .i64 y x = bits .or .i64 x y := by simp only [bits, BitVec.or_comm]
  have hp : (2 : Int) ^ i ≤ 2 ^ 63 := by
    have := Nat.pow_le_pow_right (n := 2) (by decide) hi
    exact_mod_cast this
  rw [hc, bits_join .i64 63 (by decide) (fun n h0 h1 => by rw [IntKind.wrap_i64]; omega) i x y hx0 hx hx1 hy0 hy (by omega)]
  omega
theorem leN_snoc : ∀ (l : List Int) (b : Int), leN (l ++ [b]) = leN l + b * 256 ^ l.length
  | [], b => by simp [leN]
  | a :: l, b => by
    simp only [List.cons_append, leN, leN_snoc l b, List.length_cons]
    rw [Int.pow_succ, Int.mul_add, Int.mul_left_comm 256 b, Int.mul_comm 256 (256 ^ l.length), Int.add_assoc]
theorem leN_bound : ∀ (l : List Int), (∀ b, b ∈ l → 0 ≤ b ∧ b < 256) → 0 ≤ leN l ∧ leN l < 256 ^ l.length
  | [], _ => by simp [leN]
  | a :: l, h => by
    have h1 := h a (by simp)
    have h2 := leN_bound l fun b hb => h b (by simp [hb])
    simp only [leN, List.length_cons, Int.pow_succ]
    omega
set_option maxHeartbeats 16000000 in
set_option maxRecDepth 100000 in
theorem number151 (g q cb : Nat) (bs : List Int) (a r n m : Nat) (w : World) (h : RS g q cb bs a r n w) (hm : m ≤ 4) (ham : a + m ≤ bs.length) (ha : a < bs.length) :
    Calls Tryz.prog 151 #[.pointer (some ⟨g, 0, none⟩), .int .i64 m] w fun e w' => e = .returned (.tuple #[.int .i64 (leN ((bs.drop a).take m)), .int .i64 a]) ∧ RS g q cb bs (a + m) r n w' ∧ Mv g w w' := by
  have c1 : w.cell? ⟨g, 1, none⟩ = some (.int .i64 a) := (blk_cell h.box 1).trans rfl
  have hl := h.cap.1
  have hc := h.cap.2
  have HT := Aside0.mk (take149 g q cb bs a r n m w h ham ha)
  have hlen : ((bs.drop a).take m).length = m := by rw [List.length_take, List.length_drop]; omega
  have HLEN := Aside0.mk hlen
  have HBY := Aside0.mk h.byt
  have HEL : Aside0 (∀ k, k < m → ((bs.drop a).take m)[k]? = bs[a + k]?) := ⟨fun k hk => by rw [List.getElem?_take_of_lt hk, List.getElem?_drop]⟩
  clear h hlen
  obtain ⟨L, hL⟩ : ∃ L, L = (bs.drop a).take m := ⟨_, rfl⟩
  rw [← hL] at HLEN HEL ⊢
  have HIN : Aside0 (∀ b, b ∈ L → 0 ≤ b ∧ b < 256) := ⟨fun b hb => HBY.out b (List.mem_of_mem_drop (List.mem_of_mem_take (hL ▸ hb)))⟩
  clear hL
  go_enter Tryz.func151, Tryz.ntmps151
  go_wp2_with (go_at_call 149; refine HT.out.mono ?_)
  rintro e w1 ⟨rfl, h1, h2⟩
  have HR := Aside0.mk h1
  have HM := Aside0.mk h2
  clear h1 h2
  go_wp2
  go_loopw [4, 16] (fun v i wr => ∃ k : Nat, k ≤ m ∧ v = .int .i64 (leN (L.take k)) ∧ i = .int .i64 k ∧ wr = w1) (fun _ i _ => m - (intOf i).toNat)
  case atStart => exact ⟨0, Nat.zero_le _, rfl, rfl, rfl⟩
  case round =>
    obtain ⟨k, hk, rfl, rfl, rfl⟩ := hrel
    by_cases hlt : k < m
    · have hkl : k < L.length := by rw [HLEN.out]; exact hlt
      have hb := HIN.out _ (List.getElem_mem hkl)
      have hcell : wr.cell? ⟨q, a + k, none⟩ = some (.int .u8 L[k]) := by
        have hh := HEL.out k hlt
        rw [List.getElem?_eq_getElem hkl, List.getElem?_eq_getElem (by omega)] at hh
        injection hh with hh
        rw [hh]
        exact HR.out.byte (a + k) (by omega)
      have hsn : leN (L.take (k + 1)) = leN (L.take k) + L[k] * 256 ^ k := by
        rw [List.take_succ_eq_append_getElem hkl, leN_snoc, List.length_take, Nat.min_eq_left (by omega)]
      have hbd := leN_bound (L.take k) fun b hb => HIN.out b (List.mem_of_mem_take hb)
      rw [List.length_take, Nat.min_eq_left (by omega)] at hbd
      obtain ⟨hv0, hv1⟩ := hbd
      have HSN := Aside0.mk hsn
      clear hsn
      generalize L[k] = b at *
      generalize hv : leN (L.take k) = v at *
      have HV := Aside0.mk hv
      clear hv
      obtain ⟨hb0, hb1⟩ := hb
      have hk4 : k = 0 ∨ k = 1 ∨ k = 2 ∨ k = 3 := by omega
      rcases hk4 with rfl | rfl | rfl | rfl
      · have o := or_low 0 v b hv0 (by simpa using hv1) (by omega) hb0 (by omega) (by omega)
        rw [Nat.add_zero] at hcell
        go_wp2
        go_roundw
        case rel => exact ⟨1, by omega, congrArg (Value.int .i64) (show v + b = _ by rw [HSN.out]; simp), by go_num, trivial⟩
        case measure => simp [intOf]; omega
      · have o := or_low 8 v (b * 256) hv0 (by simpa using hv1) (by omega) (by omega) (by omega) (by omega)
        go_wp2
        go_roundw
        case rel => exact ⟨2, by omega, congrArg (Value.int .i64) (show v + b * 256 = _ by rw [HSN.out]; simp), by go_num, trivial⟩
        case measure => simp [intOf]; omega
      · have o := or_low 16 v (b * 65536) hv0 (by simpa using hv1) (by omega) (by omega) (by omega) (by omega)
        go_wp2
        go_roundw
        case rel => exact ⟨3, by omega, congrArg (Value.int .i64) (show v + b * 65536 = _ by rw [HSN.out]; simp), by go_num, trivial⟩
        case measure => simp [intOf]; omega
      · have o := or_low 24 v (b * 16777216) hv0 (by simpa using hv1) (by omega) (by omega) (by omega) (by omega)
        go_wp2
        go_roundw
        case rel => exact ⟨4, by omega, congrArg (Value.int .i64) (show v + b * 16777216 = _ by rw [HSN.out]; simp), by go_num, trivial⟩
        case measure => simp [intOf]; omega
    · obtain rfl : k = m := by omega
      have hT : L.take k = L := List.take_of_length_le (by rw [HLEN.out]; exact Nat.le_refl _)
      rw [hT]
      clear hT
      go_wp2
      go_ret2
      exact ⟨rfl, HR.out, HM.out⟩
end Go.Proofs.YtpnkifincadakaaGreatDoor.Wr
end
section
namespace Go.Proofs.YtpnkifincadakaaGreatDoor.Wr
open Go.RowKit Go.Pk Go.Proofs.YtpnkifincadakaaGreatDoorW.PrintWords Go.Proofs.YtpnkifincadakaaGreatDoor.PPackSpecs
set_option maxHeartbeats 8000000 in
set_option maxRecDepth 100000 in
theorem upto85 (g q cb : Nat) (bs : List Int) (a r n m : Nat) (mo v : Int) (w : World) (h : RS g q cb bs a r n w) (hm : m ≤ 4) (ham : a + m ≤ bs.length) (ha : a < bs.length) (hv : leN ((bs.drop a).take m) = v) (hle : v ≤ mo) :
    Calls Tryz.prog 85 #[.pointer (some ⟨g, 0, none⟩), .int .i64 m, .int .i64 mo] w fun e w' => e = .returned (.int .i64 v) ∧ RS g q cb bs (a + m) r n w' ∧ Mv g w w' := by
  have HN := Aside0.mk (number151 g q cb bs a r n m w h hm ham ha)
  rw [hv] at HN
  clear h hv
  have hle' : decide (mo < v) = false := decide_eq_false (by omega)
  go_enter Tryz.func85, Tryz.ntmps85
  go_wp2_with (go_at_call 151; refine HN.out.mono ?_)
  first | rintro e w1 rfl h1 h2 | rintro e w1 ⟨rfl, h1, h2⟩
  have HR := Aside0.mk h1
  have HM := Aside0.mk h2
  clear h1 h2
  go_wp2
  go_ret
  exact ⟨rfl, HR.out, HM.out⟩
set_option maxHeartbeats 8000000 in
set_option maxRecDepth 100000 in
theorem magic84 (g q cb : Nat) (bs : List Int) (a r n : Nat) (s : ByteArray) (w : World) (h : RS g q cb bs a r n w) (hs : s.size ≤ 8) (ham : a + s.size < bs.length) (heq : ∀ i (hi : i < s.size), bs[a + i]? = some ((s[i]'hi).toNat : Int)) :
    Calls Tryz.prog 84 #[.pointer (some ⟨g, 0, none⟩), .string s] w fun e w' => e = .returned (.tuple #[]) ∧ RS g q cb bs (a + s.size) r n w' ∧ Mv g w w' := by
  have H := Aside0.mk h
  have HE := Aside0.mk heq
  clear h heq
  go_enter Tryz.func84, Tryz.ntmps84
  go_wp2
  go_loopw [8] (fun i wr => ∃ k : Nat, k ≤ s.size ∧ i = .int .i64 k ∧ Aside0 (RS g q cb bs (a + k) r n wr) ∧ Aside0 (Mv g w wr)) (fun i _ => s.size - (intOf i).toNat)
  case atStart => exact ⟨0, Nat.zero_le _, rfl, H, ⟨Mv.refl _ _⟩⟩
  case round =>
    obtain ⟨k, hk, rfl, hR, hM⟩ := hrel
    by_cases hlt : k < s.size
    · have c1 : wr.cell? ⟨g, 1, none⟩ = some (.int .i64 (a + k : Nat)) := (blk_cell hR.out.box 1).trans rfl
      have HT := Aside0.mk fun (w' : World) (hb : Below wr.heap.size wr w') => take149 g q cb bs (a + k) r n 1 w' (hR.out.below hb) (by omega) (by omega)
      have hB := HE.out k hlt
      have hq : bs[a + k]'(by omega) = ((s[k]'hlt).toNat : Int) := by rw [List.getElem?_eq_getElem (by omega)] at hB; exact Option.some.inj hB
      have HQ := Aside0.mk hq
      clear hB hq
      go_wp2_with fail
      go_region_with (go_at_call 149; refine (HT.out _ (below_drew1 (Below.refl _ _))).mono ?_; rintro e w5 ⟨rfl, k5, k6⟩; have c5 : w5.cell? ⟨q, a + k, none⟩ = some (.int .u8 ((s[k]'hlt).toNat : Int)) := (by rw [← HQ.out]; exact k5.byte (a + k) (by omega)); have K5 := Aside0.mk k5; have K6 := Aside0.mk k6; clear k5 k6)
      all_goals
        have hM5 := Aside0.mk (hM.out.trans ((Mv.of_below (below_drew1 (Below.refl _ _)) (Nat.le_of_lt hR.out.glt)).trans K6.out))
        go_wp2
        go_roundw
        case rel => exact ⟨k + 1, by omega, by go_num, ⟨K5.out⟩, hM5⟩
        case measure => simp [intOf]; omega
    · obtain rfl : k = s.size := by omega
      go_wp2
      go_end0
      exact ⟨rfl, hR.out, hM.out⟩
end Go.Proofs.YtpnkifincadakaaGreatDoor.Wr
end
section
namespace Go.Proofs.YtpnkifincadakaaGreatDoor.Wr
open Go.RowKit Go.Pk Go.Proofs.YtpnkifincadakaaGreatDoorW.PrintWords Go.Proofs.YtpnkifincadakaaGreatDoor.PPackSpecs
theorem add_plain' (g o j : Nat) : (⟨g, o, none⟩ : Addr).add j = ⟨g, o + j, none⟩ := by unfold Addr.add; split <;> simp_all
theorem strOf_bytesOf (s : ByteArray) : strOfNums (bytesOf s) = s := by
  unfold strOfNums bytesOf
  have h : (s.data.toList.map fun b => (b.toNat : Int)).map (fun n => UInt8.ofNat n.toNat) = s.data.toList := by
    rw [List.map_map]
    conv => rhs; rw [← List.map_id s.data.toList]
    exact List.map_congr_left fun b _ => by simp
  rw [h]
set_option maxHeartbeats 8000000 in
set_option maxRecDepth 100000 in
theorem name89 (g q cb : Nat) (bs : List Int) (a r n : Nat) (s : ByteArray) (rest : List Int) (w : World) (h : RS g q cb bs a r n w) (hs : s.size ≤ 64) (hd : bs.drop a = encName s ++ rest) (hr : rest ≠ []) :
    Calls Tryz.prog 89 #[.pointer (some ⟨g, 0, none⟩)] w fun e w' => e = .returned (.string s) ∧ RS g q cb bs (a + (encName s).length) r n w' ∧ Mv g w w' := by
  have hlen : a + 1 + s.size < bs.length := by
    have := congrArg List.length hd
    rw [List.length_drop, List.length_append] at this
    simp only [encName, List.length_cons, bytesOf_length] at this
    have := List.length_pos_iff.2 hr
    omega
  have hv : leN ((bs.drop a).take 1) = s.size := by
    rw [hd]
    simp only [encName, List.cons_append, List.take_succ_cons, List.take_zero, leN]
    omega
  have hel : encName s = ((s.size : Int) % 256) :: bytesOf s := rfl
  have hL : (encName s).length = 1 + s.size := by rw [hel, List.length_cons, bytesOf_length]; omega
  have HU := Aside0.mk (upto85 g q cb bs a r n 1 64 s.size w h (by omega) (by omega) (by omega) hv (by omega))
  have hby : ∀ i (hi : i < s.size), bs[a + 1 + i]? = some ((s[i]'hi).toNat : Int) := fun i hi => by
    have := congrArg (fun l => l[1 + i]?) hd
    simp only [List.getElem?_drop] at this
    rw [show a + 1 + i = a + (1 + i) by omega, this, hel, List.cons_append, show 1 + i = i + 1 by omega, List.getElem?_cons_succ, List.getElem?_append_left (by rw [bytesOf_length]; exact hi)]
    simp [bytesOf, hi]
    rfl
  have HBY := Aside0.mk hby
  clear hby hd hv hel
  rw [hL]
  clear hL
  go_enter Tryz.func89, Tryz.ntmps89
  go_wp2_with (go_at_call 85; refine HU.out.mono ?_)
  first | rintro e w1 rfl h1 h2 | rintro e w1 ⟨rfl, h1, h2⟩
  have HT := Aside0.mk (take149 g q cb bs (a + 1) r n s.size w1 h1 (by omega) (by omega))
  have HM1 := Aside0.mk h2
  clear h1 h2
  go_wp2_with (go_at_call 149; refine HT.out.mono ?_)
  first | rintro e w2 rfl h1 h2 | rintro e w2 ⟨rfl, h1, h2⟩
  have HR := Aside0.mk h1
  have HM := Aside0.mk (HM1.out.trans h2)
  have HC : (convert 30 9 (.slice (some ⟨q, a + 1, none⟩) s.size (cb - (a + 1)))).run Tryz.prog w2 = .ok (.string s) w2 := by
    have hC : (Kd.int .u8).C w2 (some ⟨q, a + 1, none⟩) (bytesOf s).length (bytesOf s) := ⟨rfl, by rw [bytesOf_length]; omega, fun hp => ⟨⟨q, a + 1, none⟩, rfl, fun i p hi => ?_⟩⟩
    · have := Kd.C_string Tryz.underlying30 Tryz.underlying5 Tryz.underlying9 (c := cb - (a + 1)) hC
      rw [bytesOf_length] at this
      rw [this, strOf_bytesOf]
    · obtain ⟨hil, rfl⟩ := List.getElem?_eq_some_iff.1 hi
      rw [bytesOf_length] at hil
      have hb := HBY.out i hil
      have hq : (bytesOf s)[i] = bs[a + 1 + i]'(by omega) := by
        rw [List.getElem?_eq_getElem (by omega)] at hb
        rw [Option.some.inj hb]
        simp [bytesOf]
        rfl
      refine ⟨[.int .u8 (bytesOf s)[i]], rfl, rfl, fun j u hu => ?_⟩
      match j, hu with
      | 0, hu =>
        simp only [List.getElem?_cons_zero, Option.some.injEq] at hu
        subst hu
        rw [add_plain', hq, show a + 1 + (i * (Kd.int .u8).sz + 0) = a + 1 + i by show a + 1 + (i * 1 + 0) = _; omega]
        exact h1.byte (a + 1 + i) (by omega)
      | j + 1, hu => simp at hu
  clear h1 h2
  go_wp2
  go_ret
  exact ⟨rfl, by rw [show a + (1 + s.size) = a + 1 + s.size by omega]; exact HR.out, HM.out⟩
end Go.Proofs.YtpnkifincadakaaGreatDoor.Wr
end
section
namespace Go.Proofs.YtpnkifincadakaaGreatDoor.Wr
open Go.RowKit Go.Pk Go.Proofs.YtpnkifincadakaaGreatDoorW.PrintWords Go.Proofs.YtpnkifincadakaaGreatDoor.PPackSpecs
theorem RS.alloc {g q cb : Nat} {bs : List Int} {a r n : Nat} {w : World} (h : RS g q cb bs a r n w) (o : Obj) : RS g q cb bs a r n (w.alloc o) := h.below (below_alloc (Below.refl _ _) o)
theorem Mv.blk {g k : Nat} {w w' : World} {o : Obj} (h : Mv g w w') (hb : w.heap[k]? = some o) (hne : k ≠ g) : w'.heap[k]? = some o := (h.keep k (blk_lt hb) hne).trans hb
theorem Mv.alloc {g : Nat} {w w' : World} (h : Mv g w w') (hg : g ≤ w.heap.size) (o : Obj) : Mv g w (w'.alloc o) := h.trans (Mv.of_below (below_alloc (Below.refl _ _) o) (Nat.le_trans hg h.size))
theorem RS.far {g q cb : Nat} {bs : List Int} {a r n a' r' n' : Nat} {w w0 : World} (h : RS g q cb bs a r n w) (h0 : RS g q cb bs a' r' n' w0) {p : Addr} (hp : w0.heap.size ≤ p.block) (u : Value) : RS g q cb bs a r n (w.setCell p u) := by
  obtain ⟨cells, hc, hr⟩ := h.row
  have hg := h0.glt
  have hq := h0.qlt
  refine ⟨?_, ⟨cells, ?_, hr⟩, h.cap, h.pos, h.byt⟩
  · rw [Below.heap_setCell _ _ _ _ (by omega)]; exact h.box
  · rw [Below.heap_setCell _ _ _ _ (by omega)]; exact hc
theorem Mv.far {g : Nat} {w w' : World} (h : Mv g w w') (hg : g < w.heap.size) {p : Addr} (hp : w.heap.size ≤ p.block) (u : Value) : Mv g w (w'.setCell p u) :=
  ⟨fun k hk hne => by rw [Below.heap_setCell _ _ _ _ (by omega)]; exact h.keep k hk hne, by simpa using h.size, h.below.setCell (by omega) u⟩
theorem le1 {bs rest : List Int} {a : Nat} {x : Int} (hd : bs.drop a = x :: rest) : leN ((bs.drop a).take 1) = x := by rw [hd]; simp [leN]
theorem left_len {bs l : List Int} {a : Nat} (hd : bs.drop a = l) (hp : l ≠ []) : a + l.length = bs.length := by
  have := congrArg List.length hd
  rw [List.length_drop] at this
  have := List.length_pos_iff.2 hp
  omega
theorem drop_more {bs l r : List Int} {a : Nat} (hd : bs.drop a = l ++ r) : bs.drop (a + l.length) = r := by
  rw [← List.drop_drop, hd, List.drop_left']
  rfl
set_option maxHeartbeats 8000000 in
set_option maxRecDepth 100000 in
theorem symbol154 (g q cb : Nat) (bs : List Int) (a r n : Nat) (x : S85) (rest : List Int) (w : World) (h : RS g q cb bs a r n w) (hr : r ≤ 256) (hn : n ≤ 256) (hx : symOk x r n = true) (hd : bs.drop a = encSym x ++ rest) (hp : rest ≠ []) :
    Calls Tryz.prog 154 #[.pointer (some ⟨g, 0, none⟩)] w fun e w' => e = .returned (.agg #[.int .i64 x.f0, .int .i64 x.f1]) ∧ RS g q cb bs (a + 2) r n w' ∧ Mv g w w' := by
  have hk : 1 ≤ x.f0 ∧ x.f0 ≤ 3 ∧ 0 ≤ x.f1 ∧ x.f1 < 256 := by
    have := sym_ways x.f0 x.f1 r n true (by rw [← hx])
    simp only [Bool.true_eq_false, false_and, false_or, true_and] at this
    omega
  have hd0 : bs.drop a = x.f0 :: x.f1 :: rest := by
    rw [hd]
    simp only [encSym, List.cons_append, List.nil_append]
    rw [show x.f0 % 256 = x.f0 by omega, show x.f1 % 256 = x.f1 by omega]
  have hd1 : bs.drop (a + 1) = x.f1 :: rest := by rw [← List.drop_drop, hd0]; rfl
  have hl := left_len hd0 (by simp)
  have hpp := List.length_pos_iff.2 hp
  simp only [List.length_cons] at hl
  obtain ⟨k1, k2, k3, k4⟩ := hk
  have HS := Aside0.mk (symbol76 x r n)
  rw [hx] at HS
  obtain ⟨x0, x1⟩ := x
  dsimp only at *
  have H := Aside0.mk h
  have hgl := h.glt
  have hneg : w.heap.size ≠ g := by omega
  have H0 := Aside0.mk (h.alloc (.cells #[.int .i64 0, .int .i64 0] 85))
  have M0 := Aside0.mk ((Mv.refl g w).alloc (Nat.le_of_lt hgl) (.cells #[.int .i64 0, .int .i64 0] 85))
  have B0 := Aside0.mk (blk_new w (.cells #[.int .i64 0, .int .i64 0] 85))
  have HN1 := Aside0.mk (number151 g q cb bs a r n 1 _ H0.out (by omega) (by omega) (by omega))
  rw [le1 hd0] at HN1
  have HN2 := Aside0.mk fun w' (h' : RS g q cb bs (a + 1) r n w') => number151 g q cb bs (a + 1) r n 1 w' h' (by omega) (by omega) (by omega)
  rw [le1 hd1] at HN2
  have q1 : decide (x0 < 1) = false := decide_eq_false (by omega)
  have q2 : decide (3 < x0) = false := decide_eq_false (by omega)
  clear h hd hd0 hd1 hx
  go_enter Tryz.func154, Tryz.ntmps154
  go_wp2_with (go_at_call 151; refine HN1.out.mono ?_)
  first | rintro e w1 rfl h1 h2 | rintro e w1 ⟨rfl, h1, h2⟩
  have HR1 := Aside0.mk h1
  have HM1 := Aside0.mk (M0.out.trans h2)
  have B1 := Aside0.mk (h2.blk B0.out hneg)
  clear h1 h2
  go_wp2_with (go_at_call 151; refine (HN2.out _ HR1.out).mono ?_)
  first | rintro e w2 rfl h1 h2 | rintro e w2 ⟨rfl, h1, h2⟩
  have HR2 := Aside0.mk h1
  have HM2 := Aside0.mk (HM1.out.trans h2)
  have B2 := Aside0.mk (h2.blk B1.out hneg)
  clear h1 h2
  have c2 : w2.cell? ⟨g, 2, none⟩ = some (.int .i64 r) := (blk_cell HR2.out.box 2).trans rfl
  have c3 : w2.cell? ⟨g, 3, none⟩ = some (.int .i64 n) := (blk_cell HR2.out.box 3).trans rfl
  have B3 := Aside0.mk (blk_alloc B2.out (.cells #[.int .i64 x0, .int .i64 x1] 85))
  have S3 := Aside0.mk (blk_new w2 (.cells #[.int .i64 x0, .int .i64 x1] 85))
  have HR3 := Aside0.mk (HR2.out.alloc (.cells #[.int .i64 x0, .int .i64 x1] 85))
  have HM3 := Aside0.mk (HM2.out.alloc (Nat.le_of_lt hgl) (.cells #[.int .i64 x0, .int .i64 x1] 85))
  go_wp2_with fail
  obtain ⟨w3, hw3⟩ : ∃ w3, w3 = w2.alloc (.cells #[.int .i64 x0, .int .i64 x1] 85) := ⟨_, rfl⟩
  rw [← hw3] at B3 S3 HR3 HM3 ⊢
  clear hw3 c2 c3
  have c2 : w3.cell? ⟨g, 2, none⟩ = some (.int .i64 r) := (blk_cell HR3.out.box 2).trans rfl
  have c3 : w3.cell? ⟨g, 3, none⟩ = some (.int .i64 n) := (blk_cell HR3.out.box 3).trans rfl
  have s0 : w3.cell? ⟨w2.heap.size, 0, none⟩ = some (.int .i64 x0) := (blk_cell S3.out 0).trans rfl
  have s1 : w3.cell? ⟨w2.heap.size, 1, none⟩ = some (.int .i64 x1) := (blk_cell S3.out 1).trans rfl
  go_region_with (go_at_call 76; refine (HS.out _ (by omega) (by omega)).mono ?_; rintro e w5 ⟨rfl, k5⟩)
  all_goals
    have B5 := (k5.block _ (blk_lt B3.out)).trans B3.out
    have f0 : w5.frozen? ⟨w.heap.size, 0, none⟩ = false := blk_frozen B5 0
    have f1 : w5.frozen? ⟨w.heap.size, 1, none⟩ = false := blk_frozen B5 1
    have z0 : w5.cell? ⟨w.heap.size, 0, none⟩ = some (.int .i64 0) := (blk_cell B5 0).trans rfl
    have z1 : w5.cell? ⟨w.heap.size, 1, none⟩ = some (.int .i64 0) := (blk_cell B5 1).trans rfl
    have S5 := (k5.block _ (blk_lt S3.out)).trans S3.out
    have s0 : w5.cell? ⟨w2.heap.size, 0, none⟩ = some (.int .i64 x0) := (blk_cell S5 0).trans rfl
    have s1 : w5.cell? ⟨w2.heap.size, 1, none⟩ = some (.int .i64 x1) := (blk_cell S5 1).trans rfl
    have B5 := Aside0.mk B5
    have R5 := Aside0.mk ((HR3.out.below (below_drew1 (Below.refl _ _))).below k5)
    have M5 := Aside0.mk ((HM3.out.trans (Mv.of_below (below_drew1 (Below.refl _ _)) (Nat.le_of_lt HR3.out.glt))).trans (Mv.of_below k5 (Nat.le_of_lt HR3.out.glt)))
    clear k5 S5
    go_wp2
    refine bodyPost_ret (results_cell_row rfl _ _ w.heap.size 85 #[.int .i64 x0, .int .i64 x1] (0, 0) _ rfl (blk_put (cs := #[.int .i64 x0, .int .i64 0]) (blk_put (cs := #[.int .i64 0, .int .i64 0]) B5.out 0 _ rfl) 1 _ rfl) Tryz.underlying85 rfl (by kernel_rfl)) rfl ?_
    refine ⟨rfl, ?_, ?_⟩
    · exact (R5.out.far H.out (by exact Nat.le_refl _) _).far H.out (by exact Nat.le_refl _) _
    · exact (M5.out.far hgl (by exact Nat.le_refl _) _).far hgl (by exact Nat.le_refl _) _
end Go.Proofs.YtpnkifincadakaaGreatDoor.Wr
end
