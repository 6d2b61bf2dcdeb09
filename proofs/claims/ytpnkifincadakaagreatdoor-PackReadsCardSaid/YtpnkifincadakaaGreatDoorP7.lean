/- Proved: part 7 of the proof of PackReads (P1, P2, P3, P4, P5, P6, P7, P8, P9). Conditions: each theorem states its own. -/
import Derived.Conc.AtomicLaws2
import Derived.KernelRfl
import Derived.Test.YtpnkifincadakaaGreatDoorProg
import Derived.Conc.MuLone
import Derived.Outline
import Derived.Shelf.Strings.BuilderK
import Derived.WalkKit
import Derived.Defers
import Derived.Recover
import Derived.RangeFuncIn
import Derived.RangeFuncLeaves
import Derived.RangeFuncRecord
import Derived.Test.YtpnkifincadakaaGreatDoorP6
set_option linter.unusedVariables false
set_option linter.unusedSimpArgs false
section
namespace Go.Am
open Go.Proofs
noncomputable def namesOk (l : List Func) : Nat → Bool :=
  List.rec (fun _ => true) (fun fn _ ih i => match fn.name == "runtime.NumGoroutine" with
    | true => false
    | false => match fn.name == "sync/atomic.AddInt64" with
      | false => ih (Nat.succ i)
      | true => match Nat.beq i 257 with
        | true => ih (Nat.succ i)
        | false => false) l
theorem namesOk_at {l : List Func} : ∀ {i : Nat}, namesOk l i = true → ∀ k fn, l[k]? = some fn → (fn.name == "runtime.NumGoroutine") = false ∧ ((fn.name == "sync/atomic.AddInt64") = true → i + k = 257) := by
  induction l with
  | nil => intro i _ k fn h; simp at h
  | cons f l ih =>
    intro i h k fn hk
    have e : namesOk (f :: l) i = match f.name == "runtime.NumGoroutine" with
      | true => false
      | false => match f.name == "sync/atomic.AddInt64" with
        | false => namesOk l (i + 1)
        | true => match Nat.beq i 257 with
          | true => namesOk l (i + 1)
          | false => false := rfl
    rw [e] at h
    split at h
    · cases h
    rename_i h1
    have hrest : namesOk l (i + 1) = true ∧ ((f.name == "sync/atomic.AddInt64") = true → i = 257) := by
      split at h
      · rename_i h2
        exact ⟨h, fun h3 => by rw [h2] at h3; cases h3⟩
      · split at h
        · rename_i h3
          exact ⟨h, fun _ => Nat.eq_of_beq_eq_true h3⟩
        · cases h
    cases k with
    | zero => simp at hk; subst hk; exact ⟨h1, hrest.2⟩
    | succ k =>
      obtain ⟨g1, g2⟩ := ih hrest.1 k fn (by simpa using hk)
      exact ⟨g1, fun h => by have := g2 h; omega⟩
theorem names : namesOk Tryz.prog.funcs.toList 0 = true := by kernel_rfl
theorem name_at {f : Nat} {fn : Func} (h : Tryz.prog.funcs[f]? = some fn) : (fn.name == "runtime.NumGoroutine") = false ∧ ((fn.name == "sync/atomic.AddInt64") = true → f = 257) := by
  have := namesOk_at names f fn (by simpa using h)
  simpa using this
theorem enters : Enters Tryz.prog := by
  intro f fn c hf hb args w
  have h1 : fn.name ≠ "runtime.NumGoroutine" := by simpa using (name_at hf).1
  simp [callFunc, hf, h1, hb, mark]
theorem atoms : AtomOK Tryz.prog := by
  intro g fn a x d w hf hb hn hc hz
  obtain ⟨h1, h2⟩ := name_at hf
  have := h2 hn
  subst this
  rw [run_callFunc_extern (e := Extern.Atomic.update (Op.intArith .add) .i64 true) Tryz.func257 (by kernel_rfl) (by kernel_rfl) (by kernel_rfl) (by kernel_rfl), Go.Conc.run_add_entry hc hz]
  rfl
theorem mixed : Tryz.prog.follows .mixedOrders = true := by kernel_rfl
end Go.Am
end
section
namespace Go.Am
open Go.Proofs Go.MuLone
abbrev muLink : Go.Conc.Locks.MuLink := { lock := 139, unlock := 140, ilock := 216, iunlock := 217, lockSlow := 262, unlockSlow := 265, disable := 258, enable := 260, acquire := 261, relMerge := 263, cas32 := 259, add32 := 264, tMutex := 133, tIMutex := 131, tPMutex := 368, tPIMutex := 432, tPI32 := 434, tUP := 436, tNoCopy := 128, tU32 := 129 }
theorem muLib : Go.Conc.Locks.MuLib Tryz.prog muLink :=
  ⟨Tryz.func139, Tryz.func140, Tryz.func216, Tryz.func217, Tryz.func258, Tryz.func260, Tryz.func261, Tryz.func263, Tryz.func259, Tryz.func264, Tryz.underlying131, Tryz.runUnderlying131, Tryz.sizeOf131, Tryz.isAgg131, Tryz.zeroValue131, Tryz.underlying133, Tryz.runUnderlying133, Tryz.sizeOf133, Tryz.isAgg133, Tryz.zeroValue133, Tryz.underlying368, Tryz.runUnderlying368, Tryz.sizeOf368, Tryz.isAgg368, Tryz.zeroValue368, Tryz.underlying432, Tryz.runUnderlying432, Tryz.sizeOf432, Tryz.isAgg432, Tryz.zeroValue432, Tryz.underlying434, Tryz.runUnderlying434, Tryz.sizeOf434, Tryz.isAgg434, Tryz.zeroValue434, Tryz.underlying436, Tryz.runUnderlying436, Tryz.sizeOf436, Tryz.isAgg436, Tryz.zeroValue436, Tryz.underlying128, Tryz.runUnderlying128, Tryz.sizeOf128, Tryz.isAgg128, Tryz.zeroValue128, Tryz.underlying21, Tryz.runUnderlying21, Tryz.sizeOf21, Tryz.isAgg21, Tryz.zeroValue21, (by kernel_rfl)⟩
noncomputable def turnA (G : Nat) (x y : Int) (args : Array Value) (A : Heap) : Option Heap :=
  match args.toList with
  | [.pointer (some a)] => match Nat.ble G a.block, a.spot, hget A a.block with
    | true, none, some (.cells n t e) => match Nat.blt a.off n, t.get a.off with
      | true, some (.int .i32 z) => match decide (z = x) with
        | true => some (hset A a.block (some (.cells n (t.set a.off (some (.int .i32 y))) e)))
        | false => none
      | _, _ => none
    | _, _, _ => none
  | _ => none
section
variable {P : Program} {G base top : Nat} {w0 : World} {m : Mp} {A B : Heap} {w : World} {args args' : Array Value}
theorem turnA_spec {x y : Int} (h : turnA G x y args A = some B) : ∃ (a : Addr) (n : Nat) (t : Tr Value) (e : TypeId), args = #[.pointer (some a)] ∧ G ≤ a.block ∧ a.spot = none ∧ hget A a.block = some (.cells n t e) ∧ a.off < n ∧
    t.get a.off = some (.int .i32 x) ∧ B = hset A a.block (some (.cells n (t.set a.off (some (.int .i32 y))) e)) := by
  unfold turnA at h
  split at h
  rotate_left
  · cases h
  rename_i a hl
  split at h
  rotate_left
  · cases h
  rename_i n t e hG hs hA
  split at h
  rotate_left
  · cases h
  rename_i z hlt hz
  split at h
  · rename_i hd
    cases h
    have hd : z = x := by simpa using hd
    subst hd
    exact ⟨a, n, t, e, arr_one hl, ble_true hG, hs, hA, blt_true hlt, hz, rfl⟩
  · cases h
theorem av_one {v : Value} (h : AV m #[v] args') : ∃ v', args' = #[v'] ∧ VR m v v' := by
  have hsz := h.1
  match hq : args', hsz with
  | ⟨[v']⟩, _ => exact ⟨v', rfl, h.2 0 v v' rfl rfl⟩
theorem vr_ptr {a : Addr} {v' : Value} (h : VR m (.pointer (some a)) v') : ∃ a', v' = .pointer (some a') ∧ AR m a a' := by
  cases h with
  | ptr h => exact ⟨_, rfl, h⟩
theorem turn_ok {x y : Int} (h : turnA G x y args A = some B) (hr : HR P G base w0 top m A w) (ha : AV m args args') : ∃ a', args' = #[.pointer (some a')] ∧ w.cell? a' = some (.int .i32 x) ∧ w.frozen? a' = false ∧
    HR P G base w0 top m B (w.setCell a' (.int .i32 y)) ∧ Keep G m A w m B (w.setCell a' (.int .i32 y)) := by
  obtain ⟨a, n, t, e, rfl, hG, hs, hA, hlt, hz, rfl⟩ := turnA_spec h
  obtain ⟨v', rfl, hv⟩ := av_one ha
  obtain ⟨a', rfl, haa⟩ := vr_ptr hv
  obtain ⟨u, hc, hvr⟩ := hr.cell haa hA hs hlt hz
  cases hvr
  obtain ⟨_, hfz, hput, hkeep⟩ := hr.setCell haa hG hA hs hlt (VR.int (m := m) .i32 y)
  exact ⟨a', rfl, hc, hfz, hput, hkeep⟩
end
noncomputable def lockO (G : Nat) : CallF → Array Value → Heap → Option (Value × Heap) := fun _ args A =>
  match turnA G 0 1 args A with
  | some A => some (undef, A)
  | none => none
theorem turnA_next {G : Nat} {x y : Int} {args : Array Value} {A B : Heap} (h : turnA G x y args A = some B) : A.next ≤ B.next := by
  obtain ⟨a, n, t, e, _, _, _, _, _, _, rfl⟩ := turnA_spec h
  exact Nat.le_refl _
def OrcOne (P : Program) (G base top : Nat) (w0 : World) (f : FuncId) (g : CallF → Array Value → Heap → Option (Value × Heap)) : Prop :=
  ∀ call, (∀ top, CallOK P G base w0 top call) → ∀ args A v A', g call args A = some (v, A') →
    A.next ≤ A'.next ∧ (A'.next ≤ top → ∀ m args' w, AV m args args' → HR P G base w0 top m A w → Calls P f args' w (CR P G base w0 top m A w v A'))
def OrcDOne (P : Program) (G base top : Nat) (w0 : World) (f : FuncId) (g : Array Value → Heap → Option Heap) : Prop :=
  ∀ args A A', g args A = some A' → A.next ≤ A'.next ∧ (A'.next ≤ top → ∀ m args' w, AV m args args' → HR P G base w0 top m A w →
    (∃ fn c, P.funcs[f]? = some fn ∧ fn.body = some c) ∧ ∀ u, u ≠ .run → CallsD P f args' u w (fun e u' w' => match e with
      | .returned _ => u' = u ∧ ∃ m', Sub m m' ∧ HR P G base w0 top m' A' w' ∧ Keep G m A w m' A' w'
      | .outgrown => False
      | .panicked _ => False))
section
variable {base top : Nat} {w0 : World}
theorem lock_ok (G : Nat) : OrcOne Tryz.prog G base top w0 139 (lockO G) := by
  intro call hcall args A v A' h
  unfold lockO at h
  split at h
  rotate_left
  · cases h
  rename_i B hB
  cases h
  refine ⟨turnA_next hB, fun ht m args' w ha hr => ?_⟩
  obtain ⟨a', rfl, hc, hz, hput, hkeep⟩ := turn_ok hB hr ha
  refine (lock_free muLib a' w hc hz).mono ?_
  rintro e w' ⟨rfl, rfl⟩
  exact ⟨m, Sub.refl _, vr_undef m, hput, hkeep⟩
theorem unlock_ok (G : Nat) : OrcDOne Tryz.prog G base top w0 140 (turnA G 1 0) := by
  intro args A A' h
  refine ⟨turnA_next h, fun ht m args' w ha hr => ⟨⟨_, _, Tryz.func140, rfl⟩, fun u hu => ?_⟩⟩
  obtain ⟨a', rfl, hc, hz, hput, hkeep⟩ := turn_ok h hr ha
  refine (unlock_deferred muLib a' u w hc hz).mono ?_
  rintro e u' w' ⟨rfl, rfl, rfl⟩
  exact ⟨rfl, m, Sub.refl _, hput, hkeep⟩
end
end Go.Am
end
section
namespace Go.Am
open Go.Proofs Go.RowKit
section
variable {P : Program} {G base top : Nat} {w0 : World} {m : Mp} {A : Heap} {w : World}
theorem HR.lost (h : HR P G base w0 top m A w) {b r d : Nat} {x : AObj} (hG : G ≤ b) (hx : hget A b = some x) (hm : m b = some (r, d)) {w' : World} (hsz : w'.heap.size = w.heap.size) (hoth : ∀ i, i ≠ r → w'.heap[i]? = w.heap[i]?)
    (hs : w'.os = w.os) (ht : w'.tape = w.tape) (hu : w'.output = w.output) : HR P G base w0 top m (hset A b none) w' ∧ Keep G m A w m (hset A b none) w' := by
  have back : ∀ i o, hget (hset A b none) i = some o → i ≠ b ∧ hget A i = some o := by
    intro i o e
    rw [hget_set] at e
    split at e
    · cases e
    · rename_i hi; exact ⟨hi, e⟩
  have hrb : base ≤ r := h.own b r d hG hm
  have hnr : ∀ i o r' d', hget (hset A b none) i = some o → m i = some (r', d') → r' ≠ r := by
    intro i o r' d' e hi he
    obtain ⟨h1, h2⟩ := back i o e
    subst he
    exact h1 (h.inj b i x o r' d d' hG hx h2 hm hi).symm
  refine ⟨⟨h.below.trans ⟨hs, ht, hu, by rw [hsz]; exact Nat.le_refl _, fun k hk => hoth k (by omega)⟩, by rw [hsz]; exact h.base_le, h.g_le, h.g_len, h.fresh, by rw [hsz]; exact h.real, h.own, h.glob, fun i o e => ?_, fun i j o o' r' d1 d2 hGi e1 e2 k1 k2 => ?_⟩,
    ⟨by rw [hsz]; exact Nat.le_refl _, fun r' hr' hsep => ⟨hoth r' ?_, fun i o d' hGi e => hsep i o d' hGi (back i o e).2⟩⟩, Nat.le_refl _, fun _ => .inl rfl⟩
  · obtain ⟨h1, h2⟩ := back i o e
    obtain ⟨h3, r', d', o', k1, k2, k3⟩ := h.blk i o h2
    exact ⟨h3, r', d', o', k1, by rw [hoth r' (hnr i o r' d' e k1)]; exact k2, k3⟩
  · exact h.inj i j o o' r' d1 d2 hGi (back i o e1).2 (back j o' e2).2 k1 k2
  · intro e
    subst e
    exact hsep b x d hG hx hm
end
theorem size303 : (Tryz.prog.info? 303).map (fun i => i.size) = some 2 := by kernel_rfl
theorem same303 : sameLayout Tryz.prog Tryz.prog.depth 303 303 = true := by kernel_rfl
theorem cells303 : Tryz.prog.cellsOf 303 = 2 := by kernel_rfl
theorem depth_pos : Nat.blt 0 Tryz.prog.depth = true := by kernel_rfl
theorem lies303 {c : Nat} (h : 1 ≤ c) : liesAt Tryz.prog Tryz.prog.depth 303 c 0 303 1 = true := by
  obtain ⟨k, hk⟩ : ∃ k, Tryz.prog.depth = k + 1 := ⟨Tryz.prog.depth - 1, by have := blt_true depth_pos; omega⟩
  have hs := same303
  have hr : rowAt Tryz.prog (sameLayout Tryz.prog Tryz.prog.depth · 303) Tryz.prog.depth 303 c 0 1 = true := by
    generalize hf : (sameLayout Tryz.prog Tryz.prog.depth · 303) = f
    have hf' : f 303 = true := by rw [← hf]; exact hs
    rw [hk]
    simp only [rowAt, cells303]
    simp [hf', h]
  rw [hk]
  simp only [liesAt]
  rw [hr]
  rfl
set_option maxHeartbeats 1000000 in
set_option maxRecDepth 100000 in
theorem check_used (b : Nat) (w : World) (h0 : w.cell? ⟨b, 0, none⟩ = some (.pointer (some ⟨b, 0, none⟩))) :
    Calls Tryz.prog 232 #[.pointer (some ⟨b, 0, none⟩)] w fun e w' => e = .returned (.tuple #[]) ∧ w' = w := by
  obtain ⟨j, hj, _⟩ := Option.map_eq_some_iff.1 size303
  go_enter Tryz.func232, Tryz.ntmps232
  go_wp2
  rw [Lib.run_neq_ptr_same w _ Tryz.underlying301 hj]
  go_wp2
  go_end0
  exact ⟨rfl, rfl⟩
set_option maxHeartbeats 1000000 in
set_option maxRecDepth 100000 in
theorem check_fresh (b c : Nat) (w : World) (h0 : w.cell? ⟨b, 0, none⟩ = some (.pointer none)) (hc : 1 ≤ c) (hsh : w.shape? b = some (303, 2 * c)) (hfz : w.frozen? ⟨b, 0, none⟩ = false) :
    Calls Tryz.prog 232 #[.pointer (some ⟨b, 0, none⟩)] w fun e w' => e = .returned (.tuple #[]) ∧ w' = w.setCell ⟨b, 0, none⟩ (.pointer (some ⟨b, 0, none⟩)) := by
  obtain ⟨j, hj, hjs⟩ := Option.map_eq_some_iff.1 size303
  go_enter Tryz.func232, Tryz.ntmps232
  go_wp2
  rw [Lib.run_to_unsafe w ⟨b, 0, none⟩ Tryz.underlying301 Tryz.underlying436 hj (by rw [hjs]; decide) hsh (by show 0 < 2 * c; omega)]
  simp only [Result.andThen]
  rw [Oper.upon_value]
  go_wp2
  rw [run_callFunc_extern Tryz.func271 (by kernel_rfl) (by kernel_rfl) (by kernel_rfl) (e := Extern.AbiNoEscape.same) (by kernel_rfl)]
  rw [Lib.run_noEscape]
  simp only [Result.andThen]
  rw [Oper.upon_value]
  go_wp2
  rw [Lib.run_from_unsafe w ⟨b, 0, none⟩ Tryz.underlying436 Tryz.underlying301 hj hsh (by rw [cells303]; exact lies303 (by omega))]
  simp only [Result.andThen]
  rw [Oper.upon_value]
  go_wp2
  go_end0
  exact ⟨rfl, rfl⟩
theorem cells5 : Tryz.prog.cellsOf 5 = 1 := by kernel_rfl
set_option maxHeartbeats 1000000 in
set_option maxRecDepth 100000 in
theorem string_run (b g cap cells : Nat) (l : List UInt8) (w : World) (h1 : w.cell? ⟨b, 1, none⟩ = some (.slice (some ⟨g, 0, none⟩) l.length cap)) (h0 : l ≠ []) (hcap : cap ≠ 0) (hsh : w.shape? g = some (5, cells)) (hn : l.length ≤ cells)
    (h63 : l.length ≤ 1000000) (hcell : ∀ j x, l[j]? = some x → w.cell? ((⟨g, 0, none⟩ : Addr).add j) = some (.int .u8 x.toNat)) :
    Calls Tryz.prog 178 #[.pointer (some ⟨b, 0, none⟩)] w fun e w' => e = .returned (.string ⟨l.toArray⟩) ∧ w' = w.drew.freeze ⟨g, 0, none⟩ l.length := by
  have c1 : w.drew.cell? ⟨b, 1, none⟩ = some (.slice (some ⟨g, 0, none⟩) l.length cap) := h1
  have hSD : (Builtin.unsafeSliceData_ #[30] 393 #[.slice (some ⟨g, 0, none⟩) l.length cap]).run Tryz.prog w.drew = .ok (.pointer (some ⟨g, 0, none⟩)) w.drew :=
    Lib.run_unsafeSliceData_row _ _ _ _ _ _ hcap
  have hUS : (Builtin.unsafeString_ #[393, 3] 9 #[.pointer (some ⟨g, 0, none⟩), .int .i64 l.length]).run Tryz.prog w.drew = .ok (.string ⟨l.toArray⟩) (w.drew.freeze ⟨g, 0, none⟩ l.length) := by
    refine Lib.run_unsafeString_row w.drew 393 3 9 5 Tryz.underlying393 cells5 g cells hsh l h0 hn (by omega) ?_
    exact hcell
  have mixed := mixed
  go_enter Tryz.func178, Tryz.ntmps178
  go_wp2
  go_region_o
  all_goals (go_wp2; go_ret; exact ⟨rfl, rfl⟩)
end Go.Am
end
section
namespace Go.Am
open Go.Proofs Go.RowKit
noncomputable def copyO (G : Nat) : CallF → Array Value → Heap → Option (Value × Heap) := fun _ args A =>
  match args.toList with
  | [.pointer (some a)] => match Nat.ble G a.block, Nat.beq a.off 0, a.spot, hget A a.block with
    | true, true, none, some (.cells n t e) => match Nat.beq n 2, Nat.beq e 303, t.get 0 with
      | true, true, some (.pointer none) => some (undef, hset A a.block (some (.cells n (t.set a.off (some (.pointer (some a)))) e)))
      | true, true, some (.pointer (some b)) => match decide (b = a) with
        | true => some (undef, A)
        | false => none
      | _, _, _ => none
    | _, _, _, _ => none
  | _ => none
noncomputable def bytes8 : List Value → Option (List UInt8)
  | [] => some []
  | v :: l => match v with
    | .int k (.ofNat n) => match k, Nat.blt n 256, bytes8 l with
      | .u8, true, some r => some (UInt8.ofNat n :: r)
      | _, _, _ => none
    | _ => none
noncomputable def stringO (G : Nat) : CallF → Array Value → Heap → Option (Value × Heap) := fun _ args A =>
  match args.toList with
  | [.pointer (some a)] => match Nat.beq a.off 0, a.spot, hget A a.block with
    | true, none, some (.cells n t e) => match Nat.blt 1 n, t.get 1 with
      | true, some (.slice (some q) l c) => match Nat.ble G q.block, Nat.beq q.off 0, q.spot, hget A q.block with
        | true, true, none, some (.cells k u e') => match Nat.beq e' 5, Nat.blt 0 l, Nat.blt (c % 3) 2, Nat.ble l (c / 3) with
          | true, true, true, true => match Nat.ble l k, Nat.ble l 1000000, grab u l 0 with
            | true, true, some vs => match bytes8 vs with
              | some bs => some (.string ⟨bs.toArray⟩, hset A q.block none)
              | none => none
            | _, _, _ => none
          | _, _, _, _ => none
        | _, _, _, _ => none
      | _, _ => none
    | _, _, _ => none
  | _ => none
theorem bytes8_spec : ∀ {l : List Value} {bs : List UInt8}, bytes8 l = some bs → l.length = bs.length ∧ ∀ (j : Nat) (x : UInt8), bs[j]? = some x → l[j]? = some (.int .u8 (x.toNat : Int))
  | [], bs, h => by cases h; exact ⟨rfl, fun j x h => by simp at h⟩
  | v :: l, bs, h => by
    simp only [bytes8] at h
    split at h
    · rename_i k n
      split at h
      · rename_i hlt hr
        cases h
        obtain ⟨h1, h2⟩ := bytes8_spec hr
        refine ⟨by simp [h1], fun j x hx => ?_⟩
        cases j with
        | zero =>
          simp at hx
          subst hx
          have := blt_true hlt
          simp
          omega
        | succ j => simpa using h2 j x (by simpa using hx)
      · cases h
    · cases h
section
variable {base top : Nat} {w0 : World}
theorem addr_zero {a : Addr} (h1 : a.off = 0) (h2 : a.spot = none) : a = ⟨a.block, 0, none⟩ := by
  obtain ⟨b, o, s⟩ := a
  simp only at h1 h2
  subst h1
  subst h2
  rfl
theorem copy_ok (G : Nat) : OrcOne Tryz.prog G base top w0 232 (copyO G) := by
  intro call hcall args A v A' h
  unfold copyO at h
  split at h
  rotate_left
  · cases h
  rename_i a hl
  split at h
  rotate_left
  · cases h
  rename_i n t e hG hoff hs hA
  have hargs := arr_one hl
  subst hargs
  have hG := ble_true hG
  have hoff := Nat.eq_of_beq_eq_true hoff
  have known : ∀ m args' w, AV m #[.pointer (some a)] args' → HR Tryz.prog G base w0 top m A w → Nat.beq n 2 = true → Nat.beq e 303 = true → ∀ u, t.get 0 = some u → ∃ r c, args' = #[.pointer (some ⟨r, 0, none⟩)] ∧ AR m a ⟨r, 0, none⟩ ∧ 1 ≤ c ∧ w.shape? r = some (303, 2 * c) ∧
      ∃ u', w.cell? ⟨r, 0, none⟩ = some u' ∧ VR m u u' := by
    intro m args' w ha hr h1 h2 u hu
    have h1 := Nat.eq_of_beq_eq_true h1
    have h2 := Nat.eq_of_beq_eq_true h2
    obtain ⟨v', rfl, hv⟩ := av_one ha
    obtain ⟨a', rfl, haa⟩ := vr_ptr hv
    have hae := addr_zero (haa.2.1.trans hoff) (haa.2.2.trans hs)
    obtain ⟨d, o', hm, hw, hor⟩ := hr.at haa hA
    obtain ⟨u', hc, hvr⟩ := hr.cell haa hA hs (by omega) (v := u) (by rw [hoff]; exact hu)
    cases hor with
    | cells hf hsz hval =>
      rename_i c' fr'
      refine ⟨a'.block, 1 + d, by rw [← hae], by rw [← hae]; exact haa, by omega, ?_, u', by rw [← hae]; exact hc, hvr⟩
      simp only [World.shape?, hw, h2, hsz, cells303, h1]
      congr 2
      omega
  split at h
  · rename_i h1 h2 hu
    cases h
    refine ⟨Nat.le_refl _, fun ht m args' w ha hr => ?_⟩
    obtain ⟨r, c, rfl, haa, hc1, hsh, u', hc, hvr⟩ := known m args' w ha hr h1 h2 _ hu
    cases hvr
    have h1 := Nat.eq_of_beq_eq_true h1
    obtain ⟨_, hfz, hput, hkeep⟩ := hr.setCell haa hG hA hs (by omega) (VR.ptr haa)
    refine (check_fresh r c w hc hc1 hsh hfz).mono ?_
    rintro e w' ⟨rfl, rfl⟩
    exact ⟨m, Sub.refl _, vr_undef m, hput, hkeep⟩
  · rename_i b h1 h2 hu
    split at h
    · rename_i hd
      cases h
      have hd : b = a := by simpa using hd
      subst hd
      refine ⟨Nat.le_refl _, fun ht m args' w ha hr => ?_⟩
      obtain ⟨r, c, rfl, haa, hc1, hsh, u', hc, hvr⟩ := known m args' w ha hr h1 h2 _ hu
      obtain ⟨a2, rfl, ha2⟩ := vr_ptr hvr
      have : a2 = ⟨r, 0, none⟩ := by
        obtain ⟨d1, e1⟩ := haa.1
        obtain ⟨d2, e2⟩ := ha2.1
        rw [e1] at e2
        cases e2
        exact addr_zero (ha2.2.1.trans hoff) (ha2.2.2.trans hs)
      subst this
      refine (check_used r w hc).mono ?_
      rintro e w' ⟨rfl, rfl⟩
      exact ⟨m, Sub.refl _, vr_undef m, hr, Keep.refl _ _ _ _⟩
    · cases h
  · cases h
theorem string_ok (G : Nat) : OrcOne Tryz.prog G base top w0 178 (stringO G) := by
  intro call hcall args A v A' h
  unfold stringO at h
  split at h
  rotate_left
  · cases h
  rename_i a hl
  split at h
  rotate_left
  · cases h
  rename_i n t e hoff hs hA
  have hargs := arr_one hl
  subst hargs
  have hoff := Nat.eq_of_beq_eq_true hoff
  split at h
  rotate_left
  · cases h
  rename_i q l c hn hq
  have hn := blt_true hn
  split at h
  rotate_left
  · cases h
  rename_i k u e' hG hqo hqs hQ
  have hG := ble_true hG
  have hqo := Nat.eq_of_beq_eq_true hqo
  split at h
  rotate_left
  · cases h
  rename_i he hl0 hc3 hlc
  have he := Nat.eq_of_beq_eq_true he
  have hl0 := blt_true hl0
  have hc3 := blt_true hc3
  have hlc := ble_true hlc
  split at h
  rotate_left
  · cases h
  rename_i vs hlk hl6 hgr
  have hlk := ble_true hlk
  have hl6 := ble_true hl6
  split at h
  rotate_left
  · cases h
  rename_i bs hbs
  cases h
  refine ⟨Nat.le_refl _, fun ht m args' w ha hr => ?_⟩
  obtain ⟨v', rfl, hv⟩ := av_one ha
  obtain ⟨a', rfl, haa⟩ := vr_ptr hv
  have hae := addr_zero (haa.2.1.trans hoff) (haa.2.2.trans hs)
  obtain ⟨hb1, hb2⟩ := bytes8_spec hbs
  have hgl := grab_spec hgr
  have ha1 : AR m ⟨a.block, 1, none⟩ ⟨a'.block, 1, none⟩ := ⟨haa.1, rfl, rfl⟩
  obtain ⟨u', hc, hvr⟩ := hr.cell ha1 (n := n) (t := t) (e := e) hA rfl hn hq
  have hcap : ∃ q' cap, u' = .slice (some q') l cap ∧ AR m q q' ∧ cap ≠ 0 := by
    cases hvr with
    | slice l c h => exact ⟨_, _, rfl, h, by omega⟩
    | sliceUp l c h hd => exact ⟨_, _, rfl, h, by omega⟩
    | sliceEnd c hd => omega
  obtain ⟨q', cap, rfl, haq, hcap⟩ := hcap
  have hqe := addr_zero (haq.2.1.trans hqo) (haq.2.2.trans hqs)
  obtain ⟨d, o', hm, hw, hor⟩ := hr.at haq hQ
  have hlen : bs.length = l := by rw [← hb1]; exact hgl.1
  have hsh : ∃ cells, w.shape? q'.block = some (5, cells) ∧ l ≤ cells := by
    cases hor with
    | cells hf hsz hval =>
      rename_i c' fr'
      exact ⟨c'.size, by simp only [World.shape?, hw, he], by omega⟩
  obtain ⟨cells, hsh, hle⟩ := hsh
  have hrun := string_run a'.block q'.block cap cells bs w (by rw [hlen, ← hqe]; exact hc) (by intro e; rw [e] at hlen; simp at hlen; omega) hcap hsh (by omega) (by omega) (by
    intro j x hx
    have h1 := hb2 j x hx
    have hj : j < l := by rw [← hlen]; exact (List.getElem?_eq_some_iff.1 hx).1
    obtain ⟨v2, h2, h3⟩ := hgl.2 j hj
    rw [h1] at h3
    cases h3
    have haj : AR m (q.add j) ((⟨q'.block, 0, none⟩ : Addr).add j) := by rw [← hqe]; exact haq.add j
    obtain ⟨u2, hc2, hvr2⟩ := hr.cell haj (n := k) (t := u) (e := e') (by rw [Addr.add_block]; exact hQ) (Addr.add_spot _ hqs _) (by rw [Addr.add_off]; omega) (v := .int .u8 x.toNat) (by rw [Addr.add_off, hqo]; exact h2)
    cases hvr2
    exact hc2)
  rw [show (⟨a'.block, 0, none⟩ : Addr) = a' from hae.symm] at hrun
  refine hrun.mono ?_
  rintro e w' ⟨rfl, rfl⟩
  obtain ⟨hr1, hk1⟩ := hr.drew (w' := w.drew) rfl rfl rfl rfl
  obtain ⟨hr2, hk2⟩ := hr1.lost (w' := w.drew.freeze ⟨q'.block, 0, none⟩ bs.length) hG hQ hm (by unfold World.freeze; split <;> simp) (fun i hi => by
      unfold World.freeze
      split
      · rfl
      · simp only
        rw [Array.getElem?_modify, if_neg (fun e => hi e.symm)]) (by unfold World.freeze; split <;> rfl) (by unfold World.freeze; split <;> rfl) (by unfold World.freeze; split <;> rfl)
  exact ⟨m, Sub.refl _, .string _, hr2, hk1.trans hk2⟩
end
end Go.Am
end
section
namespace Go.Am
open Go.Proofs Go.RowKit
theorem nil20 (w : World) : (binOp .eql 20 .nilIface .nilIface).run Tryz.prog w = .ok (.bool true) w := by kernel_rfl
set_option maxHeartbeats 1000000 in
set_option maxRecDepth 100000 in
theorem catch83 (p : Value) (w : World) :
    CallsD Tryz.prog 83 #[p] .returning w fun e u' w' => e = .returned (.tuple #[]) ∧ u' = .returning ∧ w' = w := by
  have hn := nil20
  refine callsD_of_wpS Tryz.func83 rfl fun c₀ cs hu => ?_
  apply wpS_seq
  apply wpS_region
  simp [wpOpsS, go_sem, recoverD, hu, Tryz.ntmps83, Exit.thenS]
  refine wpS_of_wp ?_
  go_wp2
  cases c₀
  simp_all [bodyPostS, results, Tryz.results83]
set_option maxHeartbeats 1000000 in
set_option maxRecDepth 100000 in
theorem tried_run {f : FuncId} {fn : Func} {c : Code} (hf : Tryz.prog.funcs[f]? = some fn) (hb : fn.body = some c) (x y : Array Value) (w : World) (R : World → Prop)
    (hcall : Calls Tryz.prog f (x ++ y) (w.alloc (.cells #[.int .i64 0, .int .i64 0] 92)) fun e w' => match e with
      | .returned _ => R w' ∧ w'.heap[w.heap.size]? = some (.cells #[.int .i64 0, .int .i64 0] 92 (0, 0))
      | .outgrown => False
      | .panicked _ => False) :
    Calls Tryz.prog 40 #[.func (.func f) x y] w fun e w' => match e with
      | .returned v => v = .agg #[.int .i64 0, .int .i64 0] ∧ ∃ w1, R w1 ∧ w1.heap[w.heap.size]? = some (.cells #[.int .i64 0, .int .i64 0] 92 (0, 0)) ∧ w' = (w1.setCell ⟨w.heap.size, 0, none⟩ (.int .i64 0)).setCell ⟨w.heap.size, 1, none⟩ (.int .i64 0)
      | .outgrown => False
      | .panicked _ => False := by
  have hmf : ∀ (fn : Fn) (first cap : Array Value) (w : World), (Instr.makeFunc fn first cap).run Tryz.prog w = .ok (.func fn first cap) w := fun _ _ _ _ => rfl
  have hent := fun args w => enters f fn c hf hb args w
  go_enter_defers Tryz.func40, Tryz.ntmps40
  go_wp2
  refine hcall.mono ?_
  intro e w1 h
  cases e with
  | panicked ch => exact h.elim
  | outgrown => exact h.elim
  | returned v =>
    obtain ⟨hR, hb1⟩ := h
    have c0 : w1.cell? ⟨w.heap.size, 0, none⟩ = some (.int .i64 0) := by rw [Lib.cell_of_heap hb1]; rfl
    have c1 : w1.cell? ⟨w.heap.size, 1, none⟩ = some (.int .i64 0) := by rw [Lib.cell_of_heap hb1]; rfl
    have f0 : w1.frozen? ⟨w.heap.size, 0, none⟩ = false := Lib.frozen_of_heap hb1 0
    have f1 : w1.frozen? ⟨w.heap.size, 1, none⟩ = false := Lib.frozen_of_heap hb1 1
    go_wp2
    refine leaves_cons (f := 83) (args := #[.pointer (some ⟨w.heap.size, 0, none⟩)]) (by simp) (by simp [go_sem]) ?_
    refine (catch83 _ _).mono ?_
    rintro e u' w'' ⟨rfl, rfl, rfl⟩
    have d0 : (w1.setCell ⟨w.heap.size, 0, none⟩ (.int .i64 0)).cell? ⟨w.heap.size, 0, none⟩ = some (.int .i64 0) := World.cell?_setCell_same' _ _ _ (by rw [c0]; rfl)
    have e1 : (w1.setCell ⟨w.heap.size, 0, none⟩ (.int .i64 0)).cell? ⟨w.heap.size, 1, none⟩ = some (.int .i64 0) := by
      rw [World.cell?_setCell_other _ _ _ _ (by simp)]; exact c1
    have d1 : ((w1.setCell ⟨w.heap.size, 0, none⟩ (.int .i64 0)).setCell ⟨w.heap.size, 1, none⟩ (.int .i64 0)).cell? ⟨w.heap.size, 1, none⟩ = some (.int .i64 0) := World.cell?_setCell_same' _ _ _ (by rw [e1]; rfl)
    simp [Leaves, settle, results, Tryz.results40, go_sem, d0, d1, Result.andThen]
    exact ⟨w1, hR, hb1, rfl⟩
section
variable {P : Program} {G base top : Nat} {w0 : World} {m : Mp} {A : Heap} {w : World}
theorem HR.other (h : HR P G base w0 top m A w) {r : Nat} (hb : base ≤ r) (hsep : Sep G m A r) {w' : World} (hsz : w'.heap.size = w.heap.size) (hoth : ∀ i, i ≠ r → w'.heap[i]? = w.heap[i]?)
    (hs : w'.os = w.os) (ht : w'.tape = w.tape) (hu : w'.output = w.output) : HR P G base w0 top m A w' := by
  refine ⟨h.below.trans ⟨hs, ht, hu, by rw [hsz]; exact Nat.le_refl _, fun k hk => hoth k (by omega)⟩, by rw [hsz]; exact h.base_le, h.g_le, h.g_len, h.fresh, by rw [hsz]; exact h.real, h.own, h.glob, fun i o e => ?_, h.inj⟩
  obtain ⟨h3, r', d', o', k1, k2, k3⟩ := h.blk i o e
  refine ⟨h3, r', d', o', k1, ?_, k3⟩
  rw [hoth r' (fun e' => ?_)]
  · exact k2
  · subst e'
    by_cases hG : G ≤ i
    · exact hsep i o d' hG e k1
    · have := h.glob i (by omega)
      rw [this] at k1
      cases k1
      have := h.g_le
      omega
theorem HR.extra (h : HR P G base w0 top m A w) (o' : Obj) : HR P G base w0 top m A (w.alloc o') ∧ Sep G m A w.heap.size := by
  have hsz : (w.alloc o').heap = w.heap.push o' := rfl
  have hbl := h.base_le
  refine ⟨⟨h.below.trans ⟨rfl, rfl, rfl, by simp, fun k hk => ?_⟩, by simp; omega, h.g_le, h.g_len, h.fresh, fun b r d e => by have := h.real b r d e; simp; omega, h.own, h.glob, fun i o e => ?_, h.inj⟩, fun b o d hG e k => ?_⟩
  · rw [hsz, Array.getElem?_push, if_neg (by omega)]
  · obtain ⟨h3, r', d', o2, k1, k2, k3⟩ := h.blk i o e
    have := h.real _ _ _ k1
    exact ⟨h3, r', d', o2, k1, by rw [hsz, Array.getElem?_push, if_neg (by omega)]; exact k2, k3⟩
  · have := h.real _ _ _ k
    omega
end
theorem setCell_other (w : World) (a : Addr) (v : Value) : (w.setCell a v).heap.size = w.heap.size ∧ ∀ i, i ≠ a.block → (w.setCell a v).heap[i]? = w.heap[i]? := by
  refine ⟨by simp [World.setCell], fun i hi => ?_⟩
  simp only [World.setCell]
  rw [Array.getElem?_modify, if_neg (fun e => hi e.symm)]
noncomputable def triedO (P : Program) : CallF → Array Value → Heap → Option (Value × Heap) := fun call args A =>
  match args.toList with
  | [.func (.func f) x y] => match P.funcs[f]? with
    | some fn => match fn.body with
      | some _ => match call f (x ++ y) A with
        | some (_, A') => some (.agg #[.int .i64 0, .int .i64 0], A')
        | none => none
      | none => none
    | none => none
  | _ => none
theorem tried_ok {base top : Nat} {w0 : World} (G : Nat) : OrcOne Tryz.prog G base top w0 40 (triedO Tryz.prog) := by
  intro call hcall args A v A' h
  unfold triedO at h
  split at h
  rotate_left
  · cases h
  rename_i f x y hl
  have hargs := arr_one hl
  subst hargs
  split at h
  rotate_left
  · cases h
  rename_i fn hf
  split at h
  rotate_left
  · cases h
  rename_i c hb
  split at h
  rotate_left
  · cases h
  rename_i u B hc
  cases h
  obtain ⟨hn, _⟩ := hcall 0 f (x ++ y) A u A' hc
  refine ⟨hn, fun ht m args' w ha hr => ?_⟩
  obtain ⟨v', rfl, hv⟩ := av_one ha
  cases hv with
  | @func _ f2 _ x' _ y' hfr hx ex hy ey =>
    have : f2 = .func f := by cases f2 <;> simp [FR] at hfr ⊢; exact hfr.symm
    subst this
    have hall : AV m (x ++ y) (x' ++ y') := AV.append ⟨hx, ex⟩ ⟨hy, ey⟩
    obtain ⟨hr1, hsep⟩ := hr.extra (.cells #[.int .i64 0, .int .i64 0] 92)
    have hcl := (hcall top f (x ++ y) A u A' hc).2 ht m (x' ++ y') _ hall hr1
    have hF : (w.alloc (.cells #[.int .i64 0, .int .i64 0] 92)).heap[w.heap.size]? = some (.cells #[.int .i64 0, .int .i64 0] 92 (0, 0)) := by
      show (w.heap.push _)[w.heap.size]? = _
      rw [Array.getElem?_push_size]
    refine (tried_run hf hb x' y' w (fun w1 => ∃ m', Sub m m' ∧ HR Tryz.prog G base w0 top m' A' w1 ∧ Keep G m A (w.alloc (.cells #[.int .i64 0, .int .i64 0] 92)) m' A' w1) (hcl.mono ?_)).mono ?_
    · intro e w1 h
      cases e with
      | panicked ch => exact h
      | outgrown => exact h
      | returned v1 =>
        obtain ⟨m', k1, k2, k3, k4⟩ := h
        refine ⟨⟨m', k1, k3, k4⟩, ?_⟩
        rw [(k4.1.2 w.heap.size (by simp) hsep).1]
        exact hF
    · intro e w' h
      cases e with
      | panicked ch => exact h
      | outgrown => exact h
      | returned v1 =>
        obtain ⟨rfl, w1, ⟨m', k1, k3, k4⟩, k5, rfl⟩ := h
        have hbl := hr.base_le
        have hsep1 := (k4.1.2 w.heap.size (by simp) hsep).2
        have s1 := setCell_other w1 ⟨w.heap.size, 0, none⟩ (.int .i64 0)
        have s2 := setCell_other (w1.setCell ⟨w.heap.size, 0, none⟩ (.int .i64 0)) ⟨w.heap.size, 1, none⟩ (.int .i64 0)
        have hr2 := (k3.other hbl hsep1 s1.1 s1.2 rfl rfl rfl).other hbl hsep1 s2.1 s2.2 rfl rfl rfl
        refine ⟨m', k1, .agg rfl fun i v v' a b => ?_, hr2, ⟨?_, fun r hr' hs => ?_⟩, k4.2.1, k4.2.2⟩
        · match i with
          | 0 => simp at a b; subst a; subst b; exact .int _ _
          | 1 => simp at a b; subst a; subst b; exact .int _ _
          | (i + 2) => simp at a
        · rw [s2.1, s1.1]
          have := k4.1.1
          simp at this
          omega
        · have hne : r ≠ w.heap.size := by omega
          obtain ⟨g1, g2⟩ := k4.1.2 r (by simp; omega) hs
          refine ⟨?_, g2⟩
          rw [s2.2 r hne, s1.2 r hne, g1]
          show (w.heap.push _)[r]? = _
          rw [Array.getElem?_push, if_neg hne]
end Go.Am
end
section
namespace Go.Am
open Go.Proofs Go.RowKit
section
variable {P : Program} {Q : Exit → Act → World → Prop} {a : Act} {w : World}
theorem atR_flat (b : Frame) (a : Act) (k : List Item) : ({ b with roundOf := none } : Frame).atR a k = b.at a k := by simp [Frame.atR, Frame.at]
theorem wp_rangeFunc {g : Operand} {ps : Array Tmp} {assign body : Code}
    (h : ∀ fn, ∃ (l : Nat) (mark : List Deferred) (w₁ : World) (d : Deferred) (w₁' : World) (f : FuncId) (args : Array Value) (w₂ : World),
      (Instr.enterLoop fn a.tmps ps assign body none).run P w = .ok (l, mark) w₁ ∧ (resolve a.eval (rangeCall g l) 0).run P w₁ = .ok d w₁' ∧ (invoke d.target d.args).run P w₁' = .ok (.enter f args) w₂ ∧
      Calls P f args w₂ (fun e w₃ => match e with
        | .returned _ => ∃ w₄, (Instr.endLoop l).run P w₃ = .ok none w₄ ∧ Q .normal { a with defers := mark ++ a.defers } w₄
        | .outgrown => False
        | .panicked _ => False)) :
    (Code.rangeFunc g ps assign body).wp P Q a w := by
  intro b k cs
  obtain ⟨l, mark, w₁, d, w₁', f, args, w₂, he, hres, hinv, hcall⟩ := h b.fn
  have henter := stepR_rangeFunc (P := P) (b := { b with roundOf := none }) (a := a) (k := k) (cs := cs) (w := w) he hres hinv
  rw [atR_flat, atR_flat] at henter
  obtain ⟨e, w₃, fr, hR, hsteps, hleave⟩ := hcall (b.at { a with defers := mark ++ a.defers } (.inRangeFunc l :: k) :: cs)
  cases e with
  | panicked ch => exact hR.elim
  | outgrown => exact hR.elim
  | returned v =>
    obtain ⟨w₄, hend, hq⟩ := hR
    refine ⟨.normal, _, w₄, hq, ?_⟩
    refine Steps.trans (.one henter) (Steps.trans hsteps (Steps.trans (.one (step_leave_returned hleave.2)) (.one ?_)))
    have h1 := finish_atR_inRangeFunc (b := { b with roundOf := none }) (a := { a with defers := mark ++ a.defers }) (k := k) l v
    rw [atR_flat, atR_flat] at h1
    rw [h1]
    have h2 := stepR_endRangeFunc (P := P) (b := { b with roundOf := none }) (a := { a with defers := mark ++ a.defers }) (k := k) (cs := cs) hend
    rw [atR_flat, atR_flat] at h2
    exact h2
theorem callsD_of_wp_mark {f : FuncId} {fn : Func} {c : Code} {args : Array Value} {u : FrameMode} {w : World} {R : Ending → World → Prop}
    (hf : P.funcs[f]? = some fn) (hb : fn.body = some c)
    (h : c.wp P (fun e a w => match e with
      | .normal => ∃ r w' v, a.defers = [{ target := .collected r, args := #[] }] ∧ (Instr.takeDeferred r).run P w = .ok [] w' ∧ (results fn a.tmps).run P w' = .ok v w' ∧ R (.returned v) w'
      | .outgrown => R .outgrown w
      | _ => False) { tmps := args ++ Array.replicate (fn.ntmps - args.size) undef, defers := [] } w) :
    CallsD P f args u w fun e u' w' => u' = u ∧ R e w' := by
  intro c₀ cs hu
  let b : Frame := { (default : Frame) with fn := f, kind := .deferred }
  have henter : Frame.enter P f args .deferred =
      b.at { tmps := args ++ Array.replicate (fn.ntmps - args.size) undef, defers := [] } [.code c] := by
    simp [Frame.enter, Frame.at, hf, hb, b]
  have hc : ({ c₀ with mode := u } : Frame) = c₀ := by subst hu; rfl
  obtain ⟨e, a', w', hq, harr⟩ := h b [] (c₀ :: cs)
  rw [← henter] at harr
  cases e with
  | normal =>
    obtain ⟨r, w2, v, hd, htake, hr, hR⟩ := hq
    have h1 := step_collected (P := P) (fr := { b.at a' [] with mode := .returning }) (cs := c₀ :: cs) (d := { target := .collected r, args := #[] }) (ds := []) (by simp) (by simpa [Frame.at] using hd) rfl htake
    refine ⟨.returned v, u, w2, _, ⟨rfl, hR⟩, (by rw [hc]; exact Steps.trans harr (Steps.trans (.one step_end) (.one h1))), rfl, rfl, rfl, fn, hf, hr⟩
  | ret => exact hq.elim
  | panic chain => exact hq.elim
  | exit id => exact hq.elim
  | goto l => exact hq.elim
  | outgrown => exact ⟨.outgrown, u, w', b, ⟨rfl, hq⟩, harr.resolve_left (by simp [b]), rfl, trivial⟩
end
end Go.Am
end
section
namespace Go.Am
open Go.Proofs Go.RowKit
def backPost (P : Program) (fn : Func) (R : Ending → World → Prop) : Exit → Act → World → Prop
  | .normal, a, w => ∃ r w' v, a.defers = [{ target := .collected r, args := #[] }] ∧ (Instr.takeDeferred r).run P w = .ok [] w' ∧ (results fn a.tmps).run P w' = .ok v w' ∧ R (.returned v) w'
  | .outgrown, _, w => R .outgrown w
  | _, _, _ => False
theorem callsD_of_mark {P : Program} {f : FuncId} {fn : Func} {c : Code} {args : Array Value} {u : FrameMode} {w : World} {R : Ending → World → Prop}
    (hf : P.funcs[f]? = some fn) (hb : fn.body = some c)
    (h : c.wp P (backPost P fn R) { tmps := args ++ Array.replicate (fn.ntmps - args.size) undef, defers := [] } w) :
    CallsD P f args u w fun e u' w' => u' = u ∧ R e w' := by
  refine callsD_of_wp_mark hf hb (wp_mono h ?_)
  intro e a w h
  cases e <;> exact h
theorem cell_lt {w : World} {p : Addr} {u : Value} (h : w.cell? p = some u) : p.block < w.heap.size := by
  unfold World.cell? at h
  split at h
  · rename_i hw; exact (Array.getElem?_eq_some_iff.1 hw).1
  · cases h
theorem cellA {w : World} {p : Addr} {u : Value} (o : Obj) (h : w.cell? p = some u) : (w.alloc o).cell? p = some u := by
  have hlt := cell_lt h
  have e : (w.alloc o).heap[p.block]? = w.heap[p.block]? := by
    show (w.heap.push o)[p.block]? = _
    rw [Array.getElem?_push, if_neg (by omega)]
  unfold World.cell? at h ⊢
  rw [e]
  exact h
theorem frozenA {w : World} {p : Addr} (o : Obj) (hlt : p.block < w.heap.size) (h : w.frozen? p = false) : (w.alloc o).frozen? p = false := by
  have e : (w.alloc o).heap[p.block]? = w.heap[p.block]? := by
    show (w.heap.push o)[p.block]? = _
    rw [Array.getElem?_push, if_neg (by omega)]
  unfold World.frozen? at h ⊢
  rw [e]
  exact h
theorem cellP {w : World} {p : Addr} {u : Value} {l : Nat} {o : Obj} (hne : p.block ≠ l) (h : w.cell? p = some u) : (w.putObj l o).cell? p = some u := by
  unfold World.cell? at h ⊢
  rw [World.putObj_heap_other hne]
  exact h
theorem frozenP {w : World} {p : Addr} {l : Nat} {o : Obj} (hne : p.block ≠ l) (h : w.frozen? p = false) : (w.putObj l o).frozen? p = false := by
  unfold World.frozen? at h ⊢
  rw [World.putObj_heap_other hne]
  exact h
theorem cellN (w : World) (v : Value) (e : TypeId) : (w.alloc (.cells #[v] e)).cell? ⟨w.heap.size, 0, none⟩ = some v := by
  have : (w.alloc (.cells #[v] e)).heap[w.heap.size]? = some (.cells #[v] e (0, 0)) := by
    show (w.heap.push _)[w.heap.size]? = _
    rw [Array.getElem?_push_size]
  rw [Lib.cell_of_heap this]; rfl
theorem loop_end {P : Program} {W : World} {r : Loop} (h : r.state = .ready) (hp : r.pending = none) :
    (Instr.endLoop (W.heap.size + 1)).run P ((W.alloc (.deferred (some []))).alloc (.loop r)) = .ok none (((W.alloc (.deferred (some []))).alloc (.loop r)).putObj (W.heap.size + 1) (.loop { r with state := .exhausted })) := by
  have h1 := World.alloc_heap_new (W.alloc (.deferred (some []))) (.loop r)
  rw [World.size_alloc] at h1
  rw [run_endLoop h1 (by rw [h]; simp), hp]
theorem loop_world (W : World) (r r' : Loop) (W5 : World) (h : ((W.alloc (.deferred (some []))).alloc (.loop r)).putObj (W.heap.size + 1) (.loop r') = W5) :
    (∀ p u, W.cell? p = some u → W5.cell? p = some u) ∧ (∀ p u, W.cell? p = some u → W.frozen? p = false → W5.frozen? p = false) ∧ W5.heap[W.heap.size]? = some (.deferred (some [])) ∧ (∀ B, B ≤ W.heap.size → Below B W W5) ∧ W5.heap.size = W.heap.size + 2 := by
  subst h
  refine ⟨fun p u hc => ?_, fun p u hc hf => ?_, ?_, fun B hB => ?_, by simp⟩
  · have := cell_lt hc
    exact cellP (by omega) (cellA _ (cellA _ hc))
  · have := cell_lt hc
    exact frozenP (by omega) (frozenA _ (by simp; omega) (frozenA _ this hf))
  · rw [World.putObj_heap_other (by omega)]
    have e : ((W.alloc (.deferred (some []))).alloc (.loop r)).heap[W.heap.size]? = (W.alloc (.deferred (some []))).heap[W.heap.size]? := by
      show ((W.alloc (.deferred (some []))).heap.push _)[W.heap.size]? = _
      rw [Array.getElem?_push, if_neg (by simp)]
    rw [e]
    exact World.alloc_heap_new _ _
  · have h1 := ((Below.refl B W).alloc hB (.deferred (some []))).alloc (by simp; omega) (.loop r)
    exact h1.trans ⟨rfl, rfl, rfl, by simp, fun k hk => World.putObj_heap_other (by omega)⟩
set_option maxHeartbeats 1000000 in
set_option maxRecDepth 100000 in
theorem none345 (y : Value) (b : Nat) (w : World) (h : w.cell? ⟨b, 0, none⟩ = some (.slice none 0 0)) :
    Calls Tryz.prog 345 #[y, .pointer (some ⟨b, 0, none⟩)] w fun e w' => e = .returned (.tuple #[]) ∧ w' = w := by
  go_enter Tryz.func345, Tryz.ntmps345
  go_wp2
  refine wp_loop_once ?_
  go_wp2
  go_end0
  exact ⟨rfl, rfl⟩
set_option maxHeartbeats 1000000 in
set_option maxRecDepth 100000 in
theorem seq301 (w : World) : Calls Tryz.prog 301 #[.slice none 0 0] w fun e w' => e = .returned (.func (.func 345) #[] #[.pointer (some ⟨w.heap.size, 0, none⟩)]) ∧ w' = w.alloc (.cells #[.slice none 0 0] 424) := by
  have hmf : ∀ (fn : Fn) (first cap : Array Value) (w : World), (Instr.makeFunc fn first cap).run Tryz.prog w = .ok (.func fn first cap) w := fun _ _ _ _ => rfl
  go_enter Tryz.func301, Tryz.ntmps301
  go_wp2
  go_ret
  exact ⟨rfl, rfl⟩
set_option maxHeartbeats 1000000 in
set_option maxRecDepth 100000 in
theorem addr_add_zero (b : Addr) : b.add 0 = b := by
  unfold Addr.add
  split
  · rfl
  · rename_i h; cases b; simp at h ⊢
theorem bounds_own (l c own : Nat) (h : own ≤ c) : bounds3 l c none (some (.int .i64 own)) none = some (0, own, c) := by
  have h1 : Nat.ble 0 own = true := Nat.ble_eq_true_of_le (Nat.zero_le _)
  have h2 : Nat.ble own c = true := Nat.ble_eq_true_of_le h
  have h3 : Nat.ble c c = true := Nat.ble_eq_true_of_le (Nat.le_refl _)
  show (match Nat.ble 0 own, Nat.ble own c, Nat.ble c c with
    | true, true, true => some (0, own, c)
    | _, _, _ => none) = _
  rw [h1, h2, h3]
theorem info184 : ∃ j, Tryz.prog.info? 3 = some j ∧ True := by
  have : ((Tryz.prog.info? 3).isSome) = true := by kernel_rfl
  obtain ⟨j, hj⟩ := Option.isSome_iff_exists.1 this
  exact ⟨j, hj, trivial⟩
set_option maxHeartbeats 1000000 in
set_option maxRecDepth 100000 in
theorem back_run (r o q n l c own : Nat) (b : Addr) (u : FrameMode) (w : World) (h0 : w.cell? ⟨r, o, none⟩ = some (.pointer (some ⟨q, n, none⟩))) (h2 : w.cell? ⟨r, o + 2, none⟩ = some (.int .i64 own)) (h3 : w.cell? ⟨r, o + 3, none⟩ = some (.slice none 0 0))
    (hp : w.cell? ⟨q, n + 6, none⟩ = some (.slice (some b) l c)) (hz : w.frozen? ⟨q, n + 6, none⟩ = false) (hown : own ≤ c) :
    CallsD Tryz.prog 252 #[.pointer (some ⟨r, o, none⟩)] u w fun e u' w' => u' = u ∧ (e = .returned (.tuple #[]) ∧ Below w.heap.size (w.setCell ⟨q, n + 6, none⟩ (.slice (some b) own c)) w') := by
  refine callsD_of_mark Tryz.func252 rfl ?_
  simp only [Tryz.ntmps252, List.size_toArray, List.length_cons, List.length_nil, Nat.reduceAdd, Nat.reduceSub, Array.replicate_succ, Array.replicate_zero, List.push_toArray, List.append_toArray, List.nil_append, List.cons_append]
  have hr : r < w.heap.size := cell_lt h0
  have hq : q < w.heap.size := cell_lt hp
  have a3 := cellA (.cells #[.pointer (some ⟨r, o, none⟩)] 419) h3
  have aN := cellN w (.pointer (some ⟨r, o, none⟩)) 419
  go_wp2_with (go_at_call 301; refine (seq301 _).mono ?_; rintro e w' ⟨rfl, rfl⟩)
  generalize hW2 : (w.alloc (.cells #[.pointer (some ⟨r, o, none⟩)] 419)).alloc (.cells #[.slice none 0 0] 424) = W2
  have hs2 : W2.heap.size = w.heap.size + 2 := by rw [← hW2]; simp
  have b0 : W2.cell? ⟨w.heap.size, 0, none⟩ = some (.pointer (some ⟨r, o, none⟩)) := by rw [← hW2]; exact cellA _ aN
  have b1 : W2.cell? ⟨r, o, none⟩ = some (.pointer (some ⟨q, n, none⟩)) := by rw [← hW2]; exact cellA _ (cellA _ h0)
  have b2 : W2.cell? ⟨r, o + 2, none⟩ = some (.int .i64 own) := by rw [← hW2]; exact cellA _ (cellA _ h2)
  have bp : W2.cell? ⟨q, n + 6, none⟩ = some (.slice (some b) l c) := by rw [← hW2]; exact cellA _ (cellA _ hp)
  have bz : W2.frozen? ⟨q, n + 6, none⟩ = false := by rw [← hW2]; exact frozenA _ (by simp; omega) (frozenA _ hq hz)
  have bn : W2.cell? ⟨w.heap.size + 1, 0, none⟩ = some (.slice none 0 0) := by
    rw [← hW2]
    have := cellN (w.alloc (.cells #[.pointer (some ⟨r, o, none⟩)] 419)) (.slice none 0 0) 424
    rw [World.size_alloc] at this
    exact this
  have bB : Below w.heap.size w W2 := by rw [← hW2]; exact ((Below.refl _ w).alloc (Nat.le_refl _) _).alloc (by simp) _
  clear hW2 a3 aN
  refine wp_rangeFunc fun fn => ⟨_, _, _, _, _, 345, _, _, run_enterLoop_outer fn _ _ _ _, rfl, enters 345 _ _ Tryz.func345 rfl _ _, ?_⟩
  conv => arg 3; simp [rangeCall, Act.eval]
  refine (none345 _ (w.heap.size + 1) _ (cellA _ (cellA _ bn))).mono ?_
  rintro e w' ⟨rfl, rfl⟩
  refine ⟨_, loop_end rfl rfl, ?_⟩
  generalize hW5 : World.putObj _ _ _ = W5
  obtain ⟨g1, g2, g3, g4, g5⟩ := loop_world _ _ _ _ hW5
  have c0 : W5.drew.cell? ⟨w.heap.size, 0, none⟩ = some (.pointer (some ⟨r, o, none⟩)) := g1 _ _ b0
  have c1 : W5.drew.cell? ⟨r, o, none⟩ = some (.pointer (some ⟨q, n, none⟩)) := g1 _ _ b1
  have c2 : W5.drew.cell? ⟨r, o + 2, none⟩ = some (.int .i64 own) := g1 _ _ b2
  have cp : W5.drew.cell? ⟨q, n + 6, none⟩ = some (.slice (some b) l c) := g1 _ _ bp
  have cz : W5.drew.frozen? ⟨q, n + 6, none⟩ = false := g2 _ _ bp bz
  have mixed := mixed
  clear hW5
  go_wp2
  have hsl : ∀ W : World, (Instr.sliceAt 184 (.slice (some b) l c) none (some (.int .i64 own)) none).run Tryz.prog W = .ok (.slice (some b) own c) W := by
    intro W
    obtain ⟨k', hk, _, _, _, hkc, _⟩ := bounds3_run (P := Tryz.prog) (m := fun _ => none) (l := l) (c := c) (c' := c) (i := 0) (j := own) (k := c) (lo := none) (hi := some (.int .i64 own)) (mx := none) (lo' := none) (hi' := some (.int .i64 own)) (mx' := none)
      (bounds_own l c own hown) .none (.some (.int _ _)) .none (Nat.le_refl _) (.inl rfl) true W
    have := (hkc rfl).1
    subst this
    obtain ⟨j, hj, _⟩ := info184
    rw [run_slice_row Tryz.underlying184 hj hk]
    have hb0 : b.add 0 = b := addr_add_zero b
    by_cases h0 : k' = 0 <;> simp [h0, hb0]
  go_region_o
  have hB5 : Below w.heap.size w W5 := bB.trans (g4 _ (by omega))
  have s5 := setCell_other W5 ⟨q, n + 6, none⟩ (.slice (some b) own c)
  have hD : ((W5.setCell ⟨q, n + 6, none⟩ (.slice (some b) own c)).drew).heap[W2.heap.size]? = some (.deferred (some [])) := by
    show (W5.setCell ⟨q, n + 6, none⟩ (.slice (some b) own c)).heap[W2.heap.size]? = _
    rw [s5.2 _ (by simp; omega)]
    exact g3
  refine ⟨W2.heap.size, _, .tuple #[], rfl, run_takeDeferred hD, results_none rfl _ _ _, rfl, ?_⟩
  have hz5 := hB5.size
  refine ⟨hB5.os, hB5.tape, hB5.output, ?_, fun k hk => ?_⟩
  · simp [s5.1, (setCell_other w ⟨q, n + 6, none⟩ (.slice (some b) own c)).1]
    omega
  · rw [World.putObj_heap_other (by omega)]
    show (W5.setCell ⟨q, n + 6, none⟩ (.slice (some b) own c)).heap[k]? = _
    simp only [World.setCell]
    rw [Array.getElem?_modify, Array.getElem?_modify, hB5.block k hk]
end Go.Am
end
section
namespace Go.Am
open Go.Proofs Go.RowKit
section
variable {P : Program} {G base top : Nat} {w0 : World} {m : Mp} {A : Heap} {w : World}
theorem HR.grow (h : HR P G base w0 top m A w) {w' : World} (hB : Below w.heap.size w w') : HR P G base w0 top m A w' ∧ Keep G m A w m A w' := by
  have hbl := h.base_le
  have hsz := hB.size
  refine ⟨⟨h.below.trans (hB.mono hbl), by omega, h.g_le, h.g_len, h.fresh, fun b r d e => by have := h.real b r d e; omega, h.own, h.glob, fun i o e => ?_, h.inj⟩, ⟨hsz, fun r hr hs => ⟨hB.block r hr, hs⟩⟩, Nat.le_refl _, fun _ => .inl rfl⟩
  obtain ⟨h3, r', d', o2, k1, k2, k3⟩ := h.blk i o e
  exact ⟨h3, r', d', o2, k1, by rw [hB.block r' (h.real _ _ _ k1)]; exact k2, k3⟩
end
noncomputable def backO (G : Nat) : Array Value → Heap → Option Heap := fun args A =>
  match args.toList with
  | [.pointer (some a)] => match a.spot, hget A a.block with
    | none, some (.cells N t e) => match Nat.blt (a.off + 3) N, t.get a.off, t.get (a.off + 2), t.get (a.off + 3) with
      | true, some (.pointer (some p)), some (.int .i64 (.ofNat own)), some (.slice none l0 c0) => match Nat.beq l0 0, Nat.beq c0 0, Nat.ble G p.block, p.spot, hget A p.block with
        | true, true, true, none, some (.cells N' t' e') => match Nat.blt (p.off + 6) N', t'.get (p.off + 6) with
          | true, some (.slice (some b) l c) => match Nat.blt (c % 3) 2, Nat.ble own (c / 3) with
            | true, true => some (hset A p.block (some (.cells N' (t'.set (p.off + 6) (some (.slice (some b) own c))) e')))
            | _, _ => none
          | _, _ => none
        | _, _, _, _, _ => none
      | _, _, _, _ => none
    | _, _ => none
  | _ => none
theorem addr_eta {a : Addr} (h : a.spot = none) : a = ⟨a.block, a.off, none⟩ := by
  obtain ⟨b, o, s⟩ := a
  simp only at h
  subst h
  rfl
theorem back_ok {base top : Nat} {w0 : World} (G : Nat) : OrcDOne Tryz.prog G base top w0 252 (backO G) := by
  intro args A A' h
  unfold backO at h
  split at h
  rotate_left
  · cases h
  rename_i a hl
  have hargs := arr_one hl
  subst hargs
  split at h
  rotate_left
  · cases h
  rename_i N t e hs hA
  split at h
  rotate_left
  · cases h
  rename_i p own l0 c0 hN h0 h2 h3
  have hN := blt_true hN
  split at h
  rotate_left
  · cases h
  rename_i N' t' e' hl0 hc0 hG hps hP
  have hl0 := Nat.eq_of_beq_eq_true hl0
  have hc0 := Nat.eq_of_beq_eq_true hc0
  have hG := ble_true hG
  subst hl0
  subst hc0
  split at h
  rotate_left
  · cases h
  rename_i b l c hN' h6
  have hN' := blt_true hN'
  split at h
  rotate_left
  · cases h
  rename_i hc3 hown
  have hc3 := blt_true hc3
  have hown := ble_true hown
  cases h
  refine ⟨Nat.le_refl _, fun ht m args' w ha hr => ⟨⟨_, _, Tryz.func252, rfl⟩, fun u hu => ?_⟩⟩
  obtain ⟨v', rfl, hv⟩ := av_one ha
  obtain ⟨a', rfl, haa⟩ := vr_ptr hv
  have hae : a' = ⟨a'.block, a.off, none⟩ := by have := addr_eta (haa.2.2.trans hs); rw [haa.2.1] at this; exact this
  have cellAt : ∀ (i : Nat) (x : Value), a.off + i < N → t.get (a.off + i) = some x → ∃ x', w.cell? ⟨a'.block, a.off + i, none⟩ = some x' ∧ VR m x x' := by
    intro i x hi hx
    exact hr.cell (a := ⟨a.block, a.off + i, none⟩) (a' := ⟨a'.block, a.off + i, none⟩) ⟨haa.1, rfl, rfl⟩ hA rfl hi hx
  obtain ⟨x0, c0, v0⟩ := cellAt 0 _ (by omega) h0
  obtain ⟨x2, c2, v2⟩ := cellAt 2 _ (by omega) h2
  obtain ⟨x3, c3, v3⟩ := cellAt 3 _ hN h3
  obtain ⟨p', rfl, hpp⟩ := vr_ptr v0
  cases v2
  cases v3
  have hpe : p' = ⟨p'.block, p.off, none⟩ := by have := addr_eta (hpp.2.2.trans hps); rw [hpp.2.1] at this; exact this
  have hap : AR m ⟨p.block, p.off + 6, none⟩ ⟨p'.block, p.off + 6, none⟩ := ⟨hpp.1, rfl, rfl⟩
  obtain ⟨x6, c6, v6⟩ := hr.cell hap hP rfl hN' h6
  have key : ∃ b' c', x6 = .slice (some b') l c' ∧ own ≤ c' ∧ VR m (.slice (some b) own c) (.slice (some b') own c') := by
    cases v6 with
    | slice l c h => exact ⟨_, _, rfl, by omega, .slice _ _ h⟩
    | sliceUp l c h hd => exact ⟨_, _, rfl, by omega, .sliceUp _ _ h hd⟩
    | sliceEnd c hd => omega
  obtain ⟨b', c', rfl, hle, hvr⟩ := key
  obtain ⟨_, hz, hput, hkeep⟩ := hr.setCell hap hG hP rfl hN' hvr
  rw [hpe] at c0
  have hrun := back_run a'.block a.off p'.block p.off l c' own b' u w c0 c2 c3 c6 hz hle
  rw [← hae] at hrun
  refine hrun.mono ?_
  rintro e u' w' ⟨rfl, rfl, hB⟩
  obtain ⟨hr2, hk2⟩ := hput.grow (w' := w') (by rw [(setCell_other w _ _).1]; exact hB)
  exact ⟨rfl, m, Sub.refl _, hr2, hkeep.trans hk2⟩
end Go.Am
end
section
namespace Go.Am
open Go.Proofs Go.RowKit
set_option maxHeartbeats 1000000 in
set_option maxRecDepth 100000 in
theorem seq127 (s : Option Addr) (r : Addr) (w : World) : Calls Tryz.prog 127 #[.pointer s, .pointer (some r), .int .i64 0] w fun e w' => e = .returned (.func (.func 198) #[] #[.pointer (some ⟨w.heap.size + 2, 0, none⟩), .pointer (some ⟨w.heap.size, 0, none⟩), .pointer (some ⟨w.heap.size + 1, 0, none⟩)]) ∧
    w' = ((w.alloc (.cells #[.pointer s] 102)).alloc (.cells #[.pointer (some r)] 122)).alloc (.cells #[.int .i64 0] 3) := by
  have hmf : ∀ (fn : Fn) (first cap : Array Value) (w : World), (Instr.makeFunc fn first cap).run Tryz.prog w = .ok (.func fn first cap) w := fun _ _ _ _ => rfl
  go_enter Tryz.func127, Tryz.ntmps127
  go_wp2
  go_ret
  exact ⟨rfl, rfl⟩
set_option maxHeartbeats 1000000 in
set_option maxRecDepth 100000 in
theorem seq199 (s : Option Addr) (r : Addr) (w : World) : Calls Tryz.prog 199 #[.pointer s, .pointer (some r), .int .i64 0] w fun e w' => e = .returned (.func (.func 247) #[] #[.pointer (some ⟨w.heap.size + 2, 0, none⟩), .pointer (some ⟨w.heap.size + 1, 0, none⟩), .pointer (some ⟨w.heap.size, 0, none⟩)]) ∧
    w' = ((w.alloc (.cells #[.pointer s] 102)).alloc (.cells #[.pointer (some r)] 122)).alloc (.cells #[.int .i64 0] 3) := by
  have hmf : ∀ (fn : Fn) (first cap : Array Value) (w : World), (Instr.makeFunc fn first cap).run Tryz.prog w = .ok (.func fn first cap) w := fun _ _ _ _ => rfl
  go_enter Tryz.func199, Tryz.ntmps199
  go_wp2
  go_ret
  exact ⟨rfl, rfl⟩
set_option maxHeartbeats 1000000 in
set_option maxRecDepth 100000 in
theorem all249 (b o : Nat) (w : World) (h : w.cell? ⟨b, o, none⟩ = some (.pointer none)) : Calls Tryz.prog 249 #[.pointer (some ⟨b, o, none⟩)] w fun e w' => e = .returned (.agg #[.int .i64 0, .int .i64 0]) ∧ Below w.heap.size w w' := by
  have h1 := cellA (.cells #[.int .i64 0, .int .i64 0] 410) h
  go_enter Tryz.func249, Tryz.ntmps249
  go_wp2
  refine ⟨rfl, .agg #[.int .i64 0, .int .i64 0], ?_, rfl, (Below.refl _ w).alloc (Nat.le_refl _) _⟩
  simp [results, Tryz.results249, go_sem]
set_option maxHeartbeats 1000000 in
set_option maxRecDepth 100000 in
theorem len200 (b o : Nat) (w : World) (h : w.cell? ⟨b, o, none⟩ = some (.pointer none)) : Calls Tryz.prog 200 #[.pointer (some ⟨b, o, none⟩)] w fun e w' => e = .returned (.int .i64 0) ∧ Below w.heap.size w w' := by
  have hfield : ∀ W : World, (Instr.field 410 (.agg #[.int .i64 0, .int .i64 0]) 0).run Tryz.prog W = .ok (.int .i64 0) W := fun W => by kernel_rfl
  go_enter Tryz.func200, Tryz.ntmps200
  go_wp2_with (go_at_call 249; refine (all249 b o w h).mono ?_; rintro e w' ⟨rfl, hB⟩)
  go_ret
  exact ⟨rfl, hB⟩
set_option maxHeartbeats 1000000 in
set_option maxRecDepth 100000 in
theorem none247 (y : Value) (ba bs br b o : Nat) (w : World) (ha : w.cell? ⟨ba, 0, none⟩ = some (.int .i64 0)) (hr : w.cell? ⟨br, 0, none⟩ = some (.pointer (some ⟨b, o, none⟩))) (h : w.cell? ⟨b, o, none⟩ = some (.pointer none)) :
    Calls Tryz.prog 247 #[y, .pointer (some ⟨ba, 0, none⟩), .pointer (some ⟨br, 0, none⟩), .pointer (some ⟨bs, 0, none⟩)] w fun e w' => e = .returned (.tuple #[]) ∧ Below w.heap.size w w' := by
  go_enter Tryz.func247, Tryz.ntmps247
  go_wp2
  refine wp_loop_once ?_
  go_wp2_with (go_at_call 200; refine (len200 b o w h).mono ?_; rintro e w' ⟨rfl, hB⟩)
  go_end0
  exact ⟨rfl, hB⟩
end Go.Am
end
