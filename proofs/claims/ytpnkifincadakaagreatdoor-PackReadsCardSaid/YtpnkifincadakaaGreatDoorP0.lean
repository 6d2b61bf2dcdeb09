/- Proved: part 0 of the proof of PackReads (AmDef). Conditions: each theorem states its own. -/
import Derived.Defers
import Derived.Laws.MakeOwn
import Derived.Laws.Tables
import Derived.Orders
import Derived.ProofKit
import Derived.ScopeJumps
set_option linter.unusedVariables false
set_option linter.unusedSimpArgs false
section
namespace Go.Am
inductive Tr (α : Type) : Type where
  | leaf
  | node (l : Tr α) (v : Option α) (r : Tr α)
noncomputable def Tr.pick {β : Type} (n : Nat) (a b c : β) : β := Bool.rec (Bool.rec c b (Nat.beq (Nat.mod n 2) 1)) a (Nat.beq n 0)
noncomputable def Tr.get {α : Type} (t : Tr α) : Nat → Option α :=
  Tr.rec (fun _ => none) (fun _ v _ l r n => Tr.pick n v (l (Nat.div n 2)) (r (Nat.sub (Nat.div n 2) 1))) t
noncomputable def Tr.setF {α : Type} (v : Option α) (f : Nat) : Tr α → Nat → Tr α :=
  Nat.rec (fun t _ => t) (fun _ ih t n =>
    Tr.rec (motive := fun _ => Tr α)
      (Tr.pick n (.node .leaf v .leaf) (.node (ih .leaf (Nat.div n 2)) none .leaf) (.node .leaf none (ih .leaf (Nat.sub (Nat.div n 2) 1))))
      (fun l u r _ _ => Tr.pick n (.node l v r) (.node (ih l (Nat.div n 2)) u r) (.node l u (ih r (Nat.sub (Nat.div n 2) 1)))) t) f
noncomputable def Tr.set {α : Type} (t : Tr α) (n : Nat) (v : Option α) : Tr α := setF v (Nat.succ n) t n
theorem Tr.tri (n : Nat) : (Nat.beq n 0 = true ∧ n = 0) ∨ (Nat.beq n 0 = false ∧ Nat.beq (n % 2) 1 = true ∧ n ≠ 0 ∧ n % 2 = 1) ∨ (Nat.beq n 0 = false ∧ Nat.beq (n % 2) 1 = false ∧ n ≠ 0 ∧ n % 2 = 0) := by
  have hcase : n = 0 ∨ (n ≠ 0 ∧ n % 2 = 1) ∨ (n ≠ 0 ∧ n % 2 = 0) := by omega
  rcases hcase with rfl | ⟨h0, h1⟩ | ⟨h0, h1⟩
  · exact .inl ⟨rfl, rfl⟩
  · refine .inr (.inl ⟨?_, by rw [h1]; rfl, h0, h1⟩)
    cases n with
    | zero => exact absurd rfl h0
    | succ n => rfl
  · refine .inr (.inr ⟨?_, by rw [h1]; rfl, h0, h1⟩)
    cases n with
    | zero => exact absurd rfl h0
    | succ n => rfl
theorem Tr.get_node {α : Type} (l : Tr α) (v : Option α) (r : Tr α) (n : Nat) : (Tr.node l v r).get n = Tr.pick n v (l.get (n / 2)) (r.get (n / 2 - 1)) := rfl
theorem Tr.get_leaf {α : Type} (n : Nat) : (Tr.leaf : Tr α).get n = none := rfl
theorem Tr.pick_cases {β : Type} (n : Nat) (a b c : β) : (n = 0 ∧ Tr.pick n a b c = a) ∨ (n ≠ 0 ∧ n % 2 = 1 ∧ Tr.pick n a b c = b) ∨ (n ≠ 0 ∧ n % 2 = 0 ∧ Tr.pick n a b c = c) := by
  have hu : Tr.pick n a b c = Bool.rec (Bool.rec c b (Nat.beq (n % 2) 1)) a (Nat.beq n 0) := rfl
  rcases tri n with ⟨a1, a2⟩ | ⟨a1, a2, a3, a4⟩ | ⟨a1, a2, a3, a4⟩
  · exact .inl ⟨a2, by rw [hu, a1]⟩
  · exact .inr (.inl ⟨a3, a4, by rw [hu, a1, a2]⟩)
  · exact .inr (.inr ⟨a3, a4, by rw [hu, a1, a2]⟩)
theorem Tr.get_setF {α : Type} (v : Option α) (f : Nat) : ∀ (t : Tr α) (n m : Nat), n < f → (setF v f t n).get m = if m = n then v else t.get m := by
  induction f with
  | zero => intro t n m h; omega
  | succ f ih =>
    intro t n m h
    cases t with
    | leaf =>
      have e : setF v (f + 1) .leaf n = Tr.pick n (.node .leaf v .leaf) (.node (setF v f .leaf (n / 2)) none .leaf) (.node .leaf none (setF v f .leaf (n / 2 - 1))) := rfl
      rw [e, get_leaf]
      rcases pick_cases n (Tr.node .leaf v .leaf) (.node (setF v f .leaf (n / 2)) none .leaf) (.node .leaf none (setF v f .leaf (n / 2 - 1))) with ⟨h1, h2⟩ | ⟨h0, h1, h2⟩ | ⟨h0, h1, h2⟩ <;> rw [h2, get_node]
      · rcases pick_cases m v (get .leaf (m / 2)) (get .leaf (m / 2 - 1)) with ⟨k1, k2⟩ | ⟨k0, k1, k2⟩ | ⟨k0, k1, k2⟩ <;> rw [k2]
        · rw [if_pos (by omega)]
        · rw [get_leaf, if_neg (by omega)]
        · rw [get_leaf, if_neg (by omega)]
      · rcases pick_cases m none (get (setF v f .leaf (n / 2)) (m / 2)) (get .leaf (m / 2 - 1)) with ⟨k1, k2⟩ | ⟨k0, k1, k2⟩ | ⟨k0, k1, k2⟩ <;> rw [k2]
        · rw [if_neg (by omega)]
        · rw [ih _ _ _ (by omega), get_leaf]; split <;> split <;> first | rfl | omega
        · rw [get_leaf, if_neg (by omega)]
      · rcases pick_cases m none (get .leaf (m / 2)) (get (setF v f .leaf (n / 2 - 1)) (m / 2 - 1)) with ⟨k1, k2⟩ | ⟨k0, k1, k2⟩ | ⟨k0, k1, k2⟩ <;> rw [k2]
        · rw [if_neg (by omega)]
        · rw [get_leaf, if_neg (by omega)]
        · rw [ih _ _ _ (by omega), get_leaf]; split <;> split <;> first | rfl | omega
    | node l u r =>
      have e : setF v (f + 1) (.node l u r) n = Tr.pick n (.node l v r) (.node (setF v f l (n / 2)) u r) (.node l u (setF v f r (n / 2 - 1))) := rfl
      rw [e, get_node]
      rcases pick_cases n (Tr.node l v r) (.node (setF v f l (n / 2)) u r) (.node l u (setF v f r (n / 2 - 1))) with ⟨h1, h2⟩ | ⟨h0, h1, h2⟩ | ⟨h0, h1, h2⟩ <;> rw [h2, get_node]
      · rcases pick_cases m v (get l (m / 2)) (get r (m / 2 - 1)) with ⟨k1, k2⟩ | ⟨k0, k1, k2⟩ | ⟨k0, k1, k2⟩ <;> rw [k2]
        · rw [if_pos (by omega)]
        · rcases pick_cases m u (get l (m / 2)) (get r (m / 2 - 1)) with ⟨l1, l2⟩ | ⟨l0, l1, l2⟩ | ⟨l0, l1, l2⟩ <;> first | omega | rw [l2, if_neg (by omega)]
        · rcases pick_cases m u (get l (m / 2)) (get r (m / 2 - 1)) with ⟨l1, l2⟩ | ⟨l0, l1, l2⟩ | ⟨l0, l1, l2⟩ <;> first | omega | rw [l2, if_neg (by omega)]
      · rcases pick_cases m u (get (setF v f l (n / 2)) (m / 2)) (get r (m / 2 - 1)) with ⟨k1, k2⟩ | ⟨k0, k1, k2⟩ | ⟨k0, k1, k2⟩ <;> rw [k2] <;> rcases pick_cases m u (get l (m / 2)) (get r (m / 2 - 1)) with ⟨l1, l2⟩ | ⟨l0, l1, l2⟩ | ⟨l0, l1, l2⟩ <;> first | omega | rw [l2]
        · rw [if_neg (by omega)]
        · rw [ih _ _ _ (by omega)]; split <;> split <;> first | rfl | omega
        · rw [if_neg (by omega)]
      · rcases pick_cases m u (get l (m / 2)) (get (setF v f r (n / 2 - 1)) (m / 2 - 1)) with ⟨k1, k2⟩ | ⟨k0, k1, k2⟩ | ⟨k0, k1, k2⟩ <;> rw [k2] <;> rcases pick_cases m u (get l (m / 2)) (get r (m / 2 - 1)) with ⟨l1, l2⟩ | ⟨l0, l1, l2⟩ | ⟨l0, l1, l2⟩ <;> first | omega | rw [l2]
        · rw [if_neg (by omega)]
        · rw [if_neg (by omega)]
        · rw [ih _ _ _ (by omega)]; split <;> split <;> first | rfl | omega
theorem Tr.get_set {α : Type} (t : Tr α) (n m : Nat) (v : Option α) : (t.set n v).get m = if m = n then v else t.get m := get_setF v (n + 1) t n m (by omega)
inductive AObj where
  | cells (n : Nat) (t : Tr Value) (e : TypeId)
  | obj (o : Obj)
structure Heap where
  next : Nat
  t : Tr AObj
noncomputable def hget (A : Heap) (n : Nat) : Option AObj := A.t.get n
noncomputable def hset (A : Heap) (n : Nat) (o : Option AObj) : Heap := ⟨A.next, A.t.set n o⟩
noncomputable def hpush (A : Heap) (o : Option AObj) : Heap := ⟨A.next + 1, A.t.set A.next o⟩
noncomputable def fillT (l : List Value) : Nat → Tr Value → Tr Value :=
  List.rec (fun _ t => t) (fun v _ ih n t => ih (Nat.succ n) (t.set n (some v))) l
noncomputable def grab (t : Tr Value) (n : Nat) : Nat → Option (List Value) :=
  Nat.rec (fun _ => some []) (fun _ ih i => match t.get i with
    | some v => match ih (Nat.succ i) with
      | some l => some (v :: l)
      | none => none
    | none => none) n
noncomputable def ofObj : Obj → AObj
  | .cells c e _ => .cells c.size (fillT c.toList 0 .leaf) e
  | o => .obj o
noncomputable def runA (P : Program) (G : Nat) {α : Type} : Sem α → Heap → Option (α × Heap)
  | .pure a, A => some (a, A)
  | .load _ a k, A =>
    match hget A a.block, a.spot with
    | some (.cells n t _), none => match Nat.blt a.off n, t.get a.off with
      | true, some v => runA P G (k v) A
      | _, _ => none
    | _, _ => none
  | .store _ a v k, A =>
    match Nat.ble G a.block with
    | false => none
    | true =>
    match v with
    | .agg _ => none
    | .tuple _ => none
    | v => match hget A a.block, a.spot with
      | some (.cells n t e), none => match Nat.blt a.off n with
        | true => runA P G k (hset A a.block (some (.cells n (t.set a.off (some v)) e)))
        | false => none
      | _, _ => none
  | .new o k, A => runA P G (k A.next) (hpush A (some (ofObj o)))
  | .shape r k, A =>
    match hget A r with
    | some (.cells n _ e) => runA P G (k (some (e, n))) A
    | some _ => runA P G (k none) A
    | none => none
  | .freeze _ _ _, _ => none
  | .frozen a k, A =>
    match hget A a.block with
    | some (.cells n _ _) => match Nat.blt a.off n with
      | true => runA P G (k false) A
      | false => none
    | _ => none
  | .getObj r k, A =>
    match hget A r with
    | some (.obj o) => runA P G (k o) A
    | _ => none
  | .setObj r o k, A =>
    match Nat.ble G r with
    | false => none
    | true =>
    match ofObj o with
    | .cells .. => none
    | .obj o => match hget A r with
      | some (.obj _) => runA P G k (hset A r (some (.obj o)))
      | _ => none
  | .choose q k, A => match q.forced with
    | true => runA P G (k 0) A
    | false => none
  | .sys _ _, _ => none
  | .program k, A => runA P G (k P) A
  | .mark _ k, A => runA P G k A
  | .halt _, _ => none
abbrev Tmps := Tr Value
noncomputable def getT (t : Tmps) (n : Nat) : Value := match t.get n with | some v => v | none => undef
noncomputable def evalA (t : Tmps) : Operand → Value
  | .tmp n => getT t n
  | .const v => v
  | .global g => .pointer (some ⟨g, 0, none⟩)
  | .func f => .func (.func f) #[] #[]
noncomputable def putT (t : Tmps) : Option Tmp → Value → Tmps
  | some d, v => t.set d (some v)
  | none, _ => t
mutual
noncomputable def plain : Nat → Value → Bool
  | 0, _ => false
  | n + 1, v => match v with
    | .bool _ | .int _ _ | .float _ _ | .complex _ _ _ | .string _ | .pointer none | .slice none _ _ | .map none | .nilFunc | .nilIface => true
    | .iface _ v => plain n v
    | .agg cs => plains n cs.toList
    | .tuple cs => plains n cs.toList
    | _ => false
noncomputable def plains : Nat → List Value → Bool
  | 0, _ => false
  | _ + 1, [] => true
  | n + 1, v :: l => match plain n v with | true => plains n l | false => false
end
noncomputable def zeroOk (P : Program) (t : TypeId) : Bool :=
  match P.info? t with
  | some i => match i.zero with
    | some z => plain 3000 z
    | none => true
  | none => true
noncomputable def newsA (s : Nat) (x : Value) (A : Heap) : Option (List Value × Nat) :=
  match x with
  | .slice (some a) n _ => match hget A a.block, a.spot with
    | some (.cells m t _), none => match Nat.ble (a.off + n * s) m, grab t (n * s) a.off with
      | true, some l => some (l, n)
      | _, _ => none
    | _, _ => none
  | .slice none n _ => match Nat.beq n 0 with | true => some ([], 0) | false => none
  | .string b => match Nat.beq s 1 with
    | true => some (b.data.toList.map fun b => .int .u8 b.toNat, b.size)
    | false => none
  | _ => none
noncomputable def isInt : TypeDesc → Bool
  | .slice _ => false
  | .string => false
  | _ => true
noncomputable def isCell : Value → Bool
  | .agg _ => false
  | .tuple _ => false
  | _ => true
noncomputable def allCells : List Value → Bool
  | [] => true
  | v :: l => match isCell v with
    | true => allCells l
    | false => false
noncomputable def zeroSize (i : TypeInfo) : Bool :=
  match i.zero with
  | some z => Nat.beq z.cells.size i.size
  | none => false
noncomputable def appendNil (n s : Nat) (new : List Value) (e : TypeId) (l c : Nat) (A : Heap) : Option (Value × Heap) :=
  match Nat.beq l 0, Nat.beq c 0 with
  | true, true => match Nat.beq n 0 with
    | true => some (.slice none 0 0, A)
    | false => some (.slice (some ⟨A.next, 0, none⟩) n (3 * n + 1), hpush A (some (.cells (n * s) (fillT new 0 .leaf) e)))
  | _, _ => none
noncomputable def appendRow (n s : Nat) (new : List Value) (e : TypeId) (a : Addr) (l c : Nat) (A : Heap) : Option (Value × Heap) :=
  match hget A a.block, a.spot with
  | some (.cells m t e'), none => match Nat.ble (l + n) (c / 3), Nat.blt (c % 3) 2, Nat.beq e' e with
    | true, true, true => match Nat.ble (a.off + l * s + n * s) m with
      | true => some (.slice (some a) (l + n) c, hset A a.block (some (.cells m (fillT new (a.off + l * s) t) e')))
      | false => none
    | false, true, true => match Nat.ble (a.off + l * s) m, grab t (l * s) a.off with
      | true, some old => match Nat.beq (c % 3) 0 with
        | true => some (.slice (some ⟨A.next, 0, none⟩) (l + n) (3 * (l + n) + 1), hpush A (some (.cells (l * s + n * s) (fillT new (l * s) (fillT old 0 .leaf)) e)))
        | false => match Nat.beq a.off 0, Nat.beq m (c / 3 * s) with
          | true, true => some (.slice (some ⟨A.next, 0, none⟩) (l + n) (3 * (l + n) + 1), hpush (hset A a.block none) (some (.cells (l * s + n * s) (fillT new (l * s) (fillT old 0 .leaf)) e)))
          | _, _ => none
      | _, _ => none
    | _, _, _ => none
  | _, _ => none
noncomputable def appendA (P : Program) (G : Nat) (args : Array Value) (ty : Array TypeId) (A : Heap) : Option (Value × Heap) :=
  match args.toList, ty.toList with
  | [.slice base l c, x], [sT, xT] => match P.underlying sT with
    | some (.slice e) => match P.info? e, zeroOk P e with
      | some inf, true => match newsA inf.size x A, Nat.ble (l + inf.bytes) 1048576, P.underlying xT with
        | some (new, n), true, some d => match isInt d, Nat.ble n 1048576 && allCells new && zeroSize inf, base with
          | false, true, none => appendNil n inf.size new e l c A
          | false, true, some a => match Nat.ble G a.block with
            | true => appendRow n inf.size new e a l c A
            | false => none
          | _, _, _ => none
        | _, _, _ => none
      | _, _ => none
    | _ => none
  | _, _ => none
inductive AExit where
  | normal
  | exit (id : Nat)
  | goto (l : Nat)
  | ret
inductive ORes where
  | no
  | val (v : Value) (A : Heap)
  | enter (f : FuncId) (args : Array Value) (A : Heap)
  | defer (d : Deferred) (A : Heap)
noncomputable def natOf : Int → Option Nat
  | .ofNat n => some n
  | _ => none
noncomputable def i64Of : Value → Option Nat
  | .int k n => match k with
    | .i64 => natOf n
    | _ => none
  | _ => none
noncomputable def binNat (op : BinOp) (x y : Nat) : Option Value :=
  match op with
  | .add => match Nat.blt (Nat.add x y) 9223372036854775808 with
    | true => some (.int .i64 (.ofNat (Nat.add x y)))
    | false => none
  | .sub => match Nat.ble y x, Nat.blt x 9223372036854775808 with
    | true, true => some (.int .i64 (.ofNat (Nat.sub x y)))
    | _, _ => none
  | .lss => some (.bool (Nat.blt x y))
  | .leq => some (.bool (Nat.ble x y))
  | .gtr => some (.bool (Nat.blt y x))
  | .geq => some (.bool (Nat.ble y x))
  | .eql => some (.bool (Nat.beq x y))
  | .neq => some (.bool (not (Nat.beq x y)))
  | _ => none
noncomputable def binFast (op : BinOp) (x y : Value) : Option Value :=
  match i64Of x with
  | some x => match i64Of y with
    | some y => binNat op x y
    | none => none
  | none => none
noncomputable def kindOf (P : Program) (t : TypeId) : Option Bool :=
  match P.underlying t with
  | some (.struct _) => some true
  | some (.array _ _) => some true
  | some _ => some false
  | none => none
noncomputable def loadFast (P : Program) (t : TypeId) (v : Value) (A : Heap) : Option Value :=
  match v with
  | .pointer (some a) => match a.spot, hget A a.block with
    | none, some (.cells n c _) => match kindOf P t with
      | some false => match Nat.blt a.off n with
        | true => c.get a.off
        | false => none
      | some true => match P.info? t with
        | some i => match Nat.ble (a.off + i.size) n, grab c i.size a.off with
          | true, some l => some (.agg l.toArray)
          | _, _ => none
        | none => none
      | none => none
    | _, _ => none
  | _ => none
noncomputable def storeFast (P : Program) (G : Nat) (t : TypeId) (v x : Value) (A : Heap) : Option Heap :=
  match v with
  | .pointer (some a) => match Nat.ble G a.block, a.spot, hget A a.block, isCell x, P.info? t with
    | true, none, some (.cells n c e), true, some i => match Nat.beq i.size 1, Nat.blt a.off n with
      | true, true => some (hset A a.block (some (.cells n (c.set a.off (some x)) e)))
      | _, _ => none
    | _, _, _, _, _ => none
  | _ => none
noncomputable def fieldFast (P : Program) (s : TypeId) (v : Value) (i : Nat) : Option Value :=
  match v with
  | .pointer (some a) => match P.underlying s with
    | some (.struct fs) => match fs[i]? with
      | some f => match Nat.beq (P.cellsOf f.type) 0 with
        | false => some (.pointer (some (a.add f.offset)))
        | true => none
      | none => none
    | _ => none
  | _ => none
noncomputable def atElem (P : Program) (e : TypeId) (a : Addr) (i : Nat) : Option Value :=
  match P.info? e with
  | some inf => some (.pointer (some (a.add (i * inf.size))))
  | none => none
noncomputable def indexFast (P : Program) (t : TypeId) (v x : Value) : Option Value :=
  match x with
  | .int _ (.ofNat i) => match P.underlying t, v with
    | some (.slice e), .slice (some a) l _ => match Nat.blt i l with
      | true => atElem P e a i
      | false => none
    | some (.array l e), .pointer (some a) => match Nat.blt i l with
      | true => atElem P e a i
      | false => none
    | _, _ => none
  | _ => none
noncomputable def lenFast (P : Program) (t : TypeId) (v : Value) : Option Value :=
  match P.underlying t, v with
  | some (.slice _), .slice _ n _ => some (.int .i64 (.ofNat n))
  | _, _ => none
noncomputable def enterFast (P : Program) (v : Value) (args : Array Value) : Option Next :=
  match v with
  | .func (.func f) x y => match P.funcs[f]? with
    | some fn => match fn.body with
      | some _ => some (.enter f (x ++ args ++ y))
      | none => none
    | none => none
  | _ => none
noncomputable def nilFast : Value → Option Value
  | .pointer (some a) => some (.pointer (some a))
  | .slice a l c => some (.slice a l c)
  | .func (.func f) x y => some (.func (.func f) x y)
  | _ => none
noncomputable def valA0 (x : Option (Value × Heap)) : ORes :=
  match x with
  | some (v, A) => .val v A
  | none => .no
noncomputable def runP (P : Program) {α : Type} : Sem α → Option α
  | .pure a => some a
  | .program k => runP P (k P)
  | .mark _ k => runP P k
  | _ => none
noncomputable def plainAll (t : Tmps) (l : List Operand) : Bool :=
  match l with
  | [] => true
  | x :: l => match plain 60 (evalA t x) with
    | true => plainAll t l
    | false => false
noncomputable def runV (P : Program) (G : Nat) (s : Sem Value) (A : Heap) : ORes := valA0 (runA P G s A)
noncomputable def eqA (x y : Value) : Option Bool :=
  match x, y with
  | .pointer none, .pointer none => some true
  | .pointer none, .pointer (some _) => some false
  | .pointer (some _), .pointer none => some false
  | .slice none _ _, .slice none _ _ => some true
  | .slice none _ _, .slice (some _) _ _ => some false
  | .slice (some _) _ _, .slice none _ _ => some false
  | .map none, .map (some _) => some false
  | .map (some _), .map none => some false
  | .nilFunc, .func _ _ _ => some false
  | .func _ _ _, .nilFunc => some false
  | .nilIface, .iface _ _ => some false
  | .iface _ _, .nilIface => some false
  | _, _ => none
noncomputable def eqType (P : Program) (t : TypeId) (x : Value) : Bool :=
  match P.underlying t, x with
  | some (.pointer _), .pointer _ => true
  | some (.slice _), .slice _ _ _ => true
  | some (.map _ _), .map _ => true
  | some (.func _ _ _), .nilFunc => true
  | some (.func _ _ _), .func _ _ _ => true
  | some (.interface _), .nilIface => true
  | some (.interface _), .iface _ _ => true
  | _, _ => false
noncomputable def sameA (P : Program) (t : TypeId) (x y : Value) : Option Bool :=
  match P.underlying t, x, y with
  | some (.pointer e), .pointer (some a), .pointer (some b) => match Nat.beq a.block b.block, Nat.beq (P.cellsOf e) 0 with
    | true, false => some (a == b)
    | _, _ => none
  | _, _, _ => none
noncomputable def eqB (P : Program) (t : TypeId) (x y : Value) : Option Bool :=
  match eqType P t x, eqA x y with
  | true, some b => some b
  | _, _ => sameA P t x y
noncomputable def binA (P : Program) (op : BinOp) (t : TypeId) (x y : Value) (A : Heap) : ORes :=
  match op with
  | .eql => match eqB P t x y with
    | some b => .val (.bool b) A
    | none => .no
  | .neq => match eqB P t x y with
    | some b => .val (.bool (not b)) A
    | none => .no
  | _ => .no
noncomputable def natV (v : Option Value) (z : Nat) : Option Nat :=
  match v with
  | none => some z
  | some v => match v with
    | .int _ (.ofNat n) => some n
    | _ => none
noncomputable def mapO (t : Tmps) (o : Option Operand) : Option Value :=
  match o with
  | some x => some (evalA t x)
  | none => none
noncomputable def bounds3 (l c : Nat) (lo hi mx : Option Value) : Option (Nat × Nat × Nat) :=
  match natV lo 0, natV hi l, natV mx c with
  | some i, some j, some k => match Nat.ble i j, Nat.ble j k, Nat.ble k c with
    | true, true, true => match mx, hi with
      | some _, none => none
      | _, _ => some (i, j, k)
    | _, _, _ => none
  | _, _, _ => none
noncomputable def shift (base : Option Addr) (s i k : Nat) : Option Addr :=
  match Nat.beq k i with
  | true => base
  | false => base.map (·.add (i * s))
noncomputable def sliceRow (s : Nat) (base : Option Addr) (l c : Nat) (lo hi mx : Option Value) (A : Heap) : ORes :=
  match base with
  | none => match bounds3 l c lo hi mx with
    | some (i, j, k) => .val (.slice none (j - i) (k - i)) A
    | none => .no
  | some a => match c % 3 with
    | 0 => match bounds3 l (c / 3) lo hi mx with
      | some (i, j, k) => .val (.slice (shift (some a) s i k) (j - i) (3 * (k - i))) A
      | none => .no
    | 1 => match mx, bounds3 l (c / 3) lo hi none with
      | none, some (i, j, _) => match Nat.blt i (c / 3) with
        | true => .val (.slice (some (a.add (i * s))) (j - i) (3 * (c / 3 - i) + 1)) A
        | false => match Nat.beq i 0 with
          | true => .val (.slice (some a) j c) A
          | false => .val (.slice (some a) 0 2) A
      | _, _ => .no
    | _ => .no
noncomputable def sliceArr (s n : Nat) (a : Addr) (lo hi mx : Option Value) (A : Heap) : ORes :=
  match bounds3 n n lo hi mx with
  | some (i, j, k) => .val (.slice (shift (some a) s i k) (j - i) (3 * (k - i))) A
  | none => .no
noncomputable def sliceA (P : Program) (ty : TypeId) (x : Value) (lo hi mx : Option Value) (A : Heap) : ORes :=
  match P.underlying ty with
  | some (.slice e) => match P.info? e, x with
    | some inf, .slice base l c => sliceRow inf.size base l c lo hi mx A
    | _, _ => .no
  | some (.array n e) => match P.info? e, x with
    | some inf, .pointer (some a) => sliceArr inf.size n a lo hi mx A
    | _, _ => .no
  | _ => .no
noncomputable def bytesOf : List Value → Option (List UInt8)
  | [] => some []
  | v :: l => match v with
    | .int k (.ofNat n) => match k, bytesOf l with
      | .u8, some r => some (UInt8.ofNat n :: r)
      | _, _ => none
    | _ => none
noncomputable def stringA (P : Program) (src dst : TypeId) (x : Value) (A : Heap) : ORes :=
  match P.underlying src, P.underlying dst, x with
  | some (.slice e), some .string, .slice (some a) l _ => match P.underlying e, a.spot, hget A a.block with
    | some (.int .u8), none, some (.cells n c _) => match Nat.ble (a.off + l) n, grab c l a.off with
      | true, some vs => match bytesOf vs with
        | some bs => .val (.string ⟨bs.toArray⟩) A
        | none => .no
      | _, _ => .no
    | _, _, _ => .no
  | _, _, _ => .no
noncomputable def keysPlain (es : List MapEntry) : Bool :=
  match es with
  | [] => true
  | e :: es => match plain 60 e.key with
    | true => keysPlain es
    | false => false
noncomputable def findA (P : Program) (kt : TypeId) (k : Value) (es : Array MapEntry) : Option (Option (Nat × Value)) :=
  match plain 60 k, keysPlain es.toList, runP P (Instr.checkKey es.isEmpty 10000 kt k) with
  | true, true, some _ => runP P (Instr.findKey kt k es.toList)
  | _, _, _ => none
noncomputable def mapAt (x : Value) (A : Heap) : Option (Array MapEntry × Nat) :=
  match x with
  | .map (some r) => match hget A r with
    | some (.obj o) => match o with
      | .map es clock => some (es, clock)
      | _ => none
    | _ => none
  | .map none => some (#[], 0)
  | _ => none
noncomputable def lookA (P : Program) (ty : TypeId) (x k : Value) (ok : Bool) (A : Heap) : ORes :=
  match P.underlying ty with
  | some (.map kt e) => match mapAt x A with
    | some (es, _) => match findA P kt k es with
      | some (some (_, v)) => match ok with
        | true => .val (.tuple #[v, .bool true]) A
        | false => .val v A
      | some none => match P.info? e with
        | some i => match i.zero with
          | some z => match plain 60 z, ok with
            | true, true => .val (.tuple #[z, .bool false]) A
            | true, false => .val z A
            | false, _ => .no
          | none => .no
        | none => .no
      | none => .no
    | none => .no
  | _ => .no
noncomputable def putA (P : Program) (G : Nat) (ty : TypeId) (x k v : Value) (A : Heap) : ORes :=
  match P.underlying ty, x with
  | some (.map kt _), .map (some r) => match Nat.ble G r, mapAt x A with
    | true, some (es, clock) => match plain 60 k, keysPlain es.toList, runP P (Instr.checkKey false 10000 kt k), runP P (Instr.findKey kt k es.toList) with
      | true, true, some _, some (some (i, _)) => match es[i]? with
        | some e => match Instr.sameBits 10000 e.key k with
          | true => .val undef (hset A r (some (.obj (.map (es.setIfInBounds i { e with key := k, val := v }) clock))))
          | false => .no
        | none => .no
      | true, true, some _, some none => .val undef (hset A r (some (.obj (.map (es.push { key := k, val := v, born := clock }) (clock + 1)))))
      | _, _, _, _ => .no
    | _, _ => .no
  | _, _ => .no
noncomputable def delA (P : Program) (G : Nat) (c : Call) (t : Tmps) (A : Heap) : ORes :=
  match c.args[0]?, c.args[1]?, c.argTypes[0]? with
  | some m, some k, some ty => match P.underlying ty, evalA t m with
    | some (.map kt _), .map (some r) => match Nat.ble G r, mapAt (evalA t m) A with
      | true, some (es, clock) => match findA P kt (evalA t k) es with
        | some (some (i, _)) => .val undef (hset A r (some (.obj (.map (es.eraseIdxIfInBounds i) clock))))
        | some none => .val undef (hset A r (some (.obj (.map es clock))))
        | none => .no
      | _, _ => .no
    | _, _ => .no
  | _, _, _ => .no
noncomputable def rangeA (P : Program) (ty : TypeId) (x : Value) (A : Heap) : ORes :=
  match P.underlying ty, x with
  | some (.map _ _), .map (some r) => match mapAt x A with
    | some (_, clock) => .val (.pointer (some ⟨A.next, 0, none⟩)) (hpush A (some (.obj (.mapIter (some r) clock #[] clock))))
    | none => .no
  | _, _ => .no
noncomputable def iterAt (x : Value) (A : Heap) : Option (Nat × Nat × Nat × Array Nat × Nat) :=
  match x with
  | .pointer (some a) => match a.off, a.spot, hget A a.block with
    | 0, none, some (.obj o) => match o with
      | .mapIter (some r) since seen stepped => some (a.block, r, since, seen, stepped)
      | _ => none
    | _, _, _ => none
  | _ => none
noncomputable def nextA (G : Nat) (x : Value) (A : Heap) : ORes :=
  match iterAt x A with
  | some (b, r, since, seen, stepped) => match Nat.ble G b, mapAt (.map (some r)) A, seen.toList with
    | true, some (es, clock), [] => match es.toList with
      | [] => .val (.tuple #[.bool false]) A
      | [e] => match Nat.blt e.born since with
        | true => .val (.tuple #[.bool true, e.key, e.val]) (hset A b (some (.obj (.mapIter (some r) since #[e.born] clock))))
        | false => .no
      | _ => .no
    | true, some (es, _), [x] => match es.toList with
      | [e] => match Nat.beq e.born x, Nat.blt e.born stepped with
        | true, true => .val (.tuple #[.bool false]) A
        | _, _ => .no
      | _ => .no
    | _, _, _ => .no
  | none => .no
noncomputable def entryA (x : Value) (A : Heap) : ORes :=
  match iterAt x A with
  | some (_, r, _, seen, stepped) => match mapAt (.map (some r)) A, seen.toList with
    | some (es, clock), [x] => match es.toList, Nat.beq clock stepped with
      | [e], true => match Nat.beq e.born x with
        | true => .val (.tuple #[e.key, e.val]) A
        | false => .no
      | _, _ => .no
    | _, _ => .no
  | none => .no
noncomputable def atomA (P : Program) (G : Nat) (f : Func) (args : List Value) (A : Heap) : ORes :=
  match args with
  | [.pointer (some a), y] => match Nat.ble G a.block, a.spot, hget A a.block, y with
    | true, none, some (.cells n c e), .int .i64 d => match Nat.blt a.off n, c.get a.off, f.name == "sync/atomic.AddInt64" with
      | true, some (.int .i64 x), true => .val (.int .i64 (IntKind.wrap .i64 (x + d))) (hset A a.block (some (.cells n (c.set a.off (some (.int .i64 (IntKind.wrap .i64 (x + d))))) e)))
      | _, _, _ => .no
    | _, _, _, _ => .no
  | _ => .no
noncomputable def externA (P : Program) (G : Nat) (f : Value) (args : Array Value) (A : Heap) : ORes :=
  match f with
  | .func (.func g) x y => match P.funcs[g]? with
    | some fn => match fn.body with
      | none => atomA P G fn (x ++ args ++ y).toList A
      | some _ => .no
    | none => .no
  | _ => .no
noncomputable def deferA (c : Call) (t : Tmps) (A : Heap) : ORes :=
  match c.callee with
  | .value f => match evalA t f with
    | .func (.func g) x y => .defer { target := .fn (.func g) y, args := x ++ c.args.map (evalA t) } A
    | _ => .no
  | _ => .no
noncomputable def buildA (P : Program) (ty : TypeId) (parts : List (Nat × Value)) (A : Heap) : ORes :=
  match zeroOk P ty with
  | true => match P.built ty parts with
    | some cells => .val (.agg cells) A
    | none => .no
  | false => .no
noncomputable def rowA (P : Program) (ty : TypeId) (len : Nat) (parts : List (Nat × Value)) (A : Heap) : ORes :=
  match P.underlying ty with
  | some (.slice e) => match P.info? e with
    | some ie => match zeroOk P e, ie.zero with
      | true, some z => match Nat.ble (len * ie.size) 16777216, Nat.beq (len * ie.size) 0 with
        | true, false => match Instr.fill (fun i => some (i * ie.size, ie.size)) ((Array.range (len * ie.size)).map (z.cells[· % z.cells.size]!)) parts with
          | some cells => .val (.slice (some ⟨A.next, 0, none⟩) len (3 * len)) (hpush A (some (ofObj (.cells cells e))))
          | none => .no
        | true, true => match parts with
          | [] => .val (.slice (some ⟨A.next, 0, none⟩) len (3 * len)) (hpush A (some (ofObj (.cells #[] e))))
          | _ => .no
        | _, _ => .no
      | _, _ => .no
    | none => .no
  | _ => .no
noncomputable def makeA (P : Program) (ty : TypeId) (l c : Value) (A : Heap) : ORes :=
  match l, c with
  | .int _ (.ofNat l), .int _ (.ofNat c) => match P.underlying ty with
    | some (.slice e) => match P.info? e with
      | some ie => match zeroOk P e, ie.zero with
        | true, some z => match Nat.ble l c, Nat.ble (ie.bytes * c) 281474976710656, Nat.ble c 9223372036854775807 with
          | true, true, true => .val (.slice (some ⟨A.next, 0, none⟩) l (3 * c)) (hpush A (some (ofObj (.cells (madeCells z.cells (c * ie.size)) e))))
          | _, _, _ => .no
        | _, _ => .no
      | none => .no
    | _ => .no
  | _, _ => .no
noncomputable def kindA (P : Program) (G : Nat) (t : Tmps) (o : Oper) (A : Heap) : ORes :=
  match o.op with
  | .alloc e => match zeroOk P e with
    | true => runV P G (Instr.alloc e true (.tuple #[])) A
    | false => .no
  | .box e x => runV P G (Instr.box e (evalA t x)) A
  | .build ty parts => buildA P ty (parts.map fun (i, x) => (i, evalA t x)).toList A
  | .buildSlice ty l parts => rowA P ty l (parts.map fun (i, x) => (i, evalA t x)).toList A
  | .makeInterface ty x => runV P G (Instr.makeInterface ty (evalA t x)) A
  | .makeFunc f x y => match f with
    | .yield _ => .no
    | f => .val (.func f (x.map (evalA t)) (y.map (evalA t))) A
  | .makeMap ty r => match r with
    | none => runV P G (Instr.makeMap ty none) A
    | some _ => .no
  | .makeSlice ty l c => makeA P ty (evalA t l) (evalA t c) A
  | .field ty x i => runV P G (Instr.field ty (evalA t x) i) A
  | .extract x i => runV P G (Instr.extract (evalA t x) i) A
  | .store ty x y => match runA P G (Instr.storeAt ty (evalA t x) (evalA t y)) A with
    | some (_, A) => .val undef A
    | none => .no
  | .slice ty x lo hi mx => sliceA P ty (evalA t x) (mapO t lo) (mapO t hi) (mapO t mx) A
  | .binOp op ty x y _ => binA P op ty (evalA t x) (evalA t y) A
  | .convert src dst x => stringA P src dst (evalA t x) A
  | .lookup ty x k ok => lookA P ty (evalA t x) (evalA t k) ok A
  | .mapUpdate ty x k v => putA P G ty (evalA t x) (evalA t k) (evalA t v) A
  | .insert ty x k v => putA P G ty (evalA t x) (evalA t k) (evalA t v) A
  | .range ty x => rangeA P ty (evalA t x) A
  | .next x s => match s with
    | true => .no
    | false => nextA G (evalA t x) A
  | .entry x => entryA (evalA t x) A
  | .defer c => deferA c t A
  | .call c => match c.callee with
    | .builtin b => match b with
      | .delete => delA P G c t A
      | _ => .no
    | .value f => externA P G (evalA t f) (c.args.map (evalA t)) A
    | .invoke _ _ => .no
  | _ => .no
noncomputable def plainRes (r : Option Next) (A : Heap) (k : ORes) : ORes :=
  match r with
  | some (.value v) => match plain 60 v with
    | true => .val v A
    | false => .no
  | _ => k
noncomputable def slowA (P : Program) (G : Nat) (t : Tmps) (o : Oper) (A : Heap) : ORes :=
  match plainAll t o.op.operands.toList with
  | true => plainRes (runP P (execOp (evalA t) o)) A (kindA P G t o A)
  | false => kindA P G t o A
noncomputable def valA (x : Option Value) (A : Heap) : ORes :=
  match x with
  | some v => .val v A
  | none => .no
noncomputable def orA (x : Option Value) (A : Heap) (slow : ORes) : ORes :=
  match x with
  | some v => .val v A
  | none => slow
noncomputable def pickA (c x y : Value) (A : Heap) : ORes :=
  match c with
  | .bool true => .val x A
  | .bool false => .val y A
  | _ => .no
noncomputable def storeA (P : Program) (G : Nat) (ty : TypeId) (t : Tmps) (x y : Operand) (o : Oper) (A : Heap) : ORes :=
  match storeFast P G ty (evalA t x) (evalA t y) A with
  | some A => .val undef A
  | none => slowA P G t o A
noncomputable def convA (P : Program) (G : Nat) (src dst : TypeId) (t : Tmps) (x : Operand) (o : Oper) (A : Heap) : ORes :=
  match evalA t x with
  | .slice (some a) l c => match P.underlying src, P.underlying dst with
    | some (.slice _), some (.slice e) => match Nat.beq src dst, P.underlying e, Nat.ble G a.block, hget A a.block with
      | true, some (.int .u8), true, some (.cells _ _ _) => .val (.slice (some a) l c) A
      | _, _, _, _ => .no
    | _, _ => slowA P G t o A
  | _ => slowA P G t o A
noncomputable def callA0 (P : Program) (G : Nat) (c : Call) (t : Tmps) (o : Oper) (A : Heap) : ORes :=
  match c.callee with
  | .value f => match enterFast P (evalA t f) (c.args.map (evalA t)) with
    | some (.enter f args) => .enter f args A
    | _ => slowA P G t o A
  | .builtin b => match b with
    | .append => match appendA P G (c.args.map (evalA t)) c.argTypes A with
      | some (v, A) => .val v A
      | none => .no
    | .len => match c.args[0]?, c.argTypes[0]? with
      | some x, some ty => orA (lenFast P ty (evalA t x)) A (slowA P G t o A)
      | _, _ => .no
    | _ => slowA P G t o A
  | .invoke _ _ => .no
noncomputable def opA (P : Program) (G : Nat) (t : Tmps) (o : Oper) (A : Heap) : ORes :=
  match o.op with
  | .move x => .val (evalA t x) A
  | .assign x => .val (evalA t x) A
  | .pick c x y => pickA (evalA t c) (evalA t x) (evalA t y) A
  | .binOp op _ x y _ => orA (binFast op (evalA t x) (evalA t y)) A (slowA P G t o A)
  | .load ty x => valA (loadFast P ty (evalA t x) A) A
  | .store ty x y => storeA P G ty t x y o A
  | .fieldAddr s x i => valA (fieldFast P s (evalA t x) i) A
  | .indexAddr ty x i => valA (indexFast P ty (evalA t x) (evalA t i)) A
  | .nilCheck x => valA (nilFast (evalA t x)) A
  | .call c => callA0 P G c t o A
  | .convert src dst x => convA P G src dst t x o A
  | .select _ _ => .no
  | _ => slowA P G t o A
noncomputable def yieldedA (ops : Array Oper) (t : Tmps) (j : Nat) : Option Bool :=
  match ops[j]? with
  | some o => match o.dst with
    | some d => match getT t d with
      | .bool b => some b
      | _ => none
    | none => none
  | none => none
noncomputable def wantedA (g : Nat × Bool) (ops : Array Oper) (t : Tmps) : Bool :=
  match yieldedA ops t g.1 with
  | some b => b == g.2
  | none => false
abbrev CallF := FuncId → Array Value → Heap → Option (Value × Heap)
inductive RRes where
  | no
  | ok (t : Tmps) (d : List Deferred) (A : Heap)
abbrev RegF := Tmps → List Deferred → Heap → RRes
noncomputable def opGo (call : CallF) (dst : Option Tmp) (t : Tmps) (d : List Deferred) (ih : RegF) (r : ORes) : RRes :=
  match r with
  | .no => .no
  | .val v A => ih (putT t dst v) d A
  | .enter f args A => match call f args A with
    | some (v, A) => ih (putT t dst v) d A
    | none => .no
  | .defer x A => ih (putT t dst undef) (x :: d) A
noncomputable def opStep (P : Program) (G : Nat) (call : CallF) (ops : Array Oper) (o : Oper) (ih : RegF) (t : Tmps) (d : List Deferred) (A : Heap) : RRes :=
  match o.guard with
  | none => opGo call o.dst t d ih (opA P G t o A)
  | some g => match wantedA g ops t with
    | true => opGo call o.dst t d ih (opA P G t o A)
    | false => ih (putT t o.dst undef) d A
noncomputable def regionA (P : Program) (G : Nat) (call : CallF) (ops : Array Oper) (l : List Oper) : RegF :=
  List.rec (fun t d A => .ok t d A) (fun o _ ih => opStep P G call ops o ih) l
noncomputable def opnOk (G : Nat) (x : Operand) : Bool :=
  match x with
  | .tmp _ => true
  | .const v => plain 60 v
  | .global g => Nat.blt g G
  | .func _ => true
noncomputable def allOpn (G : Nat) : List Operand → Bool
  | [] => true
  | x :: l => match opnOk G x with
    | true => allOpn G l
    | false => false
noncomputable def dstOk (N : Nat) (d : Option Tmp) : Bool :=
  match d with
  | some d => Nat.blt d N
  | none => true
noncomputable def regOk (G N : Nat) : List Oper → Bool
  | [] => true
  | o :: l => match allOpn G o.op.operands.toList, dstOk N o.dst with
    | true, true => regOk G N l
    | _, _ => false
abbrev Orc := FuncId → Option (CallF → Array Value → Heap → Option (Value × Heap))
inductive XRes where
  | no
  | ok (e : AExit) (t : Tmps) (d : List Deferred) (A : Heap)
abbrev ExecF := Nat → Code → Tmps → List Deferred → Heap → XRes
structure Fns where
  exec : ExecF
  scope : Nat → Code → Nat → Tmps → List Deferred → Heap → XRes
  call : CallF
  leaves : Func → Tmps → List Deferred → Heap → Option (Value × Heap)
noncomputable def seqA (F : Fns) (N : Nat) (b : Code) (r : XRes) : XRes :=
  match r with
  | .no => .no
  | .ok e t d A => match e with
    | .normal => F.exec N b t d A
    | e => .ok e t d A
noncomputable def blockA (id : Nat) (r : XRes) : XRes :=
  match r with
  | .no => .no
  | .ok e t d A => match e with
    | .exit id' => match Nat.beq id' id with
      | true => .ok .normal t d A
      | false => .ok (.exit id') t d A
    | e => .ok e t d A
noncomputable def scopeA (F : Fns) (N : Nat) (b : Code) (r : XRes) : XRes :=
  match r with
  | .no => .no
  | .ok e t d A => match e with
    | .goto l => F.scope N b l t d A
    | e => .ok e t d A
noncomputable def condA (F : Fns) (N : Nat) (c : Value) (a b : Code) (t : Tmps) (d : List Deferred) (A : Heap) : XRes :=
  match c with
  | .bool true => F.exec N a t d A
  | .bool false => F.exec N b t d A
  | _ => .no
noncomputable def regA (r : RRes) : XRes :=
  match r with
  | .no => .no
  | .ok t d A => .ok .normal t d A
noncomputable def wq (t : Tmps) (o : Oper) (ops : Array Oper) : Bool :=
  match o.guard with
  | none => true
  | some g => wantedA g ops t
noncomputable def fillE {α : Type} (l : List α) : Nat → Tr α → Tr α :=
  List.rec (fun _ t => t) (fun v _ ih n t => ih (Nat.succ n) (t.set n (some v))) l
noncomputable def getN (M : Tr Nat) (i : Nat) : Nat := match M.get i with | some n => n | none => 0
noncomputable def bitA (x i : Nat) : Bool := Nat.beq (Nat.mod (Nat.div x (Nat.pow 2 i)) 2) 1
noncomputable def aftersL (l : List Edge) : List Nat :=
  List.rec [] (fun e _ ih => match Region.binds .any e with | true => e.on :: ih | false => ih) l
noncomputable def afters (o : Oper) : List Nat := aftersL o.after.toList
noncomputable def maskL (M : Tr Nat) (l : List Nat) : Nat :=
  List.rec 0 (fun e _ ih => Nat.lor (Nat.lor (Nat.pow 2 e) (getN M e)) ih) l
noncomputable def masksA (l : List Oper) : Nat → Tr Nat → Tr Nat :=
  List.rec (fun _ M => M) (fun o _ ih i M => ih (Nat.succ i) (M.set i (some (maskL M (afters o))))) l
noncomputable def putD (o : Oper) (i : Nat) (D : Tr Nat) : Tr Nat := match o.dst with
  | some d => D.set d (some i)
  | none => D
noncomputable def dstsA (l : List Oper) : Nat → Tr Nat → Tr Nat :=
  List.rec (fun _ D => D) (fun o _ ih i D => ih (Nat.succ i) (putD o i D)) l
noncomputable def allL (f : Nat → Bool) (l : List Nat) : Bool := List.rec true (fun x _ ih => match f x with | true => ih | false => false) l
noncomputable def allB (f : Nat → Bool) (n : Nat) : Bool := Nat.rec true (fun k ih => match f k with | true => ih | false => false) n
noncomputable def orB (a b : Bool) : Bool := match a with | true => true | false => b
noncomputable def andB (a b : Bool) : Bool := match a with | true => b | false => false
noncomputable def dstIs (D : Tr Nat) (i : Nat) (d : Option Tmp) : Bool := match d with
  | none => true
  | some d => match D.get d with
    | some k => Nat.beq k i
    | none => false
noncomputable def readOk (M D : Tr Nat) (i x : Nat) : Bool := match D.get x with
  | none => true
  | some k => orB (Nat.beq k i) (orB (bitA (getN M i) k) (bitA (getN M k) i))
noncomputable def statOne (ops : Array Oper) (M D : Tr Nat) (i : Nat) (o : Oper) : Bool :=
  andB (allL (fun e => Nat.blt e i) (afters o)) (andB (Nat.beq (getN M i) (maskL M (afters o))) (andB (dstIs D i o.dst) (allL (readOk M D i) (o.looksAt ops))))
noncomputable def statL (ops : Array Oper) (M D : Tr Nat) (l : List Oper) : Nat → Bool :=
  List.rec (fun _ => true) (fun o _ ih i => match statOne ops M D i o with | true => ih (Nat.succ i) | false => false) l
noncomputable def masksOf (ops : Array Oper) : Tr Nat := masksA ops.toList 0 .leaf
noncomputable def statA (ops : Array Oper) : Bool := statL ops (masksOf ops) (dstsA ops.toList 0 .leaf) ops.toList 0
noncomputable def classA (op : Op) : Nat := match op with
  | .alloc _ => 2
  | .makeSlice _ _ _ => 2
  | .buildSlice _ _ _ => 2
  | .move _ => 0
  | .assign _ => 0
  | .pick _ _ _ => 0
  | .binOp _ _ _ _ _ => 0
  | .unOp _ _ _ => 0
  | .fieldAddr _ _ _ => 0
  | .indexAddr _ _ _ => 0
  | .index _ _ _ => 0
  | .nilCheck _ => 0
  | .field _ _ _ => 0
  | .extract _ _ => 0
  | .makeInterface _ _ => 0
  | .makeFunc _ _ _ => 0
  | .slice _ _ _ _ _ => 0
  | .build _ _ => 0
  | .load _ _ => 3
  | .lookup _ _ _ _ => 3
  | .convert _ _ _ => 3
  | .call c => match c.callee with
    | .builtin b => match b with
      | .len => 0
      | _ => 1
    | _ => 1
  | _ => 1
noncomputable def movesB (op : Op) : Bool := match classA op with
  | 1 => true
  | 2 => true
  | _ => false
noncomputable def apartA (M : Tr Nat) (i : Nat) (l : List Oper) : Nat → Bool :=
  List.rec (fun _ => false) (fun o _ ih j => match andB (movesB o.op) (not (orB (Nat.beq i j) (orB (bitA (getN M i) j) (bitA (getN M j) i)))) with | true => true | false => ih (Nat.succ j)) l
mutual
noncomputable def veq : Nat → Value → Value → Bool
  | 0, _, _ => false
  | n + 1, x, y => match x, y with
    | .bool a, .bool b => decide (a = b)
    | .int k a, .int k' b => andB (decide (k = k')) (decide (a = b))
    | .pointer none, .pointer none => true
    | .pointer (some a), .pointer (some b) => decide (a = b)
    | .slice none l c, .slice none l' c' => andB (Nat.beq l l') (Nat.beq c c')
    | .slice (some a) l c, .slice (some b) l' c' => andB (decide (a = b)) (andB (Nat.beq l l') (Nat.beq c c'))
    | .string a, .string b => decide (a.data.toList = b.data.toList)
    | .map none, .map none => true
    | .map (some a), .map (some b) => Nat.beq a b
    | .nilFunc, .nilFunc => true
    | .nilIface, .nilIface => true
    | .func (.func f) a b, .func (.func g) c d => andB (Nat.beq f g) (andB (veqs n a.toList c.toList) (veqs n b.toList d.toList))
    | .iface t v, .iface u v' => andB (Nat.beq t u) (veq n v v')
    | .agg a, .agg b => veqs n a.toList b.toList
    | .tuple a, .tuple b => veqs n a.toList b.toList
    | _, _ => false
noncomputable def veqs : Nat → List Value → List Value → Bool
  | 0, _, _ => false
  | _ + 1, [], [] => true
  | n + 1, v :: l, v' :: l' => andB (veq n v v') (veqs n l l')
  | _, _, _ => false
end
structure Ent where
  t : Tmps
  A : Heap
  v : Value
  k : Nat
  ob : AObj
noncomputable def noOb : AObj := .cells 0 .leaf 0
noncomputable def noEnt : Ent := ⟨.leaf, ⟨0, .leaf⟩, undef, 0, noOb⟩
inductive ERes where
  | no
  | got (v : Value) (A : Heap) (k : Nat) (ob : AObj)
noncomputable def callE (r : Option (Value × Heap)) : ERes := match r with
  | some (v, A) => .got v A 1 noOb
  | none => .no
noncomputable def effE (call : CallF) (r : ORes) : ERes := match r with
  | .val v A => .got v A 1 noOb
  | .enter f args A => callE (call f args A)
  | _ => .no
noncomputable def quietE (r : ORes) (A : Heap) : ERes := match r with
  | .val v _ => .got v A 0 noOb
  | _ => .no
noncomputable def newE (r : ORes) (A : Heap) : ERes := match r with
  | .val v B => match hget B A.next with
    | some ob => .got v (hpush A (some ob)) 2 ob
    | none => .no
  | _ => .no
noncomputable def entA (P : Program) (G : Nat) (call : CallF) (ops : Array Oper) (i : Nat) (t : Tmps) (o : Oper) (A : Heap) : ERes :=
  match wq t o ops with
  | false => .got undef A 0 noOb
  | true => match classA o.op with
    | 1 => effE call (opA P G t o A)
    | 2 => match apartA (masksOf ops) i ops.toList 0 with
      | true => newE (kindA P G t o ⟨A.next, .leaf⟩) A
      | false => effE call (opA P G t o A)
    | _ => quietE (opA P G t o A) A
noncomputable def consE (e : Ent) (r : Option (List Ent)) : Option (List Ent) := match r with
  | some es => some (e :: es)
  | none => none
noncomputable def traceA (P : Program) (G : Nat) (call : CallF) (ops : Array Oper) (l : List Oper) : Nat → Tmps → Heap → Option (List Ent) :=
  List.rec (fun _ t A => some [⟨t, A, undef, 0, noOb⟩]) (fun o _ ih i t A => match entA P G call ops i t o A with
    | .no => none
    | .got v B k ob => consE ⟨t, A, v, k, ob⟩ (ih (Nat.succ i) (putT t o.dst v) B)) l
noncomputable def getE (E : Tr Ent) (i : Nat) : Ent := match E.get i with | some e => e | none => noEnt
noncomputable def busyM (es : List Ent) : Nat → Nat :=
  List.rec (fun _ => 0) (fun e _ ih i => match Nat.beq e.k 0 with | true => ih (Nat.succ i) | false => Nat.lor (Nat.pow 2 i) (ih (Nat.succ i))) es
noncomputable def effM (es : List Ent) : Nat → Nat :=
  List.rec (fun _ => 0) (fun e _ ih i => match Nat.beq e.k 1 with | false => ih (Nat.succ i) | true => Nat.lor (Nat.pow 2 i) (ih (Nat.succ i))) es
noncomputable def orderOk (M : Tr Nat) (E : Tr Ent) (X j : Nat) : Bool := match Nat.beq (getE E j).k 1 with
  | true => Nat.beq (Nat.land (Nat.mod X (Nat.pow 2 j)) (getN M j)) (Nat.mod X (Nat.pow 2 j))
  | false => true
noncomputable def waitM (M : Tr Nat) (Y i n : Nat) : Nat :=
  Nat.rec 0 (fun j ih => match andB (bitA Y j) (bitA (getN M j) i) with | true => Nat.lor (Nat.pow 2 j) ih | false => ih) n
noncomputable def sameAt (r : ORes) (v : Value) : Bool := match r with
  | .val v' _ => veq 3000 v' v
  | _ => false
noncomputable def candA (X b : Nat) : Bool := match b with
  | 0 => true
  | b + 1 => bitA X b
noncomputable def readsAt (P : Program) (G : Nat) (E : Tr Ent) (X U W : Nat) (t : Tmps) (o : Oper) (v : Value) (b : Nat) : Bool :=
  match andB (candA X b) (andB (Nat.blt U (Nat.pow 2 b)) (Nat.beq (Nat.mod W (Nat.pow 2 b)) 0)) with
  | false => true
  | true => sameAt (opA P G t o (getE E b).A) v
noncomputable def readE (P : Program) (G : Nat) (ops : Array Oper) (M : Tr Nat) (E : Tr Ent) (n X Y i : Nat) (o : Oper) (e : Ent) : Bool :=
  match classA o.op with
  | 3 => match wq e.t o ops with
    | false => true
    | true => allB (readsAt P G E X (Nat.land Y (getN M i)) (waitM M Y i n) e.t o e.v) (Nat.succ n)
  | _ => true
noncomputable def readsL (P : Program) (G : Nat) (ops : Array Oper) (M : Tr Nat) (E : Tr Ent) (n X Y : Nat) (l : List Oper) : Nat → Bool :=
  List.rec (fun _ => true) (fun o _ ih i => match readE P G ops M E n X Y i o (getE E i) with | true => ih (Nat.succ i) | false => false) l
noncomputable def checkA (P : Program) (G : Nat) (ops : Array Oper) (M : Tr Nat) (E : Tr Ent) (n X Y : Nat) : Bool :=
  match allB (orderOk M E X) n with
  | true => readsL P G ops M E n X Y ops.toList 0
  | false => false
noncomputable def drawE (P : Program) (G : Nat) (ops : Array Oper) (es : List Ent) (E : Tr Ent) (n : Nat) (d : List Deferred) : RRes :=
  match checkA P G ops (masksOf ops) E n (busyM es 0) (effM es 0) with
  | true => .ok (getE E n).t d (getE E n).A
  | false => .no
noncomputable def drawA (P : Program) (G : Nat) (call : CallF) (ops : Array Oper) (t : Tmps) (d : List Deferred) (A : Heap) : RRes :=
  match statA ops with
  | true => match traceA P G call ops ops.toList 0 t A with
    | some es => drawE P G ops es (fillE es 0 .leaf) ops.toList.length d
    | none => .no
  | false => .no
noncomputable def areaA (P : Program) (G : Nat) (F : Fns) (N : Nat) (ops : Array Oper) (draw : Bool) (t : Tmps) (d : List Deferred) (A : Heap) : XRes :=
  match regOk G N ops.toList with
  | true => match draw with
    | false => regA (regionA P G F.call ops ops.toList t d A)
    | true => regA (drawA P G F.call ops t d A)
  | false => .no
noncomputable def execA (P : Program) (G : Nat) (F : Fns) (N : Nat) (c : Code) (t : Tmps) (d : List Deferred) (A : Heap) : XRes :=
  match c with
  | .skip => .ok .normal t d A
  | .label _ => .ok .normal t d A
  | .ret => .ok .ret t d A
  | .exit id => .ok (.exit id) t d A
  | .goto l => .ok (.goto l) t d A
  | .seq a b => seqA F N b (F.exec N a t d A)
  | .cond x a b => condA F N (evalA t x) a b t d A
  | .block id b => blockA id (F.exec N b t d A)
  | .loop b => seqA F N (.loop b) (F.exec N b t d A)
  | .scope b => scopeA F N b (F.exec N b t d A)
  | .region _ ops draw => areaA P G F N ops draw t d A
  | _ => .no
noncomputable def jumpA (F : Fns) (N : Nat) (b : Code) (l : Nat) (t : Tmps) (d : List Deferred) (A : Heap) : XRes :=
  match findLabel b l with
  | none => .ok (.goto l) t d A
  | some rest => scopeA F N b (F.exec N rest t d A)
noncomputable def bodyA (F : Fns) (fn : Func) (r : XRes) : Option (Value × Heap) :=
  match r with
  | .no => none
  | .ok e t d A => match e with
    | .normal => F.leaves fn t d A
    | .ret => F.leaves fn t d A
    | _ => none
noncomputable def enterA (P : Program) (orc : Orc) (F : Fns) (f : FuncId) (args : Array Value) (A : Heap) : Option (Value × Heap) :=
  match orc f with
  | some g => g F.call args A
  | none => match P.funcs[f]? with
    | some fn => match fn.body with
      | some c => bodyA F fn (F.exec fn.ntmps c (fillT args.toList 0 .leaf) [] A)
      | none => none
    | none => none
noncomputable def resultsA (P : Program) (G : Nat) (fn : Func) (t : Tmps) (A : Heap) : Option (Value × Heap) :=
  runA P G (do
    let vs ← fn.results.mapM fun
      | .tmp x => pure (getT t x)
      | .cell a ty => do loadVar ty (← asAddr (getT t a))
    pure (if h : vs.size = 1 then vs[0] else .tuple vs)) A
abbrev OrcD := FuncId → Option (Array Value → Heap → Option Heap)
noncomputable def leavesA (P : Program) (G : Nat) (orcD : OrcD) (F : Fns) (fn : Func) (t : Tmps) (d : List Deferred) (A : Heap) : Option (Value × Heap) :=
  match d with
  | [] => resultsA P G fn t A
  | x :: ds => match x.target with
    | .fn (.func f) cap => match orcD f with
      | some g => match g (x.args ++ cap) A with
        | some A => F.leaves fn t ds A
        | none => none
      | none => none
    | _ => none
noncomputable def fns0 : Fns := ⟨fun _ _ _ _ _ => .no, fun _ _ _ _ _ _ => .no, fun _ _ _ => none, fun _ _ _ _ => none⟩
noncomputable def fns1 (P : Program) (G : Nat) (orc : Orc) (orcD : OrcD) (F : Fns) : Fns := ⟨execA P G F, jumpA F, enterA P orc F, leavesA P G orcD F⟩
noncomputable def fns (P : Program) (G : Nat) (orc : Orc) (orcD : OrcD) (n : Nat) : Fns := Nat.rec fns0 (fun _ F => fns1 P G orc orcD F) n
end Go.Am
end
