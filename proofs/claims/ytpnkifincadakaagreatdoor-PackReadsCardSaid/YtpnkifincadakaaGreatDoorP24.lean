/- Proved: part 24 of the proof of PackReads (Ey1, Rd15, Rd16, Re1, Re2, Re3, Ey2, Ey3). Conditions: each theorem states its own. -/
import Derived.WalkSmall
import Derived.RegionDies
import Derived.Deep.AppendLies
import Derived.Deep.RegionHeldLaw
import Derived.Deep.RegionLaw
import Derived.Laws.AppendOwnNone
import Derived.StillTailTactics
import Derived.Test.YtpnkifincadakaaGreatDoorP7
import Derived.Test.YtpnkifincadakaaGreatDoorP14
import Derived.Test.YtpnkifincadakaaGreatDoorP23
set_option linter.unusedVariables false
set_option linter.unusedSimpArgs false
section
namespace Go.Pk
def eOf : Rdd Unit → Int | .ok _ _ => 0 | .bad e _ => e
def pOf : Rdd Unit → Nat | .ok _ _ => 0 | .bad _ p => p
def At {β : Type} (st : Rdd Unit) (d : Rdd β) (K : Nat → Rdd β) : Prop := match st with | .ok _ a => d = K a | .bad e p => d = .bad e p
def Agree {α : Type} (dec : Nat → Rdd α) (st : Rdd Unit) (x : α) (st' : Rdd Unit) : Prop := match st with
  | .bad e p => st' = .bad e p
  | .ok _ a => match dec a with
    | .ok y a' => st' = .ok () a' ∧ x = y
    | .bad e p => st' = .bad e p
theorem at_step {α β : Type} {dec : Nat → Rdd α} {st st' : Rdd Unit} {x : α} {d : Rdd β} {F : α → Nat → Rdd β} (h : At st d fun a => (dec a).bind F) (hg : Agree dec st x st') : At st' d (F x) := by
  cases st with
  | bad e p =>
    simp only [At, Agree] at h hg ⊢
    subst hg
    exact h
  | ok u a =>
    simp only [At, Agree] at h hg
    cases hd : dec a with
    | ok y a' =>
      rw [hd] at h hg
      obtain ⟨rfl, rfl⟩ := hg
      exact h
    | bad e p =>
      rw [hd] at h hg
      dsimp only at hg
      subst hg
      exact h
theorem at_start {β : Type} {d : Rdd β} {K : Nat → Rdd β} {a : Nat} (h : K a = d) : At (.ok () a) d K := h.symm
def failS (st : Rdd Unit) (e : Int) (p : Nat) : Rdd Unit := match st with | .ok _ _ => .bad e p | .bad e' p' => .bad e' p'
theorem at_fail {β : Type} {st : Rdd Unit} {d : Rdd β} {K : Nat → Rdd β} {e : Int} {p : Nat} {G : Nat → Rdd β} (h : At st d K) (hk : ∀ a, st = .ok () a → K a = .bad e p) : At (failS st e p) d G := by
  cases st with
  | bad e' p' => exact h
  | ok u a => exact h.trans (hk a rfl)
theorem at_mono {β : Type} {st : Rdd Unit} {d : Rdd β} {K G : Nat → Rdd β} (h : At st d K) (hk : ∀ a, st = .ok () a → K a = G a) : At st d G := by
  cases st with
  | bad e' p' => exact h
  | ok u a => exact h.trans (hk a rfl)
theorem at_ok {β : Type} {st : Rdd Unit} {d : Rdd β} {K : Nat → Rdd β} (h : At st d K) {a : Nat} (hs : st = .ok () a) : d = K a := by subst hs; exact h
end Go.Pk
namespace Go.Proofs.YtpnkifincadakaaGreatDoor.Wr
open Go.RowKit Go.Pk Go.Proofs.YtpnkifincadakaaGreatDoorW.PrintWords Go.Proofs.YtpnkifincadakaaGreatDoor.PPackSpecs
theorem cell_same {w w' : World} {p : Addr} (h : w'.heap[p.block]? = w.heap[p.block]?) : w'.cell? p = w.cell? p := by
  simp only [World.cell?, h]
theorem cell_lt {w : World} {p : Addr} {u : Value} (h : w.cell? p = some u) : p.block < w.heap.size := by
  unfold World.cell? at h
  by_cases hb : p.block < w.heap.size
  · exact hb
  · rw [Array.getElem?_eq_none (by omega)] at h
    cases h
theorem add_block (p : Addr) (j : Nat) : (p.add j).block = p.block := by
  unfold Addr.add
  split <;> rfl
structure ES (y : Nat) (A : Option Addr) (cap : Nat) (bs : List Int) (st : Rdd Unit) (w : World) : Prop where
  box : ∃ t : Nat, w.heap[y]? = some (.cells #[.slice A bs.length cap, .int .i64 t, .int .i64 (eOf st), .int .i64 (pOf st)] 96 (0, 0)) ∧ t ≤ bs.length ∧ ∀ a, st = .ok () a → t = a
  row : ∀ (j : Nat) (x : Int), bs[j]? = some x → ∃ p, A = some p ∧ p.block ≠ y ∧ w.cell? (p.add j) = some (.int .u8 x)
  nl : A = none → cap = 0
  cap : bs.length ≤ cap ∧ cap ≤ 9223372036854775807
  lim : bs.length ≤ 67108864
  byt : ∀ b, b ∈ bs → 0 ≤ b ∧ b < 256
  ne0 : ∀ e p, st = .bad e p → e ≠ 0
theorem ES.ylt {y : Nat} {A : Option Addr} {cap : Nat} {bs : List Int} {st : Rdd Unit} {w : World} (h : ES y A cap bs st w) : y < w.heap.size := by
  obtain ⟨t, hb, _⟩ := h.box
  exact blk_lt hb
theorem ES.step {y : Nat} {A : Option Addr} {cap : Nat} {bs : List Int} {st st' : Rdd Unit} {w w' : World} (h : ES y A cap bs st w) (hm : Mv y w w') (hb : ∃ t : Nat, w'.heap[y]? = some (.cells #[.slice A bs.length cap, .int .i64 t, .int .i64 (eOf st'), .int .i64 (pOf st')] 96 (0, 0)) ∧ t ≤ bs.length ∧ ∀ a, st' = .ok () a → t = a) (hne : ∀ e p, st' = .bad e p → e ≠ 0) : ES y A cap bs st' w' := by
  refine ⟨hb, fun j x hj => ?_, h.nl, h.cap, h.lim, h.byt, hne⟩
  obtain ⟨p, hA, hp, hc⟩ := h.row j x hj
  refine ⟨p, hA, hp, ?_⟩
  rw [cell_same (hm.keep _ (cell_lt hc) (by rw [add_block]; exact hp))]
  exact hc
theorem ES.below {y : Nat} {A : Option Addr} {cap : Nat} {bs : List Int} {st : Rdd Unit} {w w' : World} (h : ES y A cap bs st w) (k : Below w.heap.size w w') : ES y A cap bs st w' := by
  obtain ⟨t, hb, h1, h2⟩ := h.box
  exact h.step (Mv.of_below k (Nat.le_of_lt h.ylt)) ⟨t, (k.block _ h.ylt).trans hb, h1, h2⟩ h.ne0
theorem ES.put {y : Nat} {A : Option Addr} {cap : Nat} {bs : List Int} {st : Rdd Unit} {w : World} (h : ES y A cap bs st w) {q : Addr} (hy : q.block ≠ y) (hA : ∀ p, A = some p → 0 < bs.length → p.block ≠ q.block) (u : Value) : ES y A cap bs st (w.setCell q u) := by
  obtain ⟨t, hb, h1, h2⟩ := h.box
  refine ⟨⟨t, by rw [Below.heap_setCell _ _ _ _ (fun e => hy e.symm)]; exact hb, h1, h2⟩, fun j x hj => ?_, h.nl, h.cap, h.lim, h.byt, h.ne0⟩
  obtain ⟨p, rfl, hp, hc⟩ := h.row j x hj
  refine ⟨p, rfl, hp, ?_⟩
  rw [cell_same (Below.heap_setCell _ _ _ _ (by rw [add_block]; exact hA p rfl (by have := (List.getElem?_eq_some_iff.1 hj).1; omega)))]
  exact hc
theorem ES.at {y : Nat} {A : Option Addr} {cap : Nat} {bs : List Int} {st : Rdd Unit} {w : World} (h : ES y A cap bs st w) : ∃ t : Nat, t ≤ bs.length ∧ (∀ a, st = .ok () a → t = a) ∧ w.cell? ⟨y, 0, none⟩ = some (.slice A bs.length cap) ∧ w.cell? ⟨y, 1, none⟩ = some (.int .i64 t) ∧ w.cell? ⟨y, 2, none⟩ = some (.int .i64 (eOf st)) ∧ w.cell? ⟨y, 3, none⟩ = some (.int .i64 (pOf st)) ∧ ∀ i, w.frozen? ⟨y, i, none⟩ = false := by
  obtain ⟨t, hb, h1, h2⟩ := h.box
  exact ⟨t, h1, h2, (blk_cell hb 0).trans rfl, (blk_cell hb 1).trans rfl, (blk_cell hb 2).trans rfl, (blk_cell hb 3).trans rfl, fun i => blk_frozen hb i⟩
theorem ES.die {y : Nat} {A : Option Addr} {cap : Nat} {bs : List Int} {a : Nat} {w : World} (h : ES y A cap bs (.ok () a) w) (e : Int) (p : Nat) (he : e ≠ 0) : ES y A cap bs (.bad e p) ((w.setCell ⟨y, 2, none⟩ (.int .i64 e)).setCell ⟨y, 3, none⟩ (.int .i64 p)) ∧ Mv y w ((w.setCell ⟨y, 2, none⟩ (.int .i64 e)).setCell ⟨y, 3, none⟩ (.int .i64 p)) := by
  obtain ⟨t, hb, h1, h2⟩ := h.box
  have hm : Mv y w ((w.setCell ⟨y, 2, none⟩ (.int .i64 e)).setCell ⟨y, 3, none⟩ (.int .i64 p)) := ⟨fun k hk hne => by
    rw [Below.heap_setCell _ _ _ _ (by simpa using hne), Below.heap_setCell _ _ _ _ (by simpa using hne)], by simp, ((Below.refl y w).setCell (p := ⟨y, 2, none⟩) (Nat.le_refl _) _).setCell (p := ⟨y, 3, none⟩) (Nat.le_refl _) _⟩
  exact ⟨h.step hm ⟨t, blk_put (cs := #[.slice A bs.length cap, .int .i64 t, .int .i64 e, .int .i64 0]) (blk_put hb 2 _ rfl) 3 _ rfl, h1, fun a h => by cases h⟩ fun e' p' h => by cases h; exact he, hm⟩
theorem ES.go {y : Nat} {A : Option Addr} {cap : Nat} {bs : List Int} {a : Nat} {w : World} (h : ES y A cap bs (.ok () a) w) (a' : Nat) (ha : a' ≤ bs.length) : ES y A cap bs (.ok () a') (w.setCell ⟨y, 1, none⟩ (.int .i64 a')) ∧ Mv y w (w.setCell ⟨y, 1, none⟩ (.int .i64 a')) := by
  obtain ⟨t, hb, h1, h2⟩ := h.box
  have hm : Mv y w (w.setCell ⟨y, 1, none⟩ (.int .i64 a')) := ⟨fun k hk hne => by
    rw [Below.heap_setCell _ _ _ _ (by simpa using hne)], by simp, (Below.refl y w).setCell (p := ⟨y, 1, none⟩) (Nat.le_refl _) _⟩
  exact ⟨h.step hm ⟨a', blk_put hb 1 _ rfl, ha, fun a h => by cases h; rfl⟩ (fun e' p' h => by cases h), hm⟩
end Go.Proofs.YtpnkifincadakaaGreatDoor.Wr
end
section
namespace Go.Proofs.YtpnkifincadakaaGreatDoor.Wr
open Go.RowKit Go.Pk Go.Am Go.Proofs.YtpnkifincadakaaGreatDoorW.PrintWords Go.Proofs.YtpnkifincadakaaGreatDoor.PPackSpecs
def ReadIt (N : Nat) (lex : List S42) (names : List ByteArray) (start : Int) (prods : List S67) (v : Value) (w' : World) : Prop :=
  ∃ A0 c0 A1 c1 A3 c3, v = .agg #[.slice A0 lex.length c0, .slice A1 names.length c1, .int .i64 start, .slice A3 prods.length c3] ∧ (lex.length ≤ c0 ∧ names.length ≤ c1 ∧ prods.length ≤ c3) ∧ Kd.F k42 w' (fun k => N < k) A0 lex.length lex ∧ Kd.F Kd.string w' (fun k => N < k) A1 names.length names ∧ Kd.F k67 w' (fun k => N < k) A3 prods.length prods
end Go.Proofs.YtpnkifincadakaaGreatDoor.Wr
end
section
namespace Go.Proofs.YtpnkifincadakaaGreatDoor.Wr
open Go.RowKit Go.Pk Go.Am Go.Proofs.YtpnkifincadakaaGreatDoorW.PrintWords Go.Proofs.YtpnkifincadakaaGreatDoor.PPackSpecs
abbrev put4 (w : World) (N : Nat) (a b d f : Value) : World := (((w.setCell ⟨N, 0, none⟩ a).setCell ⟨N, 1, none⟩ b).setCell ⟨N, 2, none⟩ d).setCell ⟨N, 3, none⟩ f
theorem put4_blk {w : World} {N : Nat} (h : w.heap[N]? = some (.cells #[.slice none 0 0, .slice none 0 0, .int .i64 0, .slice none 0 0] 28 (0, 0))) (a b d f : Value) : (put4 w N a b d f).heap[N]? = some (.cells #[a, b, d, f] 28 (0, 0)) :=
  blk_put (cs := #[a, b, d, .slice none 0 0]) (blk_put (cs := #[a, b, .int .i64 0, .slice none 0 0]) (blk_put (cs := #[a, .slice none 0 0, .int .i64 0, .slice none 0 0]) (blk_put h 0 _ rfl) 1 _ rfl) 2 _ rfl) 3 _ rfl
theorem put4_other {w : World} {N k : Nat} (hk : k ≠ N) (a b d f : Value) : (put4 w N a b d f).heap[k]? = w.heap[k]? := by
  unfold put4
  rw [Below.heap_setCell _ _ _ _ (by simpa using hk), Below.heap_setCell _ _ _ _ (by simpa using hk), Below.heap_setCell _ _ _ _ (by simpa using hk), Below.heap_setCell _ _ _ _ (by simpa using hk)]
theorem put4_F {α : Type} {d0 : Kd α} {w : World} {M N : Nat} {A : Option Addr} {n : Nat} {xs : List α} (h : Kd.F d0 w (fun k => M < k) A n xs) (hk : N ≤ M) (a b d f : Value) : Kd.F d0 (put4 w N a b d f) (fun k => M < k) A n xs :=
  Kd.F_step h fun k hok _ => put4_other (by omega) a b d f
theorem put4_below {w w1 : World} {N B : Nat} (h : Below B w w1) (hN : B ≤ N) (a b d f : Value) : Below B w (put4 w1 N a b d f) := (((h.setCell (p := ⟨N, 0, none⟩) hN a).setCell (p := ⟨N, 1, none⟩) hN b).setCell (p := ⟨N, 2, none⟩) hN d).setCell (p := ⟨N, 3, none⟩) hN f
end Go.Proofs.YtpnkifincadakaaGreatDoor.Wr
end
section
namespace Go.Proofs.YtpnkifincadakaaGreatDoor.Wr
open Go.RowKit Go.Pk Go.Proofs.YtpnkifincadakaaGreatDoorW.PrintWords Go.Proofs.YtpnkifincadakaaGreatDoor.PPackSpecs
theorem refuse150 (p e : Int) (w : World) : Calls Tryz.prog 150 #[.int .i64 p, .int .i64 e] w fun e' w' => e' = .panicked [{ v := .iface 92 (.agg #[.int .i64 p, .int .i64 e]), recovered := false }] ∧ w = w' := by
  go_enter Tryz.func150, Tryz.ntmps150
  go_wp2
  exact ⟨rfl, rfl, rfl⟩
end Go.Proofs.YtpnkifincadakaaGreatDoor.Wr
end
section
namespace Go.Proofs.YtpnkifincadakaaGreatDoor.Wr
open Go.RowKit Go.Pk Go.Proofs.YtpnkifincadakaaGreatDoorW.PrintWords Go.Proofs.YtpnkifincadakaaGreatDoor.PPackSpecs
def Fell (g : Nat) (w : World) (p e : Int) (e' : Ending) (w' : World) : Prop := e' = .panicked [{ v := .iface 92 (.agg #[.int .i64 p, .int .i64 e]), recovered := false }] ∧ Mv g w w'
set_option maxHeartbeats 8000000 in
set_option maxRecDepth 100000 in
theorem take149_cut (g q cb : Nat) (bs : List Int) (a r n m : Nat) (w : World) (h : RS g q cb bs a r n w) (hm : bs.length < a + m) (hmm : m ≤ 9223372036854775807) :
    Calls Tryz.prog 149 #[.pointer (some ⟨g, 0, none⟩), .int .i64 m] w (Fell g w bs.length 182) := by
  have hl := h.cap.1
  have hc := h.cap.2
  have hp := h.pos
  have H := Aside0.mk h
  have c0 : w.cell? ⟨g, 0, none⟩ = some (.slice (some ⟨q, 0, none⟩) bs.length cb) := (blk_cell h.box 0).trans rfl
  have c1 : w.cell? ⟨g, 1, none⟩ = some (.int .i64 a) := (blk_cell h.box 1).trans rfl
  clear h
  have hb : (bs.length : Int) - (a : Int) < (m : Int) := by omega
  go_enter Tryz.func149, Tryz.ntmps149
  go_wp2_with fail
  go_quiet (fail)
  obtain ⟨nq0, rfl⟩ : ∃ k, k = nq := ⟨_, rfl⟩
  have M1 := Aside0.mk (Mv.of_below (pw_below_drewN (Below.refl _ w) nq0) (Nat.le_of_lt H.out.glt))
  go_wp2_with (go_at_call 150; refine (refuse150 _ _ _).mono ?_)
  first | rintro e' w2 rfl rfl | rintro e' w2 ⟨rfl, rfl⟩
  go_wp2
  exact ⟨rfl, rfl, M1.out⟩
set_option maxHeartbeats 8000000 in
set_option maxRecDepth 100000 in
theorem number151_cut (g q cb : Nat) (bs : List Int) (a r n m : Nat) (w : World) (h : RS g q cb bs a r n w) (hm : bs.length < a + m) (hmm : m ≤ 9223372036854775807) :
    Calls Tryz.prog 151 #[.pointer (some ⟨g, 0, none⟩), .int .i64 m] w (Fell g w bs.length 182) := by
  have c1 : w.cell? ⟨g, 1, none⟩ = some (.int .i64 a) := (blk_cell h.box 1).trans rfl
  have HT := Aside0.mk (take149_cut g q cb bs a r n m w h hm hmm)
  clear h
  go_enter Tryz.func151, Tryz.ntmps151
  go_wp2_with (go_at_call 149; refine HT.out.mono ?_)
  rintro e' w1 ⟨rfl, k1⟩
  have M1 := Aside0.mk k1
  clear k1
  go_wp2
  exact ⟨rfl, rfl, M1.out⟩
set_option maxHeartbeats 8000000 in
set_option maxRecDepth 100000 in
theorem upto85_cut (g q cb : Nat) (bs : List Int) (a r n m : Nat) (mo : Int) (w : World) (h : RS g q cb bs a r n w) (hm : bs.length < a + m) (hmm : m ≤ 9223372036854775807) :
    Calls Tryz.prog 85 #[.pointer (some ⟨g, 0, none⟩), .int .i64 m, .int .i64 mo] w (Fell g w bs.length 182) := by
  have HT := Aside0.mk (number151_cut g q cb bs a r n m w h hm hmm)
  clear h
  go_enter Tryz.func85, Tryz.ntmps85
  go_wp2_with (go_at_call 151; refine HT.out.mono ?_)
  rintro e' w1 ⟨rfl, k1⟩
  have M1 := Aside0.mk k1
  clear k1
  go_wp2
  exact ⟨rfl, rfl, M1.out⟩
set_option maxHeartbeats 8000000 in
set_option maxRecDepth 100000 in
theorem upto85_high (g q cb : Nat) (bs : List Int) (a r n m : Nat) (mo v : Int) (w : World) (h : RS g q cb bs a r n w) (hm : m ≤ 4) (ham : a + m ≤ bs.length) (ha : a < bs.length) (hv : leN ((bs.drop a).take m) = v) (hle : mo < v) :
    Calls Tryz.prog 85 #[.pointer (some ⟨g, 0, none⟩), .int .i64 m, .int .i64 mo] w (Fell g w a 180) := by
  have HN := Aside0.mk (number151 g q cb bs a r n m w h hm ham ha)
  rw [hv] at HN
  clear h hv
  go_enter Tryz.func85, Tryz.ntmps85
  go_wp2_with (go_at_call 151; refine HN.out.mono ?_)
  first | rintro e' w1 rfl h1 h2 | rintro e' w1 ⟨rfl, h1, h2⟩
  have HM := Aside0.mk h2
  clear h1 h2
  go_wp2_with (go_at_call 150; refine (refuse150 _ _ _).mono ?_)
  first | rintro e' w2 rfl rfl | rintro e' w2 ⟨rfl, rfl⟩
  go_wp2
  exact ⟨rfl, rfl, HM.out⟩
end Go.Proofs.YtpnkifincadakaaGreatDoor.Wr
end
section
namespace Go.Pk
open Go.Proofs.YtpnkifincadakaaGreatDoor.Wr (leN)
theorem numD_ok {bs : List Int} {a k a' : Nat} {lo hi v : Int} (h : numD bs a k lo hi = .ok v a') : a' = a + k ∧ a + k ≤ bs.length ∧ leN ((bs.drop a).take k) = v ∧ lo ≤ v ∧ v ≤ hi := by
  unfold numD takeD at h
  split at h
  · cases h
  · simp only [Rdd.bind] at h
    split at h
    · cases h
    · cases h
      exact ⟨rfl, by omega, rfl, by omega, by omega⟩
theorem numD_bad {bs : List Int} {a k p : Nat} {lo hi e : Int} (h : numD bs a k lo hi = .bad e p) : (e = 182 ∧ p = bs.length ∧ bs.length < a + k) ∨ (e = 180 ∧ p = a ∧ a + k ≤ bs.length ∧ (leN ((bs.drop a).take k) < lo ∨ hi < leN ((bs.drop a).take k))) := by
  unfold numD takeD at h
  split at h
  · cases h
    exact .inl ⟨rfl, rfl, by assumption⟩
  · simp only [Rdd.bind] at h
    split at h
    · cases h
      exact .inr ⟨rfl, rfl, by omega, by assumption⟩
    · cases h
theorem takeD_ok {bs l : List Int} {a n a' : Nat} (h : takeD bs a n = .ok l a') : a' = a + n ∧ a + n ≤ bs.length ∧ l = (bs.drop a).take n := by
  unfold takeD at h
  split at h
  · cases h
  · cases h
    exact ⟨rfl, by omega, rfl⟩
theorem takeD_bad {bs : List Int} {a n p : Nat} {e : Int} (h : takeD bs a n = .bad e p) : e = 182 ∧ p = bs.length ∧ bs.length < a + n := by
  unfold takeD at h
  split at h
  · cases h
    exact ⟨rfl, rfl, by assumption⟩
  · cases h
end Go.Pk
namespace Go.Proofs.YtpnkifincadakaaGreatDoor.Wr
open Go.RowKit Go.Pk Go.Proofs.YtpnkifincadakaaGreatDoorW.PrintWords Go.Proofs.YtpnkifincadakaaGreatDoor.PPackSpecs
def Out {α : Type} (d : Rdd α) (g : Nat) (w : World) (ok : α → Nat → Ending → World → Prop) (e : Ending) (w' : World) : Prop := match d with
  | .ok x a => ok x a e w'
  | .bad er p => Fell g w p er e w'
theorem leN_one {bs : List Int} (hby : ∀ b, b ∈ bs → 0 ≤ b ∧ b < 256) (a k : Nat) (hk : k ≤ 4) : 0 ≤ leN ((bs.drop a).take k) ∧ leN ((bs.drop a).take k) < 256 ^ k := by
  obtain ⟨h0, h1⟩ := leN_bound ((bs.drop a).take k) fun b hb => hby b (List.mem_of_mem_drop (List.mem_of_mem_take hb))
  refine ⟨h0, Int.lt_of_lt_of_le h1 ?_⟩
  have hl : ((bs.drop a).take k).length ≤ k := by rw [List.length_take]; omega
  have h := Int.ofNat_le.2 (Nat.pow_le_pow_right (n := 256) (by decide) hl)
  rw [Int.natCast_pow, Int.natCast_pow] at h
  exact h
set_option maxRecDepth 100000 in
theorem upto85D (g q cb : Nat) (bs : List Int) (a r n m : Nat) (mo : Int) (d : Rdd Int) (hd : numD bs a m 0 mo = d) (w : World) (h : RS g q cb bs a r n w) (hm : 1 ≤ m ∧ m ≤ 4) :
    Calls Tryz.prog 85 #[.pointer (some ⟨g, 0, none⟩), .int .i64 m, .int .i64 mo] w (Out d g w fun v a' e w' => e = .returned (.int .i64 v) ∧ RS g q cb bs a' r n w' ∧ Mv g w w') := by
  cases d with
  | ok v a' =>
    obtain ⟨rfl, h1, h2, h3, h4⟩ := numD_ok hd
    exact upto85 g q cb bs a r n m mo v w h hm.2 h1 (by omega) h2 h4
  | bad e p =>
    rcases numD_bad hd with ⟨rfl, rfl, h1⟩ | ⟨rfl, rfl, h1, h2⟩
    · exact upto85_cut g q cb bs a r n m mo w h h1 (by omega)
    · exact upto85_high g q cb bs p r n m mo _ w h hm.2 h1 (by omega) rfl (by have := leN_one h.byt p m hm.2; omega)
set_option maxRecDepth 100000 in
theorem number151D (g q cb : Nat) (bs : List Int) (a r n m : Nat) (mo : Int) (d : Rdd Int) (hd : numD bs a m 0 mo = d) (hmo : (m = 1 ∧ mo = 255) ∨ (m = 2 ∧ mo = 65535)) (w : World) (h : RS g q cb bs a r n w) :
    Calls Tryz.prog 151 #[.pointer (some ⟨g, 0, none⟩), .int .i64 m] w (Out d g w fun v a' e w' => e = .returned (.tuple #[.int .i64 v, .int .i64 a]) ∧ RS g q cb bs a' r n w' ∧ Mv g w w') := by
  cases d with
  | ok v a' =>
    obtain ⟨rfl, h1, rfl, h3, h4⟩ := numD_ok hd
    exact number151 g q cb bs a r n m w h (by omega) h1 (by omega)
  | bad e p =>
    rcases numD_bad hd with ⟨rfl, rfl, h1⟩ | ⟨rfl, rfl, h1, h2⟩
    · exact number151_cut g q cb bs a r n m w h h1 (by omega)
    · exfalso
      have := leN_one h.byt p m (by omega)
      rcases hmo with ⟨rfl, rfl⟩ | ⟨rfl, rfl⟩ <;> omega
theorem leN_byte {bs : List Int} {k : Nat} (h : k < bs.length) : leN ((bs.drop k).take 1) = bs[k] := by
  have e : (bs.drop k).take 1 = [bs[k]] := by rw [List.drop_eq_getElem_cons h]; rfl
  rw [e, leN, leN]
  omega
theorem magicD_at {bs : List Int} {l : List Int} {k : Nat} {c : Int} (hc : l[k]? = some c) (d : Rdd Int) (hd : numD bs k 1 c c = d) : magicD bs (l.drop k) k = d.bind fun _ a1 => magicD bs (l.drop (k + 1)) a1 := by
  obtain ⟨hk, rfl⟩ := List.getElem?_eq_some_iff.1 hc
  rw [List.drop_eq_getElem_cons hk]
  simp only [magicD, hd]
set_option maxHeartbeats 8000000 in
set_option maxRecDepth 100000 in
theorem magic84D (g q cb : Nat) (bs : List Int) (r n : Nat) (s : ByteArray) (d : Rdd Unit) (hd : magicD bs (bytesOf s) 0 = d) (w : World) (h : RS g q cb bs 0 r n w) (hs : s.size ≤ 8) :
    Calls Tryz.prog 84 #[.pointer (some ⟨g, 0, none⟩), .string s] w (Out d g w fun _ a' e w' => e = .returned (.tuple #[]) ∧ RS g q cb bs a' r n w' ∧ Mv g w w') := by
  have H := Aside0.mk h
  have HD := Aside0.mk hd
  clear h hd
  go_enter Tryz.func84, Tryz.ntmps84
  go_wp2
  go_loopw [8] (fun i wr => ∃ k : Nat, k ≤ s.size ∧ i = .int .i64 k ∧ Aside0 (RS g q cb bs k r n wr) ∧ Aside0 (Mv g w wr) ∧ Aside0 (magicD bs ((bytesOf s).drop k) k = d)) (fun i _ => s.size - (intOf i).toNat)
  case atStart => exact ⟨0, Nat.zero_le _, rfl, H, ⟨Mv.refl _ _⟩, ⟨by rw [List.drop_zero]; exact HD.out⟩⟩
  case round =>
    obtain ⟨k, hk, rfl, hR, hM, hK⟩ := hrel
    by_cases hlt : k < s.size
    · have c1 : wr.cell? ⟨g, 1, none⟩ = some (.int .i64 (k : Nat)) := (blk_cell hR.out.box 1).trans rfl
      have hcs : (bytesOf s)[k]? = some ((s[k]'hlt).toNat : Int) := by
        rw [List.getElem?_eq_getElem (by rw [bytesOf_length]; exact hlt)]
        simp [bytesOf]
        rfl
      have hcb : ((s[k]'hlt).toNat : Int) < 256 := by have := (s[k]'hlt).toNat_lt; omega
      have hc0 : 0 ≤ ((s[k]'hlt).toNat : Int) := by omega
      by_cases hcut : bs.length < k + 1
      · have HT := Aside0.mk fun (w' : World) (hb : Below wr.heap.size wr w') => take149_cut g q cb bs k r n 1 w' (hR.out.below hb) hcut (by omega)
        have MM := Aside0.mk fun (w' : World) (hm : Mv g (wr.drew) w') => (hM.out.trans ((Mv.of_below (below_drew1 (Below.refl _ wr)) (Nat.le_of_lt hR.out.glt)).trans hm))
        have hdd : d = .bad 182 bs.length := by
          rw [← hK.out, magicD_at hcs _ rfl, numD, takeD, if_pos hcut]
          rfl
        subst hdd
        clear hcs
        go_wp2_with fail
        go_region_dies
        all_goals
          go_wp2_with (go_at_call 149; refine (HT.out _ (below_drew1 (Below.refl _ _))).mono ?_)
          rintro e w5 ⟨rfl, k6⟩
          have M6 := Aside0.mk (MM.out _ k6)
          clear k6
          go_wp2
          exact ⟨rfl, rfl, M6.out⟩
      · have hkl : k < bs.length := by omega
        have HT := Aside0.mk fun (w' : World) (hb : Below wr.heap.size wr w') => take149 g q cb bs k r n 1 w' (hR.out.below hb) (by omega) hkl
        have hv : leN ((bs.drop k).take 1) = bs[k] := leN_byte hkl
        have MM := Aside0.mk fun (w' : World) (hm : Mv g (wr.drew) w') => (hM.out.trans ((Mv.of_below (below_drew1 (Below.refl _ wr)) (Nat.le_of_lt hR.out.glt)).trans hm))
        by_cases hbc : bs[k] = ((s[k]'hlt).toNat : Int)
        · have hKK := hK.out
          rw [magicD_at hcs _ rfl, numD, takeD, if_neg hcut] at hKK
          simp only [Rdd.bind, hv, hbc] at hKK
          rw [if_neg (by omega)] at hKK
          have HKK := Aside0.mk hKK
          have HBC := Aside0.mk hbc
          clear hcs hv hKK hbc
          go_wp2_with fail
          go_region_with (go_at_call 149; refine (HT.out _ (below_drew1 (Below.refl _ _))).mono ?_; rintro e w5 ⟨rfl, k5, k6⟩; have c5 : w5.cell? ⟨q, k, none⟩ = some (.int .u8 ((s[k]'hlt).toNat : Int)) := (by rw [← HBC.out]; exact k5.byte k hkl); have K5 := Aside0.mk k5; have K6 := Aside0.mk (MM.out _ k6); clear k5 k6)
          all_goals
            go_wp2
            go_roundw
            case rel => exact ⟨k + 1, by omega, by go_num, ⟨K5.out⟩, K6, HKK⟩
            case measure => simp [intOf]; omega
        · have hdd : d = .bad 180 k := by
            rw [← hK.out, magicD_at hcs _ rfl, numD, takeD, if_neg hcut]
            simp only [Rdd.bind, hv]
            rw [if_pos (by omega)]
          subst hdd
          obtain ⟨b, hb⟩ : ∃ b, b = bs[k] := ⟨_, rfl⟩
          rw [← hb] at hbc
          have HBB := Aside0.mk hb
          clear hcs hv hb
          go_wp2_with fail
          go_region_with (go_at_call 149; refine (HT.out _ (below_drew1 (Below.refl _ _))).mono ?_; rintro e w5 ⟨rfl, k5, k6⟩; have c5 : w5.cell? ⟨q, k, none⟩ = some (.int .u8 b) := (by rw [HBB.out]; exact k5.byte k hkl); have K5 := Aside0.mk k5; have K6 := Aside0.mk (MM.out _ k6); clear k5 k6)
          all_goals
            go_wp2_with (go_at_call 150; refine (refuse150 _ _ _).mono ?_)
            first | rintro e' w7 rfl rfl | rintro e' w7 ⟨rfl, rfl⟩
            go_wp2
            exact ⟨rfl, rfl, K6.out⟩
    · obtain rfl : k = s.size := by omega
      have hdd : d = .ok () s.size := by
        rw [← hK.out, List.drop_of_length_le (by rw [bytesOf_length]; exact Nat.le_refl _)]
        rfl
      subst hdd
      go_wp2
      go_end0
      exact ⟨rfl, hR.out, hM.out⟩
end Go.Proofs.YtpnkifincadakaaGreatDoor.Wr
end
section
namespace Go.Proofs.YtpnkifincadakaaGreatDoor.Wr
open Go.RowKit Go.Pk Go.Proofs.YtpnkifincadakaaGreatDoorW.PrintWords Go.Proofs.YtpnkifincadakaaGreatDoor.PPackSpecs
set_option maxHeartbeats 4000000 in
set_option maxRecDepth 100000 in
theorem fail47 (y : Nat) (A : Option Addr) (cap : Nat) (bs : List Int) (st : Rdd Unit) (e : Int) (p : Nat) (w : World) (h : ES y A cap bs st w) (he : e ≠ 0) :
    Calls Tryz.prog 47 #[.pointer (some ⟨y, 0, none⟩), .int .i64 e, .int .i64 p] w fun r w' => r = .returned (.tuple #[]) ∧ ES y A cap bs (failS st e p) w' ∧ Mv y w w' := by
  obtain ⟨t, _, _, _, _, c2, c3, f⟩ := h.at
  have H := Aside0.mk h
  have hne := h.ne0
  clear h
  rcases st with ⟨⟨⟩, a⟩ | ⟨e', p'⟩
  · dsimp only [eOf, pOf] at c2 c3
    have HD := Aside0.mk (H.out.die e p he)
    go_enter Tryz.func47, Tryz.ntmps47
    go_wp2
    go_end0
    exact ⟨rfl, HD.out.1, HD.out.2⟩
  · dsimp only [eOf, pOf] at c2 c3
    obtain ⟨z1, z2⟩ := bf (hne e' p' rfl)
    go_enter Tryz.func47, Tryz.ntmps47
    go_wp2
    go_end0
    exact ⟨rfl, H.out, Mv.refl _ _⟩
theorem ES.drewN {y : Nat} {A : Option Addr} {cap : Nat} {bs : List Int} {st : Rdd Unit} {w : World} (h : ES y A cap bs st w) (n : Nat) : ES y A cap bs st (w.drewN n) ∧ Mv y w (w.drewN n) :=
  ⟨h.below (pw_below_drewN (Below.refl _ w) n), Mv.of_below (pw_below_drewN (Below.refl _ w) n) (Nat.le_of_lt h.ylt)⟩
set_option maxHeartbeats 16000000 in
set_option maxRecDepth 100000 in
theorem num44 (y : Nat) (A : Option Addr) (cap : Nat) (bs : List Int) (st : Rdd Unit) (k : Nat) (lo hi : Int) (w : World) (h : ES y A cap bs st w) (hk : 1 ≤ k ∧ k ≤ 4) :
    Calls Tryz.prog 44 #[.pointer (some ⟨y, 0, none⟩), .int .i64 k, .int .i64 lo, .int .i64 hi] w fun r w' => ∃ (v : Int) (st' : Rdd Unit), r = .returned (.int .i64 v) ∧ Agree (fun a => numD bs a k lo hi) st v st' ∧ (v = 0 ∨ lo ≤ v ∧ v ≤ hi) ∧ ES y A cap bs st' w' ∧ Mv y w w' := by
  obtain ⟨t, htl, hta, c0, c1, c2, c3, f⟩ := h.at
  have H := Aside0.mk h
  have hne := h.ne0
  have hcap := h.cap
  have hlim := h.lim
  have HBY := Aside0.mk h.byt
  have HRW := Aside0.mk h.row
  clear h
  rcases st with ⟨⟨⟩, a⟩ | ⟨e', p'⟩
  rotate_left
  · dsimp only [eOf, pOf] at c2 c3
    obtain ⟨z1, z2⟩ := bf (hne e' p' rfl)
    clear hta
    go_enter Tryz.func44, Tryz.ntmps44
    go_wp2
    go_ret
    exact ⟨0, .bad e' p', rfl, rfl, .inl rfl, H.out, Mv.refl _ _⟩
  dsimp only [eOf, pOf] at c2 c3
  obtain rfl := hta a rfl
  clear hta hne
  by_cases hcut : bs.length < t + k
  · have hAg : Aside0 (Agree (fun a => numD bs a k lo hi) (.ok () t) (0 : Int) (.bad 182 bs.length)) := ⟨by simp only [Agree, numD, takeD, if_pos hcut, Rdd.bind]⟩
    have HF := Aside0.mk fun w' h' => fail47 y A cap bs (.ok () t) 182 bs.length w' h' (by decide)
    have z : decide ((bs.length : Int) < (t : Int) + (k : Int)) = true := decide_eq_true (by omega)
    clear HBY HRW
    go_enter Tryz.func44, Tryz.ntmps44
    go_wp2_with fail
    go_quiet (fail)
    obtain ⟨nq0, rfl⟩ : ∃ k, k = nq := ⟨_, rfl⟩
    have R0 := Aside0.mk (H.out.drewN nq0)
    go_wp2_with (go_at_call 47; refine (HF.out _ R0.out.1).mono ?_)
    first | rintro e w1 rfl k1 k2 | rintro e w1 ⟨rfl, k1, k2⟩
    have K1 := Aside0.mk k1
    have M1 := Aside0.mk (R0.out.2.trans k2)
    clear k1 k2
    go_wp2
    go_ret
    exact ⟨0, .bad 182 bs.length, rfl, hAg.out, .inl rfl, K1.out, M1.out⟩
  have z : decide ((bs.length : Int) < (t : Int) + (k : Int)) = false := decide_eq_false (by omega)
  obtain ⟨q, rfl⟩ : ∃ q, A = some q := by
    obtain ⟨q, h, _⟩ := HRW.out t bs[t] (List.getElem?_eq_getElem (by omega))
    exact ⟨q, h⟩
  obtain ⟨L, hL⟩ : ∃ L, L = (bs.drop t).take k := ⟨_, rfl⟩
  have hlen : L.length = k := by rw [hL, List.length_take, List.length_drop]; omega
  have HLEN := Aside0.mk hlen
  have HEL : Aside0 (∀ j, j < k → L[j]? = bs[t + j]?) := ⟨fun j hj => by rw [hL, List.getElem?_take_of_lt hj, List.getElem?_drop]⟩
  have HIN : Aside0 (∀ b, b ∈ L → 0 ≤ b ∧ b < 256) := ⟨fun b hb => HBY.out b (List.mem_of_mem_drop (List.mem_of_mem_take (hL ▸ hb)))⟩
  have hnum : numD bs t k lo hi = if leN L < lo ∨ hi < leN L then .bad 180 t else .ok (leN L) (t + k) := by rw [numD, takeD, if_neg hcut, Rdd.bind_ok, ← hL]
  have HNUM := Aside0.mk hnum
  clear hL hnum hlen HBY HRW
  go_enter Tryz.func44, Tryz.ntmps44
  go_wp2_with fail
  go_quiet (fail)
  obtain ⟨nq0, rfl⟩ : ∃ k, k = nq := ⟨_, rfl⟩
  have R0 := Aside0.mk (H.out.drewN nq0)
  go_wp2
  go_loopw [9, 10] (fun v i wr => ∃ j : Nat, j ≤ k ∧ v = .int .i64 (leN (L.take j)) ∧ i = .int .i64 j ∧ Aside0 (ES y (some q) cap bs (.ok () t) wr ∧ Mv y w wr)) (fun _ i _ => k - (intOf i).toNat)
  case atStart => exact ⟨0, Nat.zero_le _, rfl, rfl, R0⟩
  case round =>
    obtain ⟨j, hj, rfl, rfl, hR⟩ := hrel
    obtain ⟨t', _, hta', d0, d1, d2, d3, df⟩ := hR.out.1.at
    obtain rfl := (hta' _ rfl).symm
    dsimp only [eOf, pOf] at d2 d3
    clear hta'
    by_cases hlt : j < k
    · have hjl : j < L.length := by rw [HLEN.out]; exact hlt
      have hb := HIN.out _ (List.getElem_mem hjl)
      have hcell : wr.cell? (q.add (t + j)) = some (.int .u8 L[j]) := by
        have hh := HEL.out j hlt
        rw [List.getElem?_eq_getElem hjl] at hh
        obtain ⟨q', hq, _, hc⟩ := hR.out.1.row (t + j) _ hh.symm
        cases hq
        exact hc
      have hsn : leN (L.take (j + 1)) = leN (L.take j) + L[j] * 256 ^ j := by
        rw [List.take_succ_eq_append_getElem hjl, leN_snoc, List.length_take, Nat.min_eq_left (by omega)]
      have hbd := leN_bound (L.take j) fun b hb => HIN.out b (List.mem_of_mem_take hb)
      rw [List.length_take, Nat.min_eq_left (by omega)] at hbd
      obtain ⟨hv0, hv1⟩ := hbd
      have HSN := Aside0.mk hsn
      clear hsn
      generalize L[j] = b at *
      generalize hv : leN (L.take j) = v at *
      have HV := Aside0.mk hv
      clear hv
      obtain ⟨hb0, hb1⟩ := hb
      have hk4 : j = 0 ∨ j = 1 ∨ j = 2 ∨ j = 3 := by omega
      rcases hk4 with rfl | rfl | rfl | rfl
      · rw [Nat.add_zero] at hcell
        have hv2 : v < 256 ^ 0 := hv1
        go_wp2_with fail
        go_quiet (fail)
        obtain ⟨nq1, rfl⟩ : ∃ k, k = nq := ⟨_, rfl⟩
        have R1 := Aside0.mk (hR.out.1.drewN nq1)
        go_wp2
        go_roundw
        case rel => exact ⟨1, by omega, congrArg (Value.int .i64) (show v + b = _ by have := HSN.out; simpa using this.symm), by go_num, ⟨R1.out.1, hR.out.2.trans R1.out.2⟩⟩
        case measure => simp [intOf]; omega
      · obtain ⟨i1, hi1⟩ : ∃ i1, i1 = t + 1 := ⟨_, rfl⟩
        rw [← hi1] at hcell
        have hs1 : (t : Int) + 1 = (i1 : Int) := by omega
        have hi2 : i1 < bs.length := by omega
        have HI1 := Aside0.mk hi1
        clear hi1
        have hv2 : v < 256 ^ 1 := hv1
        go_wp2_with fail
        go_quiet (fail)
        obtain ⟨nq1, rfl⟩ : ∃ k, k = nq := ⟨_, rfl⟩
        have R1 := Aside0.mk (hR.out.1.drewN nq1)
        go_wp2
        go_roundw
        case rel => exact ⟨2, by omega, congrArg (Value.int .i64) (show v + b * 256 = _ by have := HSN.out; simpa using this.symm), by go_num, ⟨R1.out.1, hR.out.2.trans R1.out.2⟩⟩
        case measure => simp [intOf]; omega
      · obtain ⟨i1, hi1⟩ : ∃ i1, i1 = t + 2 := ⟨_, rfl⟩
        rw [← hi1] at hcell
        have hs1 : (t : Int) + 2 = (i1 : Int) := by omega
        have hi2 : i1 < bs.length := by omega
        have HI1 := Aside0.mk hi1
        clear hi1
        have hv2 : v < 256 ^ 2 := hv1
        go_wp2_with fail
        go_quiet (fail)
        obtain ⟨nq1, rfl⟩ : ∃ k, k = nq := ⟨_, rfl⟩
        have R1 := Aside0.mk (hR.out.1.drewN nq1)
        go_wp2
        go_roundw
        case rel => exact ⟨3, by omega, congrArg (Value.int .i64) (show v + b * 65536 = _ by have := HSN.out; simpa using this.symm), by go_num, ⟨R1.out.1, hR.out.2.trans R1.out.2⟩⟩
        case measure => simp [intOf]; omega
      · obtain ⟨i1, hi1⟩ : ∃ i1, i1 = t + 3 := ⟨_, rfl⟩
        rw [← hi1] at hcell
        have hs1 : (t : Int) + 3 = (i1 : Int) := by omega
        have hi2 : i1 < bs.length := by omega
        have HI1 := Aside0.mk hi1
        clear hi1
        have hv2 : v < 256 ^ 3 := hv1
        go_wp2_with fail
        go_quiet (fail)
        obtain ⟨nq1, rfl⟩ : ∃ k, k = nq := ⟨_, rfl⟩
        have R1 := Aside0.mk (hR.out.1.drewN nq1)
        go_wp2
        go_roundw
        case rel => exact ⟨4, by omega, congrArg (Value.int .i64) (show v + b * 16777216 = _ by have := HSN.out; simpa using this.symm), by go_num, ⟨R1.out.1, hR.out.2.trans R1.out.2⟩⟩
        case measure => simp [intOf]; omega
    · obtain rfl : j = k := by omega
      have hT : L.take j = L := List.take_of_length_le (by rw [HLEN.out]; exact Nat.le_refl _)
      rw [hT]
      clear hT
      have hbd := leN_bound L fun b hb => HIN.out b hb
      obtain ⟨v, hv⟩ : ∃ v, v = leN L := ⟨_, rfl⟩
      have hnum := HNUM.out
      rw [← hv] at hnum hbd ⊢
      clear hv HNUM
      by_cases hgood : v < lo ∨ hi < v
      · rw [if_pos hgood] at hnum
        have hAg : Aside0 (Agree (fun a => numD bs a j lo hi) (.ok () t) (0 : Int) (.bad 180 t)) := ⟨by simp only [Agree, hnum]⟩
        have HF := Aside0.mk (fail47 y (some q) cap bs (.ok () t) 180 t wr hR.out.1 (by decide))
        have T : (decide (v < lo) = true) ∨ (decide (v < lo) = false ∧ decide (hi < v) = true) := by
          by_cases g1 : v < lo
          · exact .inl (decide_eq_true g1)
          · exact .inr ⟨decide_eq_false g1, decide_eq_true (by omega)⟩
        clear hgood hnum
        rcases T with z1 | ⟨z1, z2⟩
        all_goals
          go_wp2_with (go_at_call 47; refine HF.out.mono ?_)
          first | rintro e w1 rfl k1 k2 | rintro e w1 ⟨rfl, k1, k2⟩
          have K1 := Aside0.mk k1
          have M1 := Aside0.mk (hR.out.2.trans k2)
          clear k1 k2
          go_wp2
          go_ret
          exact ⟨0, .bad 180 t, rfl, hAg.out, .inl rfl, K1.out, M1.out⟩
      · rw [if_neg hgood] at hnum
        have hAg : Aside0 (Agree (fun a => numD bs a j lo hi) (.ok () t) v (.ok () (t + j))) := ⟨by simp only [Agree, hnum, and_self]⟩
        have hin : Aside0 (v = 0 ∨ lo ≤ v ∧ v ≤ hi) := ⟨by omega⟩
        have HG := Aside0.mk (hR.out.1.go (t + j) (by omega))
        have M1 := Aside0.mk (hR.out.2.trans HG.out.2)
        have z1 : decide (v < lo) = false := decide_eq_false (by omega)
        have z2 : decide (hi < v) = false := decide_eq_false (by omega)
        clear hgood hnum
        go_wp2
        go_ret
        exact ⟨v, .ok () (t + j), rfl, hAg.out, hin.out, HG.out.1, M1.out⟩
end Go.Proofs.YtpnkifincadakaaGreatDoor.Wr
end
section
namespace Go.Pk
theorem at_bind {α β : Type} {st : Rdd Unit} {D : Rdd α} {d : Rdd β} {x : α} {F : α → Nat → Rdd β} (h : At st D (fun a => .ok x a)) (hd : D.bind F = d) : At st d (F x) := by
  cases st with
  | ok u a =>
    have h' : D = .ok x a := h
    subst h'
    exact hd.symm
  | bad e p =>
    have h' : D = .bad e p := h
    subst h'
    exact hd.symm
theorem agree_at {α : Type} {dec : Nat → Rdd α} {a : Nat} {x : α} {st' : Rdd Unit} (h : Agree dec (.ok () a) x st') : At st' (dec a) (fun a' => .ok x a') := by
  simp only [Agree] at h
  cases hd : dec a with
  | ok y a' => rw [hd] at h; obtain ⟨rfl, rfl⟩ := h; rfl
  | bad e p => rw [hd] at h; dsimp only at h; subst h; rfl
theorem agree_bind {α β : Type} {dec : Nat → Rdd α} {F : α → Nat → Rdd β} {st st1 st2 : Rdd Unit} {x : α} {y : β} (h : Agree dec st x st1) (k : Agree (F x) st1 y st2) : Agree (fun a => (dec a).bind F) st y st2 := by
  cases st with
  | bad e p =>
    simp only [Agree] at h
    subst h
    exact k
  | ok u a =>
    simp only [Agree] at h
    cases hd : dec a with
    | ok z a' =>
      rw [hd] at h
      obtain ⟨rfl, rfl⟩ := h
      simp only [Agree, hd, Rdd.bind_ok] at k ⊢
      exact k
    | bad e p =>
      rw [hd] at h
      dsimp only at h
      subst h
      simp only [Agree] at k
      simp only [Agree, hd, Rdd.bind_bad]
      exact k
theorem agree_ok {α β : Type} {st : Rdd Unit} (f : α → β) (x : α) : Agree (fun a => Rdd.ok (f x) a) st (f x) st := by
  cases st with
  | bad e p => rfl
  | ok u a => exact ⟨rfl, rfl⟩
end Go.Pk
namespace Go.Proofs.YtpnkifincadakaaGreatDoor.Wr
open Go.RowKit Go.Pk Go.Proofs.YtpnkifincadakaaGreatDoorW.PrintWords Go.Proofs.YtpnkifincadakaaGreatDoor.PPackSpecs
set_option maxHeartbeats 8000000 in
set_option maxRecDepth 100000 in
theorem head43 (y : Nat) (A : Option Addr) (cap : Nat) (bs : List Int) (s : ByteArray) (D : Rdd Unit) (hD : magicD bs (bytesOf s) 0 = D) (w : World) (h : ES y A cap bs (.ok () 0) w) (hs : s.size ≤ 8) :
    Calls Tryz.prog 43 #[.pointer (some ⟨y, 0, none⟩), .string s] w fun r w' => ∃ st', r = .returned (.tuple #[]) ∧ At st' D (fun a => .ok () a) ∧ ES y A cap bs st' w' ∧ Mv y w w' := by
  have H := Aside0.mk h
  have HD := Aside0.mk hD
  have hyl := h.ylt
  clear h hD
  go_enter Tryz.func43, Tryz.ntmps43
  go_wp2
  go_loopw [4] (fun i wr => ∃ (k : Nat) (st : Rdd Unit), k ≤ s.size ∧ i = .int .i64 k ∧ Aside0 (ES y A cap bs st wr ∧ Mv y w wr) ∧ Aside0 (At st D (fun a => magicD bs ((bytesOf s).drop k) a))) (fun i _ => s.size - (intOf i).toNat)
  case atStart => exact ⟨0, .ok () 0, Nat.zero_le _, rfl, ⟨H.out, Mv.refl _ _⟩, ⟨by rw [List.drop_zero]; exact HD.out.symm⟩⟩
  case round =>
    obtain ⟨k, st, hk, rfl, hR, hA⟩ := hrel
    obtain ⟨t, _, _, c0, c1, c2, c3, f⟩ := hR.out.1.at
    have hne := hR.out.1.ne0
    by_cases hlt : k < s.size
    · rcases st with ⟨⟨⟩, a⟩ | ⟨e, p⟩
      · dsimp only [eOf, pOf] at c2 c3
        have hcs : (bytesOf s)[k]? = some ((s[k]'hlt).toNat : Int) := by
          rw [List.getElem?_eq_getElem (by rw [bytesOf_length]; exact hlt)]
          simp [bytesOf]
          rfl
        have HA : Aside0 (At (.ok () a) D (fun a => (numD bs a 1 ((s[k]'hlt).toNat : Int) ((s[k]'hlt).toNat : Int)).bind fun _ a1 => magicD bs ((bytesOf s).drop (k + 1)) a1)) := ⟨by
          refine at_mono hA.out fun a _ => ?_
          obtain ⟨hk2, hv⟩ := List.getElem?_eq_some_iff.1 hcs
          rw [List.drop_eq_getElem_cons hk2, hv]
          rfl⟩
        have HN := Aside0.mk fun (w' : World) (hb : Below wr.heap.size wr w') => num44 y A cap bs (.ok () a) 1 ((s[k]'hlt).toNat : Int) ((s[k]'hlt).toNat : Int) w' (hR.out.1.below hb) (by omega)
        have MM := Aside0.mk fun (w' : World) (hm : Mv y (wr.drew) w') => (hR.out.2.trans ((Mv.of_below (below_drew1 (Below.refl _ wr)) (Nat.le_of_lt hR.out.1.ylt)).trans hm))
        have hcb : ((s[k]'hlt).toNat : Int) < 256 := by have := (s[k]'hlt).toNat_lt; omega
        have hc0 : 0 ≤ ((s[k]'hlt).toNat : Int) := by omega
        clear hcs hA
        go_wp2_with fail
        have hwr : IntKind.i64.wrap ((s[k]'hlt).toNat : Int) = ((s[k]'hlt).toNat : Int) := by rw [IntKind.wrap_i64]; omega
        go_still_tail 9, (by kernel_rfl)
        change wpList _ _ _ _ _ wr.drew
        go_wp2_with (go_at_call 44; refine (HN.out _ (below_drew1 (Below.refl _ _))).mono ?_)
        rintro e w5 ⟨v, st', rfl, g1, _, k5, k6⟩
        have K5 := Aside0.mk k5
        have K6 := Aside0.mk (MM.out _ k6)
        have G1 := Aside0.mk (at_step HA.out g1)
        clear g1 k5 k6
        go_wp2
        go_roundw
        case rel => exact ⟨k + 1, st', by omega, by go_num, ⟨K5.out, K6.out⟩, G1⟩
        case measure => simp [intOf]; omega
      · dsimp only [eOf, pOf] at c2 c3
        obtain ⟨z1, z2⟩ := bf (hne e p rfl)
        have hend : Aside0 (D = .bad e p) := ⟨hA.out⟩
        go_wp2
        go_end0
        exact ⟨.bad e p, rfl, hend.out, hR.out.1, hR.out.2⟩
    · obtain rfl : k = s.size := by omega
      have hend : Aside0 (At st D (fun a => .ok () a)) := ⟨at_mono hA.out fun a _ => by rw [List.drop_of_length_le (by rw [bytesOf_length]; exact Nat.le_refl _)]; rfl⟩
      go_wp2
      go_end0
      exact ⟨st, rfl, hend.out, hR.out.1, hR.out.2⟩
theorem add_add (p : Addr) (i j : Nat) : (p.add i).add j = p.add (i + j) := by
  unfold Addr.add
  by_cases hi : i = 0
  · by_cases hj : j = 0 <;> simp [hi, hj]
  · by_cases hj : j = 0
    · simp [hi, hj]
    · simp [hi, hj, Nat.add_assoc]
theorem step_append_nil {P : Program} {ops : Array Oper} {o : Oper} {a : Act} {w : World} {K : Act → World → Prop} {Q : Exit → Act → World → Prop} {E : Prop} (hgd : o.guard = none) (s x : Operand) (t : TypeId)
    (ho : o.op = .call { callee := .builtin .append, args := #[s, x], argTypes := #[t, t] })
    (base : Nat) (e : TypeId) (i : TypeInfo) (size : Nat) (ht : P.underlying t = some (.slice e)) (hi : P.info? e = some i)
    (v : Value) (n : Nat) (xs : List Value) (hs : a.eval s = v) (hown : w.ownsRow base e size v n xs) (hx : a.eval x = .slice none 0 0)
    (h : K (a.put o.dst v) w) : if Region.wanted o (yielded ops a.tmps) = true then Oper.wp P o a w K Q else E := by
  have hw : Region.wanted o (yielded ops a.tmps) = true := by simp [Region.wanted, hgd]
  rw [if_pos hw]
  have hrun := run_append_owned_none (P := P) (w := w) base t o.type e i size ht hi v n xs hown
  unfold Oper.wp
  simp [execOp, ho, resolve, invoke, builtin, hs, hx, hrun, Result.andThen]
  exact h
set_option maxHeartbeats 8000000 in
set_option maxRecDepth 100000 in
theorem bytes93 (y : Nat) (A : Option Addr) (cap : Nat) (bs : List Int) (st : Rdd Unit) (n : Nat) (w : World) (h : ES y A cap bs st w) (hn : n ≤ 64) :
    Calls Tryz.prog 93 #[.pointer (some ⟨y, 0, none⟩), .int .i64 n] w fun r w' => ∃ (v : Value) (l : List Int) (st' : Rdd Unit), r = .returned v ∧ Agree (fun a => takeD bs a n) st l st' ∧ Ob w' w.heap.size v l ∧ ES y A cap bs st' w' ∧ Mv y w w' := by
  obtain ⟨t, htl, hta, c0, c1, c2, c3, f⟩ := h.at
  have H := Aside0.mk h
  have hne := h.ne0
  have hcap := h.cap
  have hlim := h.lim
  have hyl := h.ylt
  have hnl := h.nl
  have HRW := Aside0.mk h.row
  clear h
  rcases st with ⟨⟨⟩, a⟩ | ⟨e', p'⟩
  rotate_left
  · dsimp only [eOf, pOf] at c2 c3
    obtain ⟨z1, z2⟩ := bf (hne e' p' rfl)
    clear hta HRW
    go_enter Tryz.func93, Tryz.ntmps93
    go_wp2_with fail
    go_quiet (fail)
    obtain ⟨nq0, rfl⟩ : ∃ k, k = nq := ⟨_, rfl⟩
    have R0 := Aside0.mk (H.out.drewN nq0)
    go_wp2
    go_ret
    exact ⟨_, [], .bad e' p', rfl, rfl, own_nil _ _ 5 1, R0.out.1, R0.out.2⟩
  dsimp only [eOf, pOf] at c2 c3
  obtain rfl := hta a rfl
  clear hta hne
  by_cases hcut : bs.length < t + n
  · have hAg : Aside0 (Agree (fun a => takeD bs a n) (.ok () t) ([] : List Int) (.bad 182 bs.length)) := ⟨by simp only [Agree, takeD, if_pos hcut]⟩
    have HF := Aside0.mk fun w' h' => fail47 y A cap bs (.ok () t) 182 bs.length w' h' (by decide)
    have z : decide ((bs.length : Int) - (t : Int) < (n : Int)) = true := decide_eq_true (by omega)
    clear HRW
    go_enter Tryz.func93, Tryz.ntmps93
    go_wp2_with fail
    go_quiet (fail)
    obtain ⟨nq0, rfl⟩ : ∃ k, k = nq := ⟨_, rfl⟩
    have R0 := Aside0.mk (H.out.drewN nq0)
    go_wp2_with (go_at_call 47; refine (HF.out _ R0.out.1).mono ?_)
    first | rintro e w1 rfl k1 k2 | rintro e w1 ⟨rfl, k1, k2⟩
    obtain ⟨t', _, _, d0, d1, d2, d3, df⟩ := k1.at
    dsimp only [eOf, pOf, failS] at d2 d3
    have K1 := Aside0.mk k1
    have M1 := Aside0.mk (R0.out.2.trans k2)
    clear k1 k2
    go_wp2
    go_ret
    exact ⟨_, [], .bad 182 bs.length, rfl, hAg.out, own_nil _ _ 5 1, K1.out, M1.out⟩
  have hAg : Aside0 (Agree (fun a => takeD bs a n) (.ok () t) ((bs.drop t).take n) (.ok () (t + n))) := ⟨by simp only [Agree, takeD, if_neg hcut, and_self]⟩
  have z : decide ((bs.length : Int) - (t : Int) < (n : Int)) = false := decide_eq_false (by omega)
  have hlen : ((bs.drop t).take n).length = n := by rw [List.length_take, List.length_drop]; omega
  obtain ⟨i0, hi, hz0, hz1, hz2⟩ := info_parts infoB
  have hwt : IntKind.i64.wrap (t : Int) = t := by rw [IntKind.wrap_i64]; omega
  have htc : t ≤ cap := by omega
  have HE : Aside0 (∀ m, ((w.drewN m).alloc (.cells #[] 5)).cell? ⟨y, 0, none⟩ = some (.slice A bs.length cap) ∧ ((w.drewN m).alloc (.cells #[] 5)).cell? ⟨y, 1, none⟩ = some (.int .i64 t)) := ⟨fun m => ⟨pw_cell_below (below_alloc (pw_below_drewN (Below.refl _ w) m) _) c0, pw_cell_below (below_alloc (pw_below_drewN (Below.refl _ w) m) _) c1⟩⟩
  have HO : Aside0 (∀ m, ((w.drewN m).alloc (.cells #[] 5)).ownsRow w.heap.size 5 1 (.slice (some ⟨w.heap.size, 0, none⟩) 0 0) 0 []) := ⟨fun m => by
    have := World.ownsRow_lit (base := w.heap.size) (e := 5) (size := 1) (w.drewN m) #[] 0 (by simp) (by simp) (by simp)
    simpa using this⟩
  by_cases hn0 : n = 0
  · subst hn0
    rw [Nat.add_zero, List.take_zero] at hAg
    rcases A with _ | q
    · obtain rfl : cap = 0 := hnl rfl
      obtain rfl : t = 0 := by omega
      have KP : Aside0 (∀ W W1, (Below w.heap.size w W ∧ W.cell? ⟨y, 0, none⟩ = some (.slice none bs.length 0) ∧ W.cell? ⟨y, 1, none⟩ = some (.int .i64 0)) → Below W.heap.size W W1 → (Below w.heap.size w W1 ∧ W1.cell? ⟨y, 0, none⟩ = some (.slice none bs.length 0) ∧ W1.cell? ⟨y, 1, none⟩ = some (.int .i64 0))) := ⟨fun W W1 h1 h2 => ⟨below_then h1.1 h1.1.size h2, pw_cell_below h2 h1.2.1, pw_cell_below h2 h1.2.2⟩⟩
      clear HRW
      go_enter Tryz.func93, Tryz.ntmps93
      go_wp2_with fail
      go_quiet (fail)
      obtain ⟨nq1, rfl⟩ : ∃ k, k = nq := ⟨_, rfl⟩
      have hb5 := below_alloc (pw_below_drewN (Below.refl _ w) (nq1 + 1)) (.cells #[] 5)
      have OB := Aside0.mk (HO.out (nq1 + 1))
      have HK5 := Aside0.mk (H.out.below hb5)
      have HB5 := Aside0.mk hb5
      obtain ⟨t', _, hta', d0, d1, d2, d3, df⟩ := HK5.out.at
      have hta' := (hta' _ rfl)
      clear hb5
      go_wp2_with fail
      go_region_held_law (fun W => Below w.heap.size w W ∧ W.cell? ⟨y, 0, none⟩ = some (.slice none bs.length 0) ∧ W.cell? ⟨y, 1, none⟩ = some (.int .i64 0)) (first | assumption | exact ⟨pw_below_drewN (Below.refl _ w) (nq1 + 1), pw_cell_below (pw_below_drewN (Below.refl _ w) (nq1 + 1)) c0, pw_cell_below (pw_below_drewN (Below.refl _ w) (nq1 + 1)) c1⟩ | exact KP.out _ _ (by assumption) (below_alloc (Below.refl _ _) _)) (first | (refine step_append_nil (by rfl) _ _ _ (by rfl) w.heap.size 5 i0 1 Tryz.underlying30 hi (.slice (some ⟨w.heap.size, 0, none⟩) 0 0) 0 [] (by rfl) (HO.out (nq1 + 1)) (by rfl) ?_))
      all_goals
        have HG := Aside0.mk (HK5.out.go 0 (by omega))
        have hob := ownsRow_setCell_below OB.out (a := ⟨y, 1, none⟩) hyl (.int .i64 (0 : Nat))
        have HOB := Aside0.mk hob
        clear hob
        go_wp2
        go_ret
        exact ⟨_, [], .ok () 0, rfl, hAg.out, HOB.out, HG.out.1, (Mv.of_below HB5.out (Nat.le_of_lt hyl)).trans HG.out.2⟩
    by_cases hct : cap = t
    · subst hct
      have KP : Aside0 (∀ W W1, (Below w.heap.size w W ∧ W.cell? ⟨y, 0, none⟩ = some (.slice (some q) bs.length cap) ∧ W.cell? ⟨y, 1, none⟩ = some (.int .i64 cap)) → Below W.heap.size W W1 → (Below w.heap.size w W1 ∧ W1.cell? ⟨y, 0, none⟩ = some (.slice (some q) bs.length cap) ∧ W1.cell? ⟨y, 1, none⟩ = some (.int .i64 cap))) := ⟨fun W W1 h1 h2 => ⟨below_then h1.1 h1.1.size h2, pw_cell_below h2 h1.2.1, pw_cell_below h2 h1.2.2⟩⟩
      clear HRW
      go_enter Tryz.func93, Tryz.ntmps93
      go_wp2_with fail
      go_quiet (fail)
      obtain ⟨nq1, rfl⟩ : ∃ k, k = nq := ⟨_, rfl⟩
      have hb5 := below_alloc (pw_below_drewN (Below.refl _ w) (nq1 + 1)) (.cells #[] 5)
      have OB := Aside0.mk (HO.out (nq1 + 1))
      have HK5 := Aside0.mk (H.out.below hb5)
      have HB5 := Aside0.mk hb5
      obtain ⟨t', _, hta', d0, d1, d2, d3, df⟩ := HK5.out.at
      have hta' := (hta' _ rfl)
      clear hb5
      go_wp2_with fail
      go_region_held_law (fun W => Below w.heap.size w W ∧ W.cell? ⟨y, 0, none⟩ = some (.slice (some q) bs.length cap) ∧ W.cell? ⟨y, 1, none⟩ = some (.int .i64 cap)) (first | assumption | exact ⟨pw_below_drewN (Below.refl _ w) (nq1 + 1), pw_cell_below (pw_below_drewN (Below.refl _ w) (nq1 + 1)) c0, pw_cell_below (pw_below_drewN (Below.refl _ w) (nq1 + 1)) c1⟩ | exact KP.out _ _ (by assumption) (below_alloc (Below.refl _ _) _)) (first | (refine step_append_room (by rfl) _ _ _ (by rfl) 5 i0 1 Tryz.underlying30 hi rfl w.heap.size 0 0 0 (by rfl) q 0 0 [] (by rfl) (by rfl) (fun j u h => by cases h) (by simp) (by omega) (fun j hj => absurd hj (by simp)) ?_; simp only [World.setCells, Nat.add_zero]))
      all_goals
        have HG := Aside0.mk (HK5.out.go cap (by omega))
        have hob := ownsRow_setCell_below OB.out (a := ⟨y, 1, none⟩) hyl (.int .i64 (cap : Nat))
        have HOB := Aside0.mk hob
        clear hob
        go_wp2
        go_ret
        exact ⟨_, [], .ok () cap, rfl, hAg.out, HOB.out, HG.out.1, (Mv.of_below HB5.out (Nat.le_of_lt hyl)).trans HG.out.2⟩
    · skip
      have KP : Aside0 (∀ W W1, (Below w.heap.size w W ∧ W.cell? ⟨y, 0, none⟩ = some (.slice (some q) bs.length cap) ∧ W.cell? ⟨y, 1, none⟩ = some (.int .i64 t)) → Below W.heap.size W W1 → (Below w.heap.size w W1 ∧ W1.cell? ⟨y, 0, none⟩ = some (.slice (some q) bs.length cap) ∧ W1.cell? ⟨y, 1, none⟩ = some (.int .i64 t))) := ⟨fun W W1 h1 h2 => ⟨below_then h1.1 h1.1.size h2, pw_cell_below h2 h1.2.1, pw_cell_below h2 h1.2.2⟩⟩
      clear HRW
      go_enter Tryz.func93, Tryz.ntmps93
      go_wp2_with fail
      go_quiet (fail)
      obtain ⟨nq1, rfl⟩ : ∃ k, k = nq := ⟨_, rfl⟩
      have hb5 := below_alloc (pw_below_drewN (Below.refl _ w) (nq1 + 1)) (.cells #[] 5)
      have OB := Aside0.mk (HO.out (nq1 + 1))
      have HK5 := Aside0.mk (H.out.below hb5)
      have HB5 := Aside0.mk hb5
      obtain ⟨t', _, hta', d0, d1, d2, d3, df⟩ := HK5.out.at
      have hta' := (hta' _ rfl)
      clear hb5
      go_wp2_with fail
      go_region_held_law (fun W => Below w.heap.size w W ∧ W.cell? ⟨y, 0, none⟩ = some (.slice (some q) bs.length cap) ∧ W.cell? ⟨y, 1, none⟩ = some (.int .i64 t)) (first | assumption | exact ⟨pw_below_drewN (Below.refl _ w) (nq1 + 1), pw_cell_below (pw_below_drewN (Below.refl _ w) (nq1 + 1)) c0, pw_cell_below (pw_below_drewN (Below.refl _ w) (nq1 + 1)) c1⟩ | exact KP.out _ _ (by assumption) (below_alloc (Below.refl _ _) _)) (first | (refine step_append_room (by rfl) _ _ _ (by rfl) 5 i0 1 Tryz.underlying30 hi rfl w.heap.size 0 0 0 (by rfl) (q.add t) 0 (cap - t) [] (by rfl) (by rfl) (fun j u h => by cases h) (by simp) (by omega) (fun j hj => absurd hj (by simp)) ?_; simp only [World.setCells, Nat.add_zero]))
      all_goals
        have HG := Aside0.mk (HK5.out.go t (by omega))
        have hob := ownsRow_setCell_below OB.out (a := ⟨y, 1, none⟩) hyl (.int .i64 (t : Nat))
        have HOB := Aside0.mk hob
        clear hob
        go_wp2
        go_ret
        exact ⟨_, [], .ok () t, rfl, hAg.out, HOB.out, HG.out.1, (Mv.of_below HB5.out (Nat.le_of_lt hyl)).trans HG.out.2⟩
  obtain ⟨q, rfl⟩ : ∃ q, A = some q := by
    obtain ⟨q, h, _⟩ := HRW.out t bs[t] (List.getElem?_eq_getElem (by omega))
    exact ⟨q, h⟩
  have hct : ¬ cap = t := by omega
  obtain ⟨L, hL⟩ : ∃ L, L = (bs.drop t).take n := ⟨_, rfl⟩
  rw [← hL] at hAg hlen
  obtain ⟨i1, hi1⟩ : ∃ i1, i1 = t + n := ⟨_, rfl⟩
  have hs1 : (t : Int) + (n : Int) = (i1 : Int) := by omega
  have hi2 : i1 ≤ bs.length := by omega
  have hi3 : t ≤ i1 := by omega
  have hi4 : i1 - t = n := by omega
  have hi5 : i1 ≤ cap := by omega
  have hw1 : IntKind.i64.wrap (i1 : Int) = i1 := by rw [IntKind.wrap_i64]; omega
  have HCL : Aside0 (∀ m j u, (nums .u8 L)[j]? = some u → ((w.drewN m).alloc (.cells #[] 5)).cell? ((q.add t).add j) = some u) := ⟨fun m j u hj => by
    unfold nums at hj
    rw [List.getElem?_map] at hj
    obtain ⟨x, hx, rfl⟩ := Option.map_eq_some_iff.1 hj
    have hjn : j < n := by have := (List.getElem?_eq_some_iff.1 hx).1; omega
    rw [hL, List.getElem?_take_of_lt hjn, List.getElem?_drop] at hx
    obtain ⟨q', hq, _, hc⟩ := HRW.out (t + j) x hx
    cases hq
    rw [add_add]
    exact pw_cell_below (below_alloc (pw_below_drewN (Below.refl _ w) m) _) hc⟩
  have HI1 := Aside0.mk hi1
  have HL := Aside0.mk hL
  clear HRW hi1 hL
  go_enter Tryz.func93, Tryz.ntmps93
  go_wp2_with fail
  go_quiet (fail)
  obtain ⟨nq1, rfl⟩ : ∃ k, k = nq := ⟨_, rfl⟩
  go_wp2_with fail
  have KP : Aside0 (∀ W W1, (Below w.heap.size w W ∧ W.cell? ⟨y, 0, none⟩ = some (.slice (some q) bs.length cap) ∧ W.cell? ⟨y, 1, none⟩ = some (.int .i64 t)) → Below W.heap.size W W1 → (Below w.heap.size w W1 ∧ W1.cell? ⟨y, 0, none⟩ = some (.slice (some q) bs.length cap) ∧ W1.cell? ⟨y, 1, none⟩ = some (.int .i64 t))) := ⟨fun W W1 h1 h2 => ⟨below_then h1.1 h1.1.size h2, pw_cell_below h2 h1.2.1, pw_cell_below h2 h1.2.2⟩⟩
  go_region_held_law (fun W => Below w.heap.size w W ∧ W.cell? ⟨y, 0, none⟩ = some (.slice (some q) bs.length cap) ∧ W.cell? ⟨y, 1, none⟩ = some (.int .i64 t)) (first | assumption | exact ⟨pw_below_drewN (Below.refl _ w) (nq1 + 1), pw_cell_below (pw_below_drewN (Below.refl _ w) (nq1 + 1)) c0, pw_cell_below (pw_below_drewN (Below.refl _ w) (nq1 + 1)) c1⟩ | exact KP.out _ _ (by assumption) (below_alloc (Below.refl _ _) _) | exact KP.out _ _ (by assumption) (by assumption)) (first | (refine step_append_lies _ (by rfl) _ _ _ (by rfl) w.heap.size 5 i0 _ 1 1 Tryz.underlying30 hi hz0 hz1 hz2 rfl (by omega) (.slice (some ⟨w.heap.size, 0, none⟩) 0 0) 0 [] (by rfl) (HO.out (nq1 + 1)) (q.add t) n (cap - t) (nums .u8 L) (by rfl) (by rw [nums_length]; omega) (HCL.out (nq1 + 1)) (one_nums L) (by omega) (by unfold maxLen; omega) (by omega) (by simp) (w.heap.size + 1) (by simp) ?_; intro g5 cap5 w5 ho5 hg5 _ _; have hb5 : Below w.heap.size w w5 := (below_alloc (pw_below_drewN (Below.refl _ w) (nq1 + 1)) (.cells #[] 5)).grown hg5 (by simp) (fun k hk => own_base (HO.out (nq1 + 1)) k hk); have OB := Aside0.mk ho5; have K5 := H.out.below hb5; obtain ⟨t', _, hta', d0, d1, d2, d3, df⟩ := K5.at; obtain rfl := (hta' _ rfl).symm; have HK5 := Aside0.mk K5; have HB5 := Aside0.mk hb5; have hS5 := (⟨hb5, d0, d1⟩ : Below w.heap.size w w5 ∧ w5.cell? ⟨y, 0, none⟩ = some (.slice (some q) bs.length cap) ∧ w5.cell? ⟨y, 1, none⟩ = some (.int .i64 t)); clear ho5 hg5 K5 hta'))
  all_goals
    have HG := Aside0.mk (HK5.out.go i1 hi2)
    have hob := ownsRow_setCell_below OB.out (a := ⟨y, 1, none⟩) hyl (.int .i64 i1)
    rw [Nat.zero_add, List.nil_append] at hob
    have HOB : Aside0 (Ob (w5.setCell ⟨y, 1, none⟩ (.int .i64 i1)) w.heap.size (.slice (some ⟨g5, 0, none⟩) n cap5) L) := ⟨by unfold Ob; rw [hlen]; exact hob⟩
    clear hob
    go_wp2
    go_ret
    exact ⟨_, L, .ok () i1, rfl, by rw [HI1.out]; exact hAg.out, HOB.out, HG.out.1, (Mv.of_below HB5.out (Nat.le_of_lt hyl)).trans HG.out.2⟩
theorem obC {w : World} {B : Nat} {a : Option Addr} {n c : Nat} {bs : List Int} (h : Ob w B (.slice a n c) bs) : n = bs.length ∧ n ≤ c ∧ (Kd.int .u8).C w a bs.length bs := by
  have toR : ∀ {v : Value}, Ob w B v bs → (Kd.int .u8).R 5 w B (fun _ => True) v bs := fun {v} h => by
    refine ⟨fun _ _ => trivial, nums .u8 bs, h, by rw [nums_length]; show _ = _ * 1; omega, fun j x hj => ?_⟩
    obtain ⟨hjl, rfl⟩ := List.getElem?_eq_some_iff.1 hj
    show ((nums .u8 bs).drop (j * 1)).take 1 = [.int .u8 bs[j]]
    rw [Nat.mul_one, List.drop_eq_getElem_cons (by rw [nums_length]; exact hjl)]
    simp [nums]
  obtain ⟨A, c', e, hr⟩ := own_reads h
  injection e with e1 e2 e3
  subst e1
  subst e3
  have h' : Ob w B (.slice a bs.length c) bs := by rw [← e2]; exact h
  exact ⟨e2, by rw [e2]; exact (Kd.R_reads' (toR h')).2.1, (Kd.R_reads' (toR h')).2.2⟩
set_option maxHeartbeats 8000000 in
set_option maxRecDepth 100000 in
theorem name45 (y : Nat) (A : Option Addr) (cap : Nat) (bs : List Int) (st : Rdd Unit) (w : World) (h : ES y A cap bs st w) :
    Calls Tryz.prog 45 #[.pointer (some ⟨y, 0, none⟩)] w fun r w' => ∃ (s : ByteArray) (st' : Rdd Unit), r = .returned (.string s) ∧ Agree (nameD bs) st s st' ∧ ES y A cap bs st' w' ∧ Mv y w w' := by
  have HN := Aside0.mk (num44 y A cap bs st 1 0 64 w h (by omega))
  clear h
  go_enter Tryz.func45, Tryz.ntmps45
  go_wp2_with (go_at_call 44; refine HN.out.mono ?_)
  rintro e w1 ⟨v, st1, rfl, g1, hv, k1, k2⟩
  obtain ⟨n, rfl⟩ : ∃ n : Nat, v = n := ⟨v.toNat, by omega⟩
  have HB := Aside0.mk (bytes93 y A cap bs st1 n w1 k1 (by omega))
  have G1 := Aside0.mk g1
  have M1 := Aside0.mk k2
  clear k1 k2 g1 HN
  go_wp2_with (go_at_call 93; refine HB.out.mono ?_)
  rintro e w2 ⟨v, l, st2, rfl, g2, ho, k1, k2⟩
  obtain ⟨a, c, rfl⟩ := own_slice ho
  obtain ⟨_, hc1, hc2⟩ := obC ho
  have HC : (convert 30 9 (.slice a l.length c)).run Tryz.prog w2 = .ok (.string (strOfNums l)) w2 := Kd.C_string Tryz.underlying30 Tryz.underlying5 Tryz.underlying9 (c := c) hc2
  have g3 : Agree (fun a1 => (takeD bs a1 n).bind fun l a2 => .ok (strOfNums l) a2) st1 (strOfNums l) st2 := agree_bind (F := fun l a2 => .ok (strOfNums l) a2) g2 (agree_ok strOfNums l)
  have g4 : Agree (fun a => (numD bs a 1 0 64).bind fun n a1 => (takeD bs a1 n.toNat).bind fun l a2 => .ok (strOfNums l) a2) st (strOfNums l) st2 := agree_bind (F := fun (n : Int) a1 => (takeD bs a1 n.toNat).bind fun l a2 => Rdd.ok (strOfNums l) a2) (x := (n : Int)) G1.out g3
  have G2 : Aside0 (Agree (nameD bs) st (strOfNums l) st2) := ⟨g4⟩
  clear g3 g4
  have K1 := Aside0.mk k1
  have M2 := Aside0.mk (M1.out.trans k2)
  clear k1 k2 g2 ho hc1 hc2
  go_wp2
  go_ret
  exact ⟨_, st2, rfl, G2.out, K1.out, M2.out⟩
end Go.Proofs.YtpnkifincadakaaGreatDoor.Wr
end
