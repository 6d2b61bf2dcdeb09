/- Proved: part 21 of the proof of PackRound (Pl6, Ps2, Al). Conditions: each theorem states its own. -/
import Derived.Test.YtpnkifincadakaaGreatDoorR15
import Derived.Test.YtpnkifincadakaaGreatDoorR18
import Derived.Test.YtpnkifincadakaaGreatDoorR20
set_option linter.unusedVariables false
set_option linter.unusedSimpArgs false
section
namespace Go.Pk
open Go.RowKit Go.Proofs.YtpnkifincadakaaGreatDoorW.PrintWords Go.Proofs.YtpnkifincadakaaGreatDoor.PPackSpecs Go.Proofs.YtpnkifincadakaaGreatDoor.Wr
theorem mx_eq (a b : Int) : mx a b = max a b := by unfold mx; omega
theorem count_any (n : Nat) : ∀ (e : S40) (deep so : Int), sizeE e ≤ n → 0 ≤ so → so ≤ 4999 → 0 ≤ deep → deep ≤ 100 →
    ∃ m d : Int, Ev (fun k => graftlaw18_count.f k e.f0 e.f1 e.f2 e.f3 e.f4 e.f5 deep so) (m, d) ∧ so + 1 ≤ m ∧ m ≤ 5000 ∧ deep ≤ d ∧ (m ≤ 4500 → d ≤ 90 → m = so + sizeE e) := by
  induction n with
  | zero => intro e deep so h; have := sizeE_pos e; omega
  | succ n ih =>
    intro e deep so hn h0 h1 h2 h3
    have hE := sizeE_eq e
    have hL : ∀ (dd i : Nat) (so most : Int), e.f5.length - i = dd → i ≤ e.f5.length → (i : Int) ≤ so → so ≤ 5000 → deep ≤ most →
        ∃ m d : Int, Ev (fun k => graftlaw18_count.l0 k deep so most i e.f0 e.f1 e.f2 e.f3 e.f4 e.f5) (m, d) ∧ so ≤ m ∧ m ≤ 5000 ∧ most ≤ d ∧ (m ≤ 4500 → d ≤ 90 → m = so + sizeL (e.f5.drop i)) := by
      intro dd
      induction dd with
      | zero =>
        intro i so most hd hi his hs hm
        obtain rfl : i = e.f5.length := by omega
        refine ⟨so, most, ⟨1, fun k hk => ?_⟩, by omega, by omega, by omega, fun _ _ => by rw [List.drop_length]; simp [sizeL]⟩
        obtain ⟨k, rfl⟩ : ∃ m, k = m + 1 := ⟨k - 1, by omega⟩
        simp only [graftlaw18_count.l0]
        rw [if_neg (by omega)]
      | succ dd ihd =>
        intro i so most hd hi his hs hm
        have hlt : i < e.f5.length := by omega
        have hms := mem_size _ _ (List.getElem_mem hlt)
        by_cases g1 : so < 5000
        · by_cases g2 : deep < 100
          · obtain ⟨m1, d1, hev, a1, a2, a3, a4⟩ := ih e.f5[i] (deep + 1) so (by omega) (by omega) (by omega) (by omega) (by omega)
            obtain ⟨m2, d2, hev2, c1, c2, c3, c4⟩ := ihd (i + 1) m1 (max most d1) (by omega) (by omega) (by omega) (by omega) (by omega)
            obtain ⟨K1, hK1⟩ := hev; dsimp only at hK1
            obtain ⟨K2, hK2⟩ := hev2; dsimp only at hK2
            refine ⟨m2, d2, ⟨K1 + K2 + 1, fun k hk => ?_⟩, by omega, by omega, by omega, fun x1 x2 => ?_⟩
            · obtain ⟨k, rfl⟩ : ∃ m, k = m + 1 := ⟨k - 1, by omega⟩
              simp only [graftlaw18_count.l0]
              rw [if_pos (by omega), if_pos g1, if_pos g2, if_pos (by omega), rd40 hlt, w64 (by omega) (by omega), hK1 k (by omega)]
              simp only [Option.bind_some]
              rw [mx_eq, w64 (by omega) (by omega), show ((i : Int) + 1) = ((i + 1 : Nat) : Int) by omega]
              exact hK2 k (by omega)
            · rw [sizeL_drop hlt, c4 x1 x2, a4 (by omega) (by omega)]
              omega
          · refine ⟨so, most, ⟨1, fun k hk => ?_⟩, by omega, by omega, by omega, fun _ _ => by omega⟩
            obtain ⟨k, rfl⟩ : ∃ m, k = m + 1 := ⟨k - 1, by omega⟩
            simp only [graftlaw18_count.l0]
            rw [if_pos (by omega), if_pos g1, if_neg g2]
        · refine ⟨so, most, ⟨1, fun k hk => ?_⟩, by omega, by omega, by omega, fun _ _ => by omega⟩
          obtain ⟨k, rfl⟩ : ∃ m, k = m + 1 := ⟨k - 1, by omega⟩
          simp only [graftlaw18_count.l0]
          rw [if_pos (by omega), if_neg g1]
    obtain ⟨m, d, hev, a1, a2, a3, a4⟩ := hL e.f5.length 0 (so + 1) deep (by omega) (by omega) (by omega) (by omega) (by omega)
    obtain ⟨K, hK⟩ := hev; dsimp only at hK
    refine ⟨m, d, ⟨K + 1, fun k hk => ?_⟩, by omega, by omega, by omega, fun x1 x2 => ?_⟩
    · obtain ⟨k, rfl⟩ : ∃ m, k = m + 1 := ⟨k - 1, by omega⟩
      simp only [graftlaw18_count.f]
      rw [w64 (by omega) (by omega)]
      exact hK k (by omega)
    · have := a4 x1 x2
      rw [List.drop_zero] at this
      omega
theorem small_any (e : S40) : ∃ b : Bool, Ev (fun k => graftlaw18_small.f k e.f0 e.f1 e.f2 e.f3 e.f4 e.f5) b ∧ (b = true → sizeE e ≤ 4500) := by
  obtain ⟨m, d, ⟨K, hK⟩, a1, a2, a3, a4⟩ := count_any (sizeE e) e 1 0 (Nat.le_refl _) (by omega) (by omega) (by omega) (by omega)
  dsimp only at hK
  by_cases h : m ≤ 4500
  · refine ⟨decide (d ≤ 90), ⟨K, fun k hk => ?_⟩, fun hd => ?_⟩
    · unfold graftlaw18_small.f
      dsimp only
      rw [hK k hk]
      simp only [Option.bind_some]
      rw [if_pos h]
    · have := a4 h (by simpa using hd)
      omega
  · refine ⟨false, ⟨K, fun k hk => ?_⟩, fun hd => by cases hd⟩
    unfold graftlaw18_small.f
    dsimp only
    rw [hK k hk]
    simp only [Option.bind_some]
    rw [if_neg h]
theorem s40_eta (e : S40) : (⟨e.f0, e.f1, e.f2, e.f3, e.f4, e.f5⟩ : S40) = e := by cases e; rfl
theorem copied_any (n : Nat) : ∀ (e : S40) (k : Nat), sizeE e ≤ n → 2 * sizeE e + 1 ≤ k → sizeE e ≤ 4500 → graftlaw18_copied.f k e.f0 e.f1 e.f2 e.f3 e.f4 e.f5 = some (e.f0, e.f1, e.f2, e.f3, e.f4, e.f5) := by
  induction n with
  | zero => intro e k h; have := sizeE_pos e; omega
  | succ n ih =>
    intro e k hn hk h0
    have hE := sizeE_eq e
    have hL : ∀ (d i k : Nat), e.f5.length - i = d → i ≤ e.f5.length → 2 * sizeL (e.f5.drop i) + 2 ≤ k → graftlaw18_copied.l0 k i e.f0 e.f1 e.f2 e.f3 e.f4 e.f5 e.f0 e.f1 e.f2 e.f3 e.f4 (e.f5.take i) = some (e.f0, e.f1, e.f2, e.f3, e.f4, e.f5) := by
      intro d
      induction d with
      | zero =>
        intro i k hd hi hk
        obtain ⟨k, rfl⟩ : ∃ m, k = m + 1 := ⟨k - 1, by omega⟩
        obtain rfl : i = e.f5.length := by omega
        simp only [graftlaw18_copied.l0]
        rw [if_neg (by omega), List.take_length]
      | succ d ihd =>
        intro i k hd hi hk
        have hlt : i < e.f5.length := by omega
        have hs := sizeL_drop hlt
        have hp := sizeE_pos e.f5[i]
        have hm := mem_size _ _ (List.getElem_mem hlt)
        have hlen := length_le_sizeL e.f5
        obtain ⟨k, rfl⟩ : ∃ m, k = m + 1 := ⟨k - 1, by omega⟩
        simp only [graftlaw18_copied.l0]
        rw [if_pos (by omega), if_pos (by omega), rd40 hlt, ih e.f5[i] k (by omega) (by omega) (by omega)]
        simp only [Option.bind_some]
        rw [if_pos (by rw [List.length_take]; omega), w64 (by omega) (by omega), show ((i : Int) + 1) = ((i + 1 : Nat) : Int) by omega, s40_eta, ← List.take_succ_eq_append_getElem hlt]
        exact ihd (i + 1) k (by omega) (by omega) (by omega)
    obtain ⟨k, rfl⟩ : ∃ m, k = m + 1 := ⟨k - 1, by omega⟩
    simp only [graftlaw18_copied.f]
    have := hL e.f5.length 0 k (by omega) (by omega) (by simp; omega)
    simpa using this
theorem same_any (l : List Int) (h : l.length ≤ 140737488355328) : ∃ k, graftlaw18_same.f k l l = some true := by
  have hL : ∀ (d i k : Nat), l.length - i = d → i ≤ l.length → d + 1 ≤ k → graftlaw18_same.l0 k l l i = some true := by
    intro d
    induction d with
    | zero =>
      intro i k hd hi hk
      obtain ⟨k, rfl⟩ : ∃ m, k = m + 1 := ⟨k - 1, by omega⟩
      simp only [graftlaw18_same.l0]
      rw [if_neg (by omega)]
    | succ d ihd =>
      intro i k hd hi hk
      obtain ⟨k, rfl⟩ : ∃ m, k = m + 1 := ⟨k - 1, by omega⟩
      simp only [graftlaw18_same.l0]
      rw [if_pos (by omega), if_pos (by omega), if_pos (by omega), if_pos trivial, w64 (by omega) (by omega), show ((i : Int) + 1) = ((i + 1 : Nat) : Int) by omega]
      exact ihd (i + 1) k (by omega) (by omega) (by omega)
  refine ⟨l.length + 1, ?_⟩
  unfold graftlaw18_same.f
  rw [if_pos rfl]
  exact hL l.length 0 _ (by omega) (by omega) (by omega)
theorem twin_any (lex : List S42) (names : List ByteArray) (start : Int) (prods : List S67) (h0 : lex.length ≤ 1599289640401) (h1 : names.length < 8796093022208) (h3 : prods.length ≤ 4398046511104) (h4 : ∀ p, p ∈ prods → p.f1.length < 8796093022208) :
    ∃ k, graftlaw18_twin.f k lex names start prods = some (lex, names, start, prods) := by
  have hP : ∀ (d i k : Nat), prods.length - i = d → i ≤ prods.length → d + 1 ≤ k → graftlaw18_twin.l1 k i lex names start prods lex names start (prods.take i) = some (lex, names, start, prods) := by
    intro d
    induction d with
    | zero =>
      intro i k hd hi hk
      obtain ⟨k, rfl⟩ : ∃ m, k = m + 1 := ⟨k - 1, by omega⟩
      obtain rfl : i = prods.length := by omega
      simp only [graftlaw18_twin.l1]
      rw [if_neg (by omega), List.take_length]
    | succ d ihd =>
      intro i k hd hi hk
      have hlt : i < prods.length := by omega
      have hr := h4 _ (List.getElem_mem hlt)
      obtain ⟨k, rfl⟩ : ∃ m, k = m + 1 := ⟨k - 1, by omega⟩
      simp only [graftlaw18_twin.l1]
      rw [if_pos (by omega), if_pos (by omega), rd67 hlt, if_pos (by simpa using hr), if_pos (by rw [List.length_take]; omega), i_succ _ (by omega), List.nil_append,
        show (⟨prods[i].f0, prods[i].f1⟩ : S67) = prods[i] from rfl, ← List.take_succ_eq_append_getElem hlt]
      exact ihd (i + 1) k (by omega) (by omega) (by omega)
  have hX : ∀ (d i : Nat), lex.length - i = d → i ≤ lex.length → Ev (fun k => graftlaw18_twin.l0 k i lex names start prods (lex.take i) start) (lex, names, start, prods) := by
    intro d
    induction d with
    | zero =>
      intro i hd hi
      obtain rfl : i = lex.length := by omega
      refine ⟨prods.length + 2, fun k hk => ?_⟩
      obtain ⟨k, rfl⟩ : ∃ m, k = m + 1 := ⟨k - 1, by omega⟩
      simp only [graftlaw18_twin.l0]
      rw [if_neg (by omega), if_pos (by simpa using h1), List.take_length, List.nil_append]
      have := hP prods.length 0 k (by omega) (by omega) (by omega)
      simpa using this
    | succ d ihd =>
      intro i hd hi
      have hlt : i < lex.length := by omega
      obtain ⟨b, ⟨K1, hK1⟩, hb⟩ := small_any lex[i].f2
      obtain ⟨K2, hK2⟩ := ihd (i + 1) (by omega) (by omega)
      dsimp only at hK1 hK2
      refine ⟨K1 + K2 + 2 * sizeE lex[i].f2 + 2, fun k hk => ?_⟩
      obtain ⟨k, rfl⟩ : ∃ m, k = m + 1 := ⟨k - 1, by omega⟩
      simp only [graftlaw18_twin.l0]
      rw [if_pos (by omega), if_pos (by omega), rd42 hlt, hK1 k (by omega)]
      simp only [Option.bind_some]
      have hre : (⟨lex[i].f0, lex[i].f1, (⟨lex[i].f2.f0, lex[i].f2.f1, lex[i].f2.f2, lex[i].f2.f3, lex[i].f2.f4, lex[i].f2.f5⟩ : S40)⟩ : S42) = lex[i] := by rw [s40_eta]
      cases b with
      | true =>
        rw [if_pos rfl, copied_any _ lex[i].f2 k (Nat.le_refl _) (by omega) (hb rfl)]
        simp only [Option.bind_some]
        rw [if_pos (by rw [List.length_take]; omega), i_succ _ (by omega), hre, ← List.take_succ_eq_append_getElem hlt]
        exact hK2 k (by omega)
      | false =>
        rw [if_neg (by simp), if_pos (by rw [List.length_take]; omega), i_succ _ (by omega), hre, ← List.take_succ_eq_append_getElem hlt]
        exact hK2 k (by omega)
  obtain ⟨K, hK⟩ := hX lex.length 0 (by omega) (by omega)
  refine ⟨K, ?_⟩
  unfold graftlaw18_twin.f
  have := hK K (Nat.le_refl _)
  simpa using this
end Go.Pk
end
section
namespace Go.Proofs.YtpnkifincadakaaGreatDoor.Wr
open Go.RowKit Go.Pk Go.Proofs.YtpnkifincadakaaGreatDoorW.PrintWords Go.Proofs.YtpnkifincadakaaGreatDoor.PPackSpecs
def cells42 (x : S42) (A : Option Addr) (c : Nat) : List Value := [.string x.f0, .bool x.f1, .int .i64 x.f2.f0, .int .i64 x.f2.f1, .int .i64 x.f2.f2, .int .i64 x.f2.f3, .int .i64 x.f2.f4, .slice A x.f2.f5.length c]
def Lx (w : World) (ok : Nat → Prop) (g : Nat) (xs : List S42) : Prop :=
  ∃ cells : Array Value, w.heap[g]? = some (.cells cells 42 (0, 0)) ∧ ∀ i (h : i < xs.length), ∃ A c, xs[i].f2.f5.length ≤ c ∧ Kd.F k40 w ok A xs[i].f2.f5.length xs[i].f2.f5 ∧ ∀ j u, (cells42 xs[i] A c)[j]? = some u → cells[i * 8 + j]? = some u
def Nm (w : World) (g : Nat) (xs : List ByteArray) : Prop :=
  ∃ cells : Array Value, w.heap[g]? = some (.cells cells 9 (0, 0)) ∧ ∀ i (h : i < xs.length), cells[i]? = some (.string xs[i])
theorem Nm.at {w : World} {g : Nat} {xs : List ByteArray} (h : Nm w g xs) (i : Nat) (hi : i < xs.length) : w.cell? ⟨g, i, none⟩ = some (.string xs[i]) := by
  obtain ⟨cells, hb, he⟩ := h
  exact (blk_cell hb _).trans (he i hi)
theorem Lx.toC {w : World} {ok : Nat → Prop} {g : Nat} {xs : List S42} (h : Lx w ok g xs) (hm : xs.length ≤ 9223372036854775807) : k42.C w (some ⟨g, 0, none⟩) xs.length xs := by
  obtain ⟨cells, hb, he⟩ := h
  refine ⟨rfl, hm, fun hp => ⟨⟨g, 0, none⟩, rfl, fun i p hi => ?_⟩⟩
  obtain ⟨hil, rfl⟩ := List.getElem?_eq_some_iff.1 hi
  obtain ⟨A, c, h1, h2, h3⟩ := he i hil
  refine ⟨cells42 xs[i] A c, rfl, k42_mk w xs[i] h1 (Kd.F_now h2), fun j u hu => ?_⟩
  rw [add_plain]
  exact (blk_cell hb _).trans (h3 j u hu)
theorem Nm.toC {w : World} {g : Nat} {xs : List ByteArray} (h : Nm w g xs) (hm : xs.length ≤ 9223372036854775807) : Kd.string.C w (some ⟨g, 0, none⟩) xs.length xs := by
  obtain ⟨cells, hb, he⟩ := h
  refine ⟨rfl, hm, fun hp => ⟨⟨g, 0, none⟩, rfl, fun i p hi => ?_⟩⟩
  obtain ⟨hil, rfl⟩ := List.getElem?_eq_some_iff.1 hi
  refine ⟨[.string xs[i]], rfl, rfl, fun j u hu => ?_⟩
  match j, hu with
  | 0, hu =>
    simp only [List.getElem?_cons_zero, Option.some.injEq] at hu
    subst hu
    rw [add_plain, show i * Kd.string.sz + 0 = i by show i * 1 + 0 = i; omega]
    exact (blk_cell hb _).trans (he i hil)
  | j + 1, hu => simp at hu
structure Tw (B : Nat) (ok : Nat → Prop) (lex : List S42) (names : List ByteArray) (prods : List S67) (A0 A1 A3 : Option Addr) (c0 c1 c3 : Nat) (w : World) : Prop where
  l0 : lex.length ≤ c0
  m0 : lex.length ≤ 9223372036854775807
  lx : 0 < lex.length → ∃ g, A0 = some ⟨g, 0, none⟩ ∧ B ≤ g ∧ ¬ ok g ∧ Lx w ok g lex
  l1 : names.length ≤ c1
  m1 : names.length ≤ 9223372036854775807
  nm : 0 < names.length → ∃ g, A1 = some ⟨g, 0, none⟩ ∧ B ≤ g ∧ ¬ ok g ∧ Nm w g names
  l3 : prods.length ≤ c3
  pr : Kd.F k67 w ok A3 prods.length prods
theorem C_zero {α : Type} (d : Kd α) (w : World) (A : Option Addr) : d.C w A ([] : List α).length [] := ⟨rfl, by simp, fun hp => absurd hp (by simp)⟩
theorem Tw.C0 {B : Nat} {ok : Nat → Prop} {lex : List S42} {names : List ByteArray} {prods : List S67} {A0 A1 A3 : Option Addr} {c0 c1 c3 : Nat} {w : World} (h : Tw B ok lex names prods A0 A1 A3 c0 c1 c3 w) : k42.C w A0 lex.length lex := by
  cases lex with
  | nil => exact C_zero _ _ _
  | cons x r =>
    obtain ⟨g, rfl, _, _, h3⟩ := h.lx (by simp)
    exact h3.toC h.m0
theorem Tw.C1 {B : Nat} {ok : Nat → Prop} {lex : List S42} {names : List ByteArray} {prods : List S67} {A0 A1 A3 : Option Addr} {c0 c1 c3 : Nat} {w : World} (h : Tw B ok lex names prods A0 A1 A3 c0 c1 c3 w) : Kd.string.C w A1 names.length names := by
  cases names with
  | nil => exact C_zero _ _ _
  | cons x r =>
    obtain ⟨g, rfl, _, _, h3⟩ := h.nm (by simp)
    exact h3.toC h.m1
theorem Tw.C3 {B : Nat} {ok : Nat → Prop} {lex : List S42} {names : List ByteArray} {prods : List S67} {A0 A1 A3 : Option Addr} {c0 c1 c3 : Nat} {w : World} (h : Tw B ok lex names prods A0 A1 A3 c0 c1 c3 w) : k67.C w A3 prods.length prods := Kd.F_now h.pr
theorem N_Lx {w : World} {base : Nat} {ok ok' : Nat → Prop} {g n cap : Nat} {xs : List S42} (h : Kd.N k42 42 w base ok (.slice (some ⟨g, 0, none⟩) n cap) xs) (hn : n = xs.length) (hok : ∀ k, ok k ∧ k ≠ g → ok' k) (hp : 0 < xs.length) : Lx w ok' g xs := by
  obtain ⟨cells, hb⟩ := Kd.N_typed h g rfl
  refine ⟨cells, hb, fun i hi => ?_⟩
  obtain ⟨c, hcl, hK, hcc, _⟩ := Kd.N_elem h z42 (i : Int) (by omega) (by omega)
  simp only [Int.toNat_natCast] at hK hcc
  rw [List.getD_eq_getElem?_getD, List.getElem?_eq_getElem hi] at hK
  obtain ⟨A7, c7, rfl, l7, g7⟩ := k42_openF hK
  refine ⟨A7, c7, l7, Kd.F_mono g7 hok, fun j u hj => ?_⟩
  rw [← blk_cell hb]
  exact hcc j u hj
theorem R_Nm {w : World} {base : Nat} {ok : Nat → Prop} {g n cap : Nat} {xs : List ByteArray} (h : Kd.string.R 9 w base ok (.slice (some ⟨g, 0, none⟩) n cap) xs) : Nm w g xs := by
  obtain ⟨cells, hb⟩ := Kd.R_typed h g rfl
  refine ⟨cells, hb, fun i hi => ?_⟩
  obtain ⟨hn, _, hC⟩ := Kd.R_reads' h
  obtain ⟨ad, c, e, hK, h0, _⟩ := C_at hC i hi
  injection e with e
  subst e
  obtain rfl : c = [.string xs[i]] := hK
  have := h0 _ rfl
  rw [add_plain, show i * Kd.string.sz = i by show i * 1 = i; omega] at this
  rw [← blk_cell hb]
  exact this
theorem twin7 (lex : List S42) (names : List ByteArray) (start : Int) (prods : List S67) (A0 A1 A3 : Option Addr) (c0 c1 c3 : Nat) (w : World)
    (h0 : k42.C w A0 lex.length lex) (h1 : Kd.string.C w A1 names.length names) (h3 : k67.C w A3 prods.length prods) (g0 : lex.length ≤ c0) (g1 : names.length ≤ c1) (g3 : prods.length ≤ c3)
    (b0 : lex.length ≤ 1599289640401) (b1 : names.length < 8796093022208) (b3 : prods.length ≤ 4398046511104) (b4 : ∀ p, p ∈ prods → p.f1.length < 8796093022208) :
    Calls Tryz.prog 7 #[.agg #[.slice A0 lex.length c0, .slice A1 names.length c1, .int .i64 start, .slice A3 prods.length c3]] w fun e w' => ∃ B0 B1 B3 d0 d1 d3 ok, e = .returned (.agg #[.slice B0 lex.length d0, .slice B1 names.length d1, .int .i64 start, .slice B3 prods.length d3]) ∧
      Tw w.heap.size ok lex names prods B0 B1 B3 d0 d1 d3 w' ∧ Below w.heap.size w w' := by
  obtain ⟨k, hk⟩ := twin_any lex names start prods b0 b1 b3 b4
  refine (graftlaw18_twin.calls k (fun k => k < w.heap.size) A0 c0 lex A1 c1 names start A3 c3 prods lex names start prods w (Kd.V_mk g0 (Kd.C_F k42_heap h0)) h1 g1 h3 g3 hk).mono ?_
  rintro e w' ⟨v0, v1, v3, rfl, hN0, hR1, hN3, hb⟩
  obtain ⟨B0, d0, rfl, l0, _⟩ := Kd.N_reads hN0
  obtain ⟨B1, d1, rfl, l1, _⟩ := Kd.R_reads hR1
  obtain ⟨B3, d3, rfl, l3, _⟩ := Kd.N_reads hN3
  refine ⟨B0, B1, B3, d0, d1, d3, fun k => some k ≠ (Value.slice B0 lex.length d0).ownBlock ∧ some k ≠ (Value.slice B1 names.length d1).ownBlock, rfl, ⟨l0, Kd.C_max h0, fun hp => ?_, l1, Kd.C_max h1, fun hp => ?_, l3, ?_⟩, hb⟩
  · obtain ⟨g, cap, e, hg, _, _⟩ := Kd.N_form hN0 hp
    injection e with e _ _
    subst e
    exact ⟨g, rfl, hg, fun h => h.1 rfl, N_Lx hN0 rfl (fun k hk => ⟨fun e => hk.2 (by simpa [Value.ownBlock] using e), hk.1.2.1⟩) hp⟩
  · obtain ⟨g, cap, e, hg, _, _⟩ := Kd.R_form hR1 hp
    injection e with e _ _
    subst e
    exact ⟨g, rfl, hg, fun h => h.2 rfl, R_Nm hR1⟩
  · exact Kd.F_mono (Kd.N_F hN3) fun k hk => hk.2
end Go.Proofs.YtpnkifincadakaaGreatDoor.Wr
end
section
namespace Go.Proofs.YtpnkifincadakaaGreatDoor.Wr
open Go.RowKit Go.Pk Go.Proofs.YtpnkifincadakaaGreatDoorW.PrintWords Go.Proofs.YtpnkifincadakaaGreatDoor.PPackSpecs
set_option maxHeartbeats 16000000 in
set_option maxRecDepth 100000 in
theorem alike_all (n : Nat) : ∀ (x : S40), sizeE x ≤ n → ∀ (A B : Option Addr) (c d : Nat) (w : World), k40.C w A x.f5.length x.f5 → k40.C w B x.f5.length x.f5 →
    Calls Tryz.prog 38 #[.agg #[.int .i64 x.f0, .int .i64 x.f1, .int .i64 x.f2, .int .i64 x.f3, .int .i64 x.f4, .slice A x.f5.length c], .agg #[.int .i64 x.f0, .int .i64 x.f1, .int .i64 x.f2, .int .i64 x.f3, .int .i64 x.f4, .slice B x.f5.length d]] w fun e w' => e = .returned (.bool true) ∧ Below w.heap.size w w' := by
  induction n with
  | zero => intro e h; have := sizeE_pos e; omega
  | succ n ih =>
    intro e hn A B c d w hA hB
    rw [sizeE_eq] at hn
    obtain ⟨x0, x1, x2, x3, x4, l⟩ := e
    dsimp only at hn hA hB ⊢
    have hm := Kd.C_max hA
    have HA := Aside0.mk hA
    have HB := Aside0.mk hB
    have IH := Aside0.mk ih
    have HN := Aside0.mk hn
    clear hA hB ih hn
    have s1 := Box.start w #[.int .i64 x0, .int .i64 x1, .int .i64 x2, .int .i64 x3, .int .i64 x4, .slice A l.length c] 40
    have s2 := Box.start (w.alloc (.cells #[.int .i64 x0, .int .i64 x1, .int .i64 x2, .int .i64 x3, .int .i64 x4, .slice A l.length c] 40)) #[.int .i64 x0, .int .i64 x1, .int .i64 x2, .int .i64 x3, .int .i64 x4, .slice B l.length d] 40
    rw [World.size_alloc] at s2
    have H1 := Aside0.mk (s1.alloc (.cells #[.int .i64 x0, .int .i64 x1, .int .i64 x2, .int .i64 x3, .int .i64 x4, .slice B l.length d] 40))
    have H2 := Aside0.mk s2.2
    clear s1 s2
    go_enter Tryz.func38, Tryz.ntmps38
    go_wp2
    go_loopw [5] (fun i wr => ∃ k : Nat, k ≤ l.length ∧ i = .int .i64 k ∧ Aside0 (Box w w.heap.size #[.int .i64 x0, .int .i64 x1, .int .i64 x2, .int .i64 x3, .int .i64 x4, .slice A l.length c] 40 wr) ∧ Aside0 (wr.heap[w.heap.size + 1]? = some (.cells #[.int .i64 x0, .int .i64 x1, .int .i64 x2, .int .i64 x3, .int .i64 x4, .slice B l.length d] 40 (0, 0)))) (fun i _ => l.length - (intOf i).toNat)
    case atStart => exact ⟨0, Nat.zero_le _, rfl, H1, H2⟩
    case round =>
      obtain ⟨k, hk, rfl, hX, hY⟩ := hrel
      have p5 : wr.cell? ⟨w.heap.size, 5, none⟩ = some (.slice A l.length c) := (hX.out.cell 5).trans rfl
      have q5 : wr.cell? ⟨w.heap.size + 1, 5, none⟩ = some (.slice B l.length d) := (blk_cell hY.out 5).trans rfl
      by_cases hlt : k < l.length
      · obtain ⟨ad, cs, rfl, hK, hc0, hc1⟩ := C_at (Kd.C_below HA.out hX.out.1) k hlt
        obtain ⟨A7, c7, rfl, l7, g7⟩ := k40_open hK
        obtain ⟨bd, cs, rfl, hK', hd0, hd1⟩ := C_at (Kd.C_below HB.out hX.out.1) k hlt
        obtain ⟨B7, d7, rfl, l8, g8⟩ := k40_open hK'
        have a0 : wr.cell? (ad.add (k * 6)) = some (.int .i64 l[k].f0) := hc0 _ rfl
        have a1 : wr.cell? ⟨(ad.add (k * 6)).block, (ad.add (k * 6)).off + 1, none⟩ = some (.int .i64 l[k].f1) := hc1 1 _ (by decide) rfl
        have a2 : wr.cell? ⟨(ad.add (k * 6)).block, (ad.add (k * 6)).off + 2, none⟩ = some (.int .i64 l[k].f2) := hc1 2 _ (by decide) rfl
        have a3 : wr.cell? ⟨(ad.add (k * 6)).block, (ad.add (k * 6)).off + 3, none⟩ = some (.int .i64 l[k].f3) := hc1 3 _ (by decide) rfl
        have a4 : wr.cell? ⟨(ad.add (k * 6)).block, (ad.add (k * 6)).off + 4, none⟩ = some (.int .i64 l[k].f4) := hc1 4 _ (by decide) rfl
        have a5 : wr.cell? ⟨(ad.add (k * 6)).block, (ad.add (k * 6)).off + 5, none⟩ = some (.slice A7 l[k].f5.length c7) := hc1 5 _ (by decide) rfl
        have b0 : wr.cell? (bd.add (k * 6)) = some (.int .i64 l[k].f0) := hd0 _ rfl
        have b1 : wr.cell? ⟨(bd.add (k * 6)).block, (bd.add (k * 6)).off + 1, none⟩ = some (.int .i64 l[k].f1) := hd1 1 _ (by decide) rfl
        have b2 : wr.cell? ⟨(bd.add (k * 6)).block, (bd.add (k * 6)).off + 2, none⟩ = some (.int .i64 l[k].f2) := hd1 2 _ (by decide) rfl
        have b3 : wr.cell? ⟨(bd.add (k * 6)).block, (bd.add (k * 6)).off + 3, none⟩ = some (.int .i64 l[k].f3) := hd1 3 _ (by decide) rfl
        have b4 : wr.cell? ⟨(bd.add (k * 6)).block, (bd.add (k * 6)).off + 4, none⟩ = some (.int .i64 l[k].f4) := hd1 4 _ (by decide) rfl
        have b5 : wr.cell? ⟨(bd.add (k * 6)).block, (bd.add (k * 6)).off + 5, none⟩ = some (.slice B7 l[k].f5.length d7) := hd1 5 _ (by decide) rfl
        have hsz : sizeE l[k] ≤ n := by
          have := mem_size _ _ (List.getElem_mem hlt)
          have := HN.out
          omega
        have HS := Aside0.mk fun w' (hb : Below wr.heap.size wr w') => IH.out l[k] hsz A7 B7 c7 d7 w' (Kd.C_below g7 hb) (Kd.C_below g8 hb)
        have i2 : (k : Int) < (l.length : Int) := by omega
        clear hK hK' hc0 hc1 hd0 hd1 g7 g8 hsz
        generalize l[k] = x at *
        go_wp2_with fail
        go_region_with (go_at_call 38; refine (HS.out _ (below_drew1 (Below.refl _ _))).mono ?_; rintro e w5 ⟨rfl, k5⟩)
        all_goals
          have hX5 := Aside0.mk ((hX.out.then (below_drew1 (Below.refl _ _))).then k5)
          have hY5 := Aside0.mk ((k5.block _ (blk_lt hY.out)).trans hY.out)
          clear k5
          go_wp2
          go_roundw
          case rel => exact ⟨k + 1, by omega, by go_num, hX5, hY5⟩
          case measure => simp [intOf]; omega
      · obtain rfl : k = l.length := by omega
        go_wp2
        go_ret
        exact ⟨rfl, hX.out.1⟩
theorem alike38 (x : S40) (hs : sizeE x ≤ 4500) (A B : Option Addr) (c d : Nat) (w : World) (h : k40.C w A x.f5.length x.f5) (hc : x.f5.length ≤ c) (h' : k40.C w B x.f5.length x.f5) (hd : x.f5.length ≤ d) :
    Calls Tryz.prog 38 #[.agg #[.int .i64 x.f0, .int .i64 x.f1, .int .i64 x.f2, .int .i64 x.f3, .int .i64 x.f4, .slice A x.f5.length c], .agg #[.int .i64 x.f0, .int .i64 x.f1, .int .i64 x.f2, .int .i64 x.f3, .int .i64 x.f4, .slice B x.f5.length d]] w fun e w' => e = .returned (.bool true) ∧ Below w.heap.size w w' :=
  alike_all (sizeE x) x (Nat.le_refl _) A B c d w h h'
end Go.Proofs.YtpnkifincadakaaGreatDoor.Wr
end
