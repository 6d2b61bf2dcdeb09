/- Proved: part 30 of the proof of PackReads (Rd18, Lr1). Conditions: each theorem states its own. -/
import Derived.Laws.AppendOwnNone
import Derived.Laws.OwnMore
import Derived.Test.YtpnkifincadakaaGreatDoorP14
import Derived.Test.YtpnkifincadakaaGreatDoorP23
import Derived.Test.YtpnkifincadakaaGreatDoorP24
import Derived.Test.YtpnkifincadakaaGreatDoorP29
set_option linter.unusedVariables false
set_option linter.unusedSimpArgs false
section
namespace Go.Proofs.YtpnkifincadakaaGreatDoor.Wr
open Go.RowKit Go.Pk Go.Proofs.YtpnkifincadakaaGreatDoorW.PrintWords Go.Proofs.YtpnkifincadakaaGreatDoor.PPackSpecs
open Go.Am (TabVar tabV head_calls)
theorem bytes_summed' {bs : List Int} (h : Bytes bs) : Bytes (summed bs) := h.append fun y hy => by
  simp only [b4, List.mem_cons, List.mem_nil_iff, or_false] at hy
  omega
theorem Ob.cell {w : World} {B : Nat} {a : Option Addr} {n c : Nat} {bs : List Int} (h : Ob w B (.slice a n c) bs) (hp : 0 < bs.length) : n = bs.length ∧ ∀ j x, bs[j]? = some x → ∃ ad, a = some ad ∧ w.cell? (ad.add j) = some (.int .u8 x) := by
  obtain ⟨g, cap, e, _, _, hc⟩ := h.form hp
  injection e with e1 e2 e3
  subst e1
  exact ⟨e2, fun j x hx => ⟨_, rfl, hc j _ (by unfold nums; rw [List.getElem?_map, hx]; rfl)⟩⟩
end Go.Proofs.YtpnkifincadakaaGreatDoor.Wr
end
section
namespace Go.Proofs.YtpnkifincadakaaGreatDoor.Wr
open Go.RowKit Go.Pk Go.Proofs.YtpnkifincadakaaGreatDoorW.PrintWords Go.Proofs.YtpnkifincadakaaGreatDoor.PPackSpecs
open Go.Am (rsum_any)
structure Rd8 (A : Option Addr) (c : Nat) (bs : List Int) (w : World) : Prop where
  row : ∀ (j : Nat) (x : Int), bs[j]? = some x → ∃ p, A = some p ∧ w.cell? (p.add j) = some (.int .u8 x)
  nl : A = none → c = 0
  cap : bs.length ≤ c
  byt : Bytes bs
theorem Rd8.nil {c : Nat} {bs : List Int} {w : World} (h : Rd8 none c bs w) : bs = [] ∧ c = 0 := by
  refine ⟨?_, h.nl rfl⟩
  cases bs with
  | nil => rfl
  | cons b r =>
    obtain ⟨p, hp, _⟩ := h.row 0 b rfl
    cases hp
theorem Rd8.below {A : Option Addr} {c : Nat} {bs : List Int} {w w' : World} (h : Rd8 A c bs w) (k : Below w.heap.size w w') : Rd8 A c bs w' :=
  ⟨fun j x hj => by obtain ⟨p, hp, hc⟩ := h.row j x hj; exact ⟨p, hp, pw_cell_below k hc⟩, h.nl, h.cap, h.byt⟩
theorem Rd8.news {ad : Addr} {c : Nat} {bs : List Int} {w : World} (h : Rd8 (some ad) c bs w) : ∀ j u, (nums .u8 bs)[j]? = some u → w.cell? (ad.add j) = some u := fun j u hj => by
  unfold nums at hj
  rw [List.getElem?_map] at hj
  obtain ⟨x, hx, rfl⟩ := Option.map_eq_some_iff.1 hj
  obtain ⟨ad', e, h⟩ := h.row j x hx
  cases e
  exact h
theorem Rd8.C {A : Option Addr} {c : Nat} {bs : List Int} {w : World} (h : Rd8 A c bs w) (hm : bs.length ≤ 9223372036854775807) : (Kd.int .u8).C w A bs.length bs := by
  refine ⟨rfl, hm, fun hp => ?_⟩
  obtain ⟨ad, hA, _⟩ := h.row 0 _ (List.getElem?_eq_getElem hp)
  refine ⟨ad, hA, fun k p hk => ?_⟩
  obtain ⟨ad', e, hc⟩ := h.row k p hk
  rw [hA] at e
  cases e
  refine ⟨[.int .u8 p], rfl, rfl, fun j u hu => ?_⟩
  match j, hu with
  | 0, hu =>
    simp only [List.getElem?_cons_zero, Option.some.injEq] at hu
    subst hu
    show w.cell? (ad.add (k * 1 + 0)) = _
    rw [Nat.mul_one, Nat.add_zero]
    exact hc
  | j + 1, hu => simp at hu
theorem Ob.rd {w : World} {B : Nat} {a : Option Addr} {n c : Nat} {bs : List Int} (h : Ob w B (.slice a n c) bs) (hp : 0 < bs.length) (hb : Bytes bs) : n = bs.length ∧ Rd8 a c bs w := by
  obtain ⟨e, hr⟩ := h.cell hp
  refine ⟨e, hr, fun ha => ?_, by have := h.C.2.1; omega, hb⟩
  obtain ⟨ad, he, _⟩ := hr 0 _ (List.getElem?_eq_getElem hp)
  rw [ha] at he
  cases he
set_option maxHeartbeats 8000000 in
set_option maxRecDepth 100000 in
theorem bytes13G (A : Option Addr) (c : Nat) (bs : List Int) (w : World) (h : Rd8 A c bs w) (hm : bs.length ≤ 140737488351300) :
    Calls Tryz.prog 13 #[.slice A bs.length c] w fun e w' => ∃ q cb cells, e = .returned (.slice (some ⟨q, 0, none⟩) bs.length cb) ∧ w'.heap[q]? = some (.cells cells 5 (0, 0)) ∧ (∀ (i : Nat) (b : Int), bs[i]? = some b → cells[i]? = some (.int .u8 b)) ∧ cells[bs.length]? = some (.int .u8 165) ∧ bs.length < cb ∧ cb ≤ 9223372036854775807 ∧ w.heap.size ≤ q ∧ Below w.heap.size w w' := by
  obtain ⟨i0, hi, hz0, hz1, hz2⟩ := info_parts infoB
  have hA := below_alloc (Below.refl _ w) (.cells #[] 5)
  have h0 := World.ownsRow_lit (base := w.heap.size) (e := 5) (size := 1) w #[] 0 (Nat.le_refl _) (by simp) (by simp)
  rcases A with _ | ad
  · obtain ⟨rfl, rfl⟩ := h.nil
    clear h
    have h0a := h0.alloc (.cells #[.int .u8 165] 5)
    have hbb := below_alloc hA (.cells #[.int .u8 165] 5)
    have hn2 := World.news_of_block (blk_new (w.alloc (.cells #[] 5)) (.cells #[.int .u8 165] 5))
    rw [World.size_alloc] at hn2
    go_enter Tryz.func13, Tryz.ntmps13
    go_wp2_with (at_builtin; refine wpList_append_own _ rfl _ _ 30 rfl w.heap.size 5 i0 (.int .u8 0) 1 1 Tryz.underlying30 hi hz0 hz1 hz2 rfl (by decide) _ 0 [] rfl h0a ⟨w.heap.size + 1, 0, none⟩ 1 1 [.int .u8 165] rfl rfl hn2 (by simp [Value.oneCell']) (by unfold maxLen; omega) (by omega) hbb.size ?_)
    intro v3 w3 hown3 hgrow3 _
    have hend : Below w.heap.size w w3 := hbb.grown hgrow3 hbb.size (fun k hk => own_base h0a k hk)
    rcases hown3.2 with ⟨_, hz⟩ | ⟨q, cap, cur, rfl, hB, hh, h1, h2, h3, h4⟩
    · omega
    have hcap : 0 < cap := by omega
    have hlast : cur[0]? = some (.int .u8 165) := by
      have h5 : (cur.toList.take ((0 + 1) * 1))[0]? = some (.int .u8 165) := by
        rw [h4]
        rfl
      rw [List.getElem?_take, if_pos (by omega)] at h5
      simpa using h5
    have HL := Aside0.mk hlast
    have HH := Aside0.mk hh
    have HE := Aside0.mk hend
    have hcm : cap ≤ 9223372036854775807 := by unfold maxLen at h2; omega
    clear hown3 hgrow3 hlast hh hend h3 h4 h0a hbb hn2 h0 hA hi hz0 hz1 hz2
    go_wp2
    go_ret
    exact ⟨q, cap, cur, rfl, HH.out, fun i b hib => (by cases hib), HL.out, hcap, hcm, hB, HE.out⟩
  · have HN := Aside0.mk (h.below hA).news
    have hcp := h.cap
    clear h
    go_enter Tryz.func13, Tryz.ntmps13
    go_wp2_with (at_builtin; refine wpList_append_own _ rfl _ _ 30 rfl w.heap.size 5 i0 (.int .u8 0) 1 1 Tryz.underlying30 hi hz0 hz1 hz2 rfl (by decide) _ 0 [] rfl h0 ad bs.length c (nums .u8 bs) rfl (by rw [nums_length]; omega) HN.out (one_nums bs) (by unfold maxLen; omega) (by omega) (by simp) ?_)
    intro v1 w1 hown1 hgrow1 _
    have hb1 : Below w.heap.size w w1 := hA.grown hgrow1 (by simp) (fun k hk => own_base h0 k hk)
    clear HN hgrow1 hA h0
    obtain ⟨ao, co, rfl⟩ := own_slice hown1
    have hown1a := hown1.alloc (.cells #[.int .u8 165] 5)
    have hbb := below_alloc hb1 (.cells #[.int .u8 165] 5)
    have HBM := Aside0.mk hm
    go_wp2_with (at_builtin; refine wpList_append_own _ rfl _ _ 30 rfl w.heap.size 5 i0 (.int .u8 0) 1 1 Tryz.underlying30 hi hz0 hz1 hz2 rfl (by decide) _ bs.length (nums .u8 bs) rfl hown1a ⟨w1.heap.size, 0, none⟩ 1 1 [.int .u8 165] rfl rfl (World.news_of_block (blk_new w1 (.cells #[.int .u8 165] 5))) (by simp [Value.oneCell']) (by unfold maxLen; omega) (by omega) hbb.size ?_)
    intro v3 w3 hown3 hgrow3 _
    have hend : Below w.heap.size w w3 := hbb.grown hgrow3 hbb.size (fun k hk => own_base hown1a k hk)
    rcases hown3.2 with ⟨_, hz⟩ | ⟨q, cap, cur, rfl, hB, hh, h1, h2, h3, h4⟩
    · omega
    have hcap : bs.length < cap := by omega
    have hcur : ∀ (i : Nat) (b : Int), bs[i]? = some b → cur[i]? = some (.int .u8 b) := fun i b hib => by
      have hil := (List.getElem?_eq_some_iff.1 hib).1
      have h5 : (cur.toList.take ((bs.length + 1) * 1))[i]? = some (.int .u8 b) := by
        rw [h4, List.getElem?_append_left (by rw [nums_length]; exact hil)]
        unfold nums
        rw [List.getElem?_map, hib]
        rfl
      rw [List.getElem?_take, if_pos (by omega)] at h5
      simpa using h5
    have hlast : cur[bs.length]? = some (.int .u8 165) := by
      have h5 : (cur.toList.take ((bs.length + 1) * 1))[bs.length]? = some (.int .u8 165) := by
        rw [h4, List.getElem?_append_right (by rw [nums_length]; exact Nat.le_refl _), nums_length, Nat.sub_self]
        rfl
      rw [List.getElem?_take, if_pos (by omega)] at h5
      simpa using h5
    have HC := Aside0.mk hcur
    have HL := Aside0.mk hlast
    have HH := Aside0.mk hh
    have HE := Aside0.mk hend
    have hcm : cap ≤ 9223372036854775807 := by unfold maxLen at h2; omega
    clear hown3 hgrow3 hcur hlast hh hend h3 h4 hown1 hown1a hb1 hbb hi hz0 hz1 hz2
    go_wp2
    go_ret
    exact ⟨q, cap, cur, rfl, HH.out, HC.out, HL.out, hcap, hcm, hB, HE.out⟩
set_option maxHeartbeats 8000000 in
set_option maxRecDepth 100000 in
theorem summed12W (A : Option Addr) (c : Nat) (bs : List Int) (w : World) (hp : 0 < bs.length) (hm : bs.length ≤ 140737488351300) (hb : Bytes bs)
    (hr : ∀ j x, bs[j]? = some x → ∃ ad, A = some ad ∧ w.cell? (ad.add j) = some (.int .u8 x)) :
    Calls Tryz.prog 12 #[.slice A bs.length c] w fun e w' => ∃ v, e = .returned v ∧ Ob w' w.heap.size v (summed bs) ∧ Below w.heap.size w w' := by
  obtain ⟨i0, hi, hz0, hz1, hz2⟩ := info_parts infoB
  obtain ⟨ad, rfl, _⟩ := hr 0 _ (List.getElem?_eq_getElem hp)
  have hnews : ∀ j u, (nums .u8 bs)[j]? = some u → w.cell? (ad.add j) = some u := fun j u hj => by
    unfold nums at hj
    rw [List.getElem?_map] at hj
    obtain ⟨x, hx, rfl⟩ := Option.map_eq_some_iff.1 hj
    obtain ⟨ad', e, h⟩ := hr j x hx
    cases e
    exact h
  have HN := Aside0.mk hnews
  have HR := Aside0.mk hr
  clear hnews hr
  have h0 := own_nil w w.heap.size 5 1
  have hsl : (summed bs).length = bs.length + 4 := by unfold summed; rw [List.length_append]; rfl
  go_enter Tryz.func12, Tryz.ntmps12
  go_wp2_with (at_builtin; refine wpList_append_own _ rfl _ _ 30 rfl w.heap.size 5 i0 (.int .u8 0) 1 1 Tryz.underlying30 hi hz0 hz1 hz2 rfl (by decide) _ 0 [] rfl h0 ad bs.length c (nums .u8 bs) rfl (by rw [nums_length]; omega) HN.out (one_nums bs) (by unfold maxLen; omega) (by omega) (Nat.le_refl _) ?_)
  intro v1 w1 hown1 hgrow1 _
  have hb1 : Below w.heap.size w w1 := (Below.refl _ w).grown hgrow1 (Nat.le_refl _) (fun k hk => by cases hk)
  have HR1 : Aside0 (∀ (j : Nat) x, bs[j]? = some x → ∃ ad', some ad = some ad' ∧ w1.cell? (ad'.add j) = some (.int .u8 x)) := ⟨fun j x hj => by
    obtain ⟨ad', e, h⟩ := HR.out j x hj
    exact ⟨ad', e, pw_cell_below hb1 h⟩⟩
  have HS := Aside0.mk (rsum_any (some ad) bs.length c bs w1 rfl (by omega) hb HR1.out)
  have HNB := Aside0.mk (number37 (crc bs) 4 (b4 (crc bs : Nat)) w1 ⟨_, number4 _ 0⟩)
  have HSU : Hid (summed bs = bs ++ b4 (crc bs : Nat)) := Lib.hid rfl
  generalize crc bs = q at *
  obtain ⟨ao, co, rfl⟩ := own_slice hown1
  go_wp2_with (go_at_call 39; refine HS.out.mono ?_)
  rintro e w2 ⟨rfl, rfl⟩
  go_wp2_with (go_at_call 37; refine HNB.out.mono ?_)
  rintro e w2 ⟨v2, rfl, ho2, hb2⟩
  obtain ⟨g2, cap2, rfl, hg2, hl2, hc2⟩ := ho2.form (by show 0 < 4; omega)
  have hown2 := pw_own_below hown1 hb2
  have hbb := below_then hb1 hb1.size hb2
  have HC2 := Aside0.mk hc2
  clear hc2 ho2 hb2 HR HN HS HNB
  go_wp2_with (at_builtin; refine wpList_append_own _ rfl _ _ 30 rfl w.heap.size 5 i0 (.int .u8 0) 1 1 Tryz.underlying30 hi hz0 hz1 hz2 rfl (by decide) _ bs.length (nums .u8 bs) rfl hown2 ⟨g2, 0, none⟩ 4 cap2 (nums .u8 (b4 q)) rfl rfl HC2.out (one_nums _) (by unfold maxLen; omega) (by omega) hbb.size ?_)
  intro v3 w3 hown3 hgrow3 _
  have hend : Below w.heap.size w w3 := hbb.grown hgrow3 hbb.size (fun k hk => own_base hown2 k hk)
  have hown4 : Ob w3 w.heap.size v3 (summed bs) := by
    rw [HSU.out]
    show w3.ownsRow w.heap.size 5 1 v3 (bs ++ b4 q).length (nums .u8 (bs ++ b4 q))
    rw [List.length_append, nums_append]
    exact hown3
  have HO := Aside0.mk hown4
  obtain ⟨a3, c3, rfl⟩ := own_slice hown3
  clear hown3 hown4 hgrow3 hgrow1
  go_wp2
  go_ret
  exact ⟨_, rfl, HO.out, hend⟩
set_option maxHeartbeats 8000000 in
set_option maxRecDepth 100000 in
theorem summed12G (A : Option Addr) (c : Nat) (bs : List Int) (w : World) (h : Rd8 A c bs w) (hm : bs.length ≤ 140737488351300) :
    Calls Tryz.prog 12 #[.slice A bs.length c] w fun e w' => ∃ v, e = .returned v ∧ Ob w' w.heap.size v (summed bs) ∧ Below w.heap.size w w' := by
  by_cases hp : 0 < bs.length
  · exact summed12W A c bs w hp hm h.byt h.row
  obtain rfl : bs = [] := List.eq_nil_of_length_eq_zero (by omega)
  obtain ⟨i0, hi, hz0, hz1, hz2⟩ := info_parts infoB
  have HS := Aside0.mk (rsum_any A 0 c [] w rfl (by omega) (fun b hb => by cases hb) (fun j x hj => by cases hj))
  have HNB := Aside0.mk fun w' => number37 (crc [] : Nat) 4 (b4 (crc [] : Nat)) w' ⟨_, number4 _ 0⟩
  have HSU : Hid (summed [] = b4 (crc [] : Nat)) := Lib.hid rfl
  have h0 := fun w' : World => own_nil w' w.heap.size 5 1
  generalize crc [] = q at *
  have hno : ∀ w' : World, w'.ownsRow w.heap.size 5 1 (.slice none 0 0) 0 [] := h0
  clear hm h h0
  rcases A with _ | ad
  all_goals
    go_enter Tryz.func12, Tryz.ntmps12
    go_wp2_with (go_at_call 39; refine HS.out.mono ?_)
    rintro e w2 ⟨rfl, rfl⟩
    go_wp2_with (go_at_call 37; refine (HNB.out _).mono ?_)
    rintro e w2 ⟨v2, rfl, ho2, hb2⟩
    obtain ⟨g2, cap2, rfl, hg2, hl2, hc2⟩ := ho2.form (by show 0 < 4; omega)
    have HC2 := Aside0.mk hc2
    have hsz := hb2.size
    have HB2 := Aside0.mk hb2
    clear hc2 ho2 hb2 HS HNB
    go_wp2_with (at_builtin; refine wpList_append_own _ rfl _ _ 30 rfl w.heap.size 5 i0 (.int .u8 0) 1 1 Tryz.underlying30 hi hz0 hz1 hz2 rfl (by decide) _ 0 [] rfl (hno w2) ⟨g2, 0, none⟩ 4 cap2 (nums .u8 (b4 q)) rfl rfl HC2.out (one_nums _) (by unfold maxLen; omega) (by omega) hsz ?_)
    intro v3 w3 hown3 hgrow3 _
    have hend : Below w.heap.size w w3 := HB2.out.grown hgrow3 HB2.out.size (fun k hk => by cases hk)
    have hown4 : Ob w3 w.heap.size v3 (summed []) := by
      rw [HSU.out]
      show w3.ownsRow w.heap.size 5 1 v3 (b4 q).length (nums .u8 (b4 q))
      exact hown3
    have HO := Aside0.mk hown4
    have HE := Aside0.mk hend
    obtain ⟨a3, c3, rfl⟩ := own_slice hown3
    clear hown3 hown4 hgrow3 hend
    go_wp2
    go_ret
    exact ⟨_, rfl, HO.out, HE.out⟩
theorem xor_byte {x : Int} (h : 0 ≤ x ∧ x < 256) : 0 ≤ bits .xor .u8 x 1 ∧ bits .xor .u8 x 1 < 256 := by
  have h2 : ((List.range 256).all fun r => decide (0 ≤ bits .xor .u8 (r : Int) 1 ∧ bits .xor .u8 (r : Int) 1 < 256)) = true := by kernel_rfl
  have h3 := List.all_eq_true.1 h2 x.toNat (by rw [List.mem_range]; omega)
  rw [show ((x.toNat : Nat) : Int) = x by omega] at h3
  simpa using h3
theorem bytes_take {bs : List Int} (h : Bytes bs) (n : Nat) : Bytes (bs.take n) := fun b hb => h b (List.mem_of_mem_take hb)
theorem bytes_set {bs : List Int} (h : Bytes bs) (n : Nat) {y : Int} (hy : 0 ≤ y ∧ y < 256) : Bytes (bs.set n y) := fun b hb => by
  rcases List.mem_or_eq_of_mem_set hb with hb | rfl
  · exact h b hb
  · exact hy
theorem Rd8.take {A : Option Addr} {c : Nat} {bs : List Int} {w : World} (h : Rd8 A c bs w) (n : Nat) : Rd8 A c (bs.take n) w :=
  ⟨fun j x hj => h.row j x (by
    have hl := (List.getElem?_eq_some_iff.1 hj).1
    rw [List.length_take] at hl
    rwa [List.getElem?_take_of_lt (by omega)] at hj), h.nl, by rw [List.length_take]; have := h.cap; omega, bytes_take h.byt n⟩
set_option maxHeartbeats 8000000 in
set_option maxRecDepth 100000 in
theorem other17 (A : Option Addr) (c : Nat) (bs : List Int) (sum : Bool) (w : World) (h : Rd8 A c bs w) (hm : bs.length ≤ 140737488351300) :
    Calls Tryz.prog 17 #[.slice A bs.length c, .bool sum] w fun e w' => ∃ v cs, e = .returned v ∧ Ob w' w.heap.size v cs ∧ cs.length = bs.length ∧ Bytes cs ∧ Below w.heap.size w w' := by
  obtain ⟨i0, hi, hz0, hz1, hz2⟩ := info_parts infoB
  have hA := below_alloc (Below.refl _ w) (.cells #[] 5)
  have h0 := World.ownsRow_lit (base := w.heap.size) (e := 5) (size := 1) w #[] 0 (Nat.le_refl _) (by simp) (by simp)
  rcases A with _ | ad
  · obtain ⟨rfl, rfl⟩ := h.nil
    have HO : Aside0 (Ob (w.alloc (.cells #[] 5)) w.heap.size (.slice (some ⟨w.heap.size, 0, none⟩) 0 0) []) := ⟨h0⟩
    have HA := Aside0.mk hA
    clear h h0 hA
    cases sum
    all_goals
      go_enter Tryz.func17, Tryz.ntmps17
      go_wp2
      go_ret
      exact ⟨_, [], rfl, HO.out, rfl, fun b hb => (by cases hb), HA.out⟩
  have HN := Aside0.mk (h.below hA).news
  have hby := h.byt
  have hcp := h.cap
  clear h
  go_enter Tryz.func17, Tryz.ntmps17
  go_wp2_with (at_builtin; refine wpList_append_own _ rfl _ _ 30 rfl w.heap.size 5 i0 (.int .u8 0) 1 1 Tryz.underlying30 hi hz0 hz1 hz2 rfl (by decide) _ 0 [] rfl h0 ad bs.length c (nums .u8 bs) rfl (by rw [nums_length]; omega) HN.out (one_nums bs) (by unfold maxLen; omega) (by omega) (by simp) ?_)
  intro v1 w1 hown1 hgrow1 _
  have hb1 : Below w.heap.size w w1 := hA.grown hgrow1 (by simp) (fun k hk => own_base h0 k hk)
  have hob : Ob w1 w.heap.size v1 bs := hown1
  have HBY := Aside0.mk hby
  clear HN hgrow1 hA h0 hown1 hby
  by_cases hp : 0 < bs.length
  rotate_left
  · obtain rfl : bs = [] := List.eq_nil_of_length_eq_zero (by omega)
    obtain ⟨ao, co, rfl⟩ := own_slice hob
    have HO := Aside0.mk hob
    have HE := Aside0.mk hb1
    clear hob hb1 hm hcp hp
    cases sum
    all_goals
      go_wp2
      go_ret
      exact ⟨_, [], rfl, HO.out, rfl, fun b hb => (by cases hb), HE.out⟩
  obtain ⟨g, cap, rfl, hg, hgl, hcell⟩ := hob.form hp
  obtain ⟨hh, hhd⟩ : ∃ hh : Nat, hh = bs.length / 2 := ⟨_, rfl⟩
  have hq : ((bs.length : Int)).tdiv 2 = (hh : Int) := by rw [hhd]; rfl
  have hlt : hh < bs.length := by omega
  have hc1 : w1.cell? ⟨g, hh, none⟩ = some (.int .u8 bs[hh]) := by
    have := hcell hh (.int .u8 bs[hh]) (by unfold nums; rw [List.getElem?_map, List.getElem?_eq_getElem hlt]; rfl)
    rwa [add_plain', Nat.zero_add] at this
  have hf1 : ∀ i, w1.frozen? ⟨g, i, none⟩ = false := fun i => by
    rcases hob.2 with ⟨hv, _⟩ | ⟨g', cap', cur, hv, _, hh', _⟩
    · cases hv
    · injection hv with hv
      injection hv with hv
      injection hv with hv
      subst hv
      exact blk_frozen hh' i
  have hx := HBY.out bs[hh] (List.getElem_mem hlt)
  have hst := hob.stored hh (.int .u8 (bits .xor .u8 bs[hh] 1))
  obtain ⟨y, hy⟩ : ∃ y, y = bits .xor .u8 bs[hh] 1 := ⟨_, rfl⟩
  have hyb := xor_byte hx
  rw [← hy] at hst hyb
  have hob2 : Ob (w1.setCell ⟨g, hh, none⟩ (.int .u8 y)) w.heap.size (.slice (some ⟨g, 0, none⟩) bs.length cap) (bs.set hh y) := by
    have h1 := hst.1
    unfold Ob
    rw [List.length_set, show nums .u8 (bs.set hh y) = (nums .u8 bs).set hh (.int .u8 y) by unfold nums; rw [List.map_set]]
    exact h1
  have hb2 : Below w.heap.size w (w1.setCell ⟨g, hh, none⟩ (.int .u8 y)) := hb1.setCell (p := ⟨g, hh, none⟩) (by show w.heap.size ≤ g; exact hg) _
  have hbs := bytes_set HBY.out hh hyb
  have hls : (bs.set hh y).length = bs.length := List.length_set
  obtain ⟨x, hxe⟩ : ∃ x, x = bs[hh] := ⟨_, rfl⟩
  rw [← hxe] at hc1 hy hx
  obtain ⟨cs, hcs⟩ : ∃ cs, cs = bs.set hh y := ⟨_, rfl⟩
  rw [← hcs] at hob2 hbs hls
  rw [hy] at hob2 hb2
  clear hy hx
  have HO := Aside0.mk hob2
  have HB := Aside0.mk hb2
  have HY := Aside0.mk hbs
  have HLS := Aside0.mk hls
  clear hst hhd hcs hxe hb1 hob2 hb2 hbs hls hcell hyb
  rcases (show sum = false ∨ (sum = true ∧ bs.length ≤ 4) ∨ (sum = true ∧ 4 < bs.length) by cases sum <;> simp <;> omega) with rfl | ⟨rfl, h4⟩ | ⟨rfl, h4⟩
  · clear hob
    go_wp2
    go_ret
    exact ⟨_, cs, rfl, HO.out, HLS.out, HY.out, HB.out⟩
  · have z : decide (4 < (bs.length : Int)) = false := decide_eq_false (by omega)
    clear hob
    go_wp2
    go_ret
    exact ⟨_, cs, rfl, HO.out, HLS.out, HY.out, HB.out⟩
  · have z : decide (4 < (bs.length : Int)) = true := decide_eq_true (by omega)
    obtain ⟨l4, hl4⟩ : ∃ l4, l4 = bs.length - 4 := ⟨_, rfl⟩
    have hs4 : (bs.length : Int) - 4 = (l4 : Int) := by omega
    have hcl := HLS.out
    have hR := (Ob.rd HO.out (by omega) HY.out).2.take l4
    have hlt4 : (cs.take l4).length = l4 := by rw [List.length_take]; omega
    have HS := summed12W (some ⟨g, 0, none⟩) cap (cs.take l4) _ (by omega) (by omega) hR.byt hR.row
    rw [hlt4] at HS
    have HS := Aside0.mk HS
    have hcp4 : l4 ≤ cap := by have := hR.cap; omega
    have hw4 : IntKind.i64.wrap (l4 : Int) = l4 := by rw [IntKind.wrap_i64]; omega
    have HL4 := Aside0.mk (And.intro hl4 hlt4)
    have HRB := Aside0.mk hR.byt
    clear hob hl4 hlt4 hR hcl
    go_wp2_with (go_at_call 12; refine HS.out.mono ?_)
    rintro e w3 ⟨v3, rfl, ho3, hb3⟩
    obtain ⟨a3, c3, rfl⟩ := own_slice ho3
    have hsz := HB.out.size
    have HO3 := Aside0.mk (ho3.lower (B' := w.heap.size) hsz)
    have HB3 := Aside0.mk (below_then HB.out hsz hb3)
    clear ho3 hb3
    go_wp2
    go_ret
    refine ⟨_, summed (cs.take l4), rfl, HO3.out, ?_, bytes_summed' HRB.out, HB3.out⟩
    have h1 := HL4.out
    have h2 : (summed (cs.take l4)).length = (cs.take l4).length + 4 := by unfold summed; rw [List.length_append]; rfl
    omega
theorem rd8_mine {q cb : Nat} {cells : Array Value} {bs : List Int} {w : World} (hq : w.heap[q]? = some (.cells cells 5 (0, 0))) (hr : ∀ (i : Nat) (b : Int), bs[i]? = some b → cells[i]? = some (.int .u8 b)) (hcb : bs.length ≤ cb) (hb : Bytes bs) : Rd8 (some ⟨q, 0, none⟩) cb bs w :=
  ⟨fun j x hj => ⟨_, rfl, by rw [add_plain', Nat.zero_add]; exact (blk_cell hq j).trans (hr j x hj)⟩, (fun h => by cases h), hcb, hb⟩
theorem same10G (A B : Option Addr) (c d : Nat) (bs : List Int) (w : World) (h : Rd8 A c bs w) (k : Rd8 B d bs w) (hm : bs.length ≤ 140737488355328) :
    Calls Tryz.prog 10 #[.slice A bs.length c, .slice B bs.length d] w fun e w' => e = .returned (.bool true) ∧ Below w.heap.size w w' := by
  obtain ⟨f, hf⟩ := same_any bs hm
  refine (graftlaw18_same.calls f A c bs B d bs true w (h.C (by omega)) h.cap (k.C (by omega)) k.cap hf).mono ?_
  rintro e w' ⟨rfl, h⟩
  exact ⟨rfl, h.below⟩
set_option maxHeartbeats 8000000 in
set_option maxRecDepth 100000 in
theorem left16 (q cb : Nat) (cells : Array Value) (A : Option Addr) (c : Nat) (bs : List Int) (w : World) (hq : w.heap[q]? = some (.cells cells 5 (0, 0))) (hr : ∀ (i : Nat) (b : Int), bs[i]? = some b → cells[i]? = some (.int .u8 b)) (hl : cells[bs.length]? = some (.int .u8 165)) (hcb : bs.length < cb) (hcm : cb ≤ 9223372036854775807) (h : Rd8 A c bs w) (hm : bs.length ≤ 140737488355328) :
    Calls Tryz.prog 16 #[.slice (some ⟨q, 0, none⟩) bs.length cb, .slice A bs.length c] w fun e w' => e = .returned (.bool true) ∧ Below w.heap.size w w' := by
  have HS := Aside0.mk (same10G (some ⟨q, 0, none⟩) A cb c bs w (rd8_mine hq hr (by omega) h.byt) h hm)
  have HQ := Aside0.mk hq
  have HL := Aside0.mk hl
  clear hr h hq hl
  go_enter Tryz.func16, Tryz.ntmps16
  go_wp2_with (go_at_call 10; refine HS.out.mono ?_)
  first | rintro e w1 rfl k1 | rintro e w1 ⟨rfl, k1⟩
  have hc : w1.cell? ⟨q, bs.length, none⟩ = some (.int .u8 165) := (blk_cell ((k1.block _ (blk_lt HQ.out)).trans HQ.out) bs.length).trans HL.out
  have HB := Aside0.mk k1
  have hle : bs.length + 1 ≤ cb := by omega
  obtain ⟨n1, hn1⟩ : ∃ n1, n1 = bs.length + 1 := ⟨_, rfl⟩
  have hs1 : (bs.length : Int) + 1 = (n1 : Int) := by omega
  have hw1 : IntKind.i64.wrap (n1 : Int) = n1 := by rw [IntKind.wrap_i64]; omega
  have hn2 : n1 ≤ cb := by omega
  have hn3 : bs.length < n1 := by omega
  clear k1 hn1 hle
  go_wp2
  go_ret
  exact ⟨rfl, HB.out⟩
end Go.Proofs.YtpnkifincadakaaGreatDoor.Wr
end
