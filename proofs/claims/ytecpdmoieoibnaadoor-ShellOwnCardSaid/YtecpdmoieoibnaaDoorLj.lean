/- Proved: the walk of the law ShellJoins. Conditions: the variable escapes reads as listed. -/
import Derived.Test.YtecpdmoieoibnaaDoorQt2
import Derived.Test.YtecpdmoieoibnaaDoorLq
import Derived.Lib.SmallJoins
import Derived.Lib.SlBytesConst
import Derived.Lib.SlBytesConst
set_option linter.unusedVariables false
set_option linter.unusedSimpArgs false
namespace Go.Proofs.YtecpdmoieoibnaaDoor.Lw
open Go.RowKit Go.Lib Go.Proofs.YtecpdmoieoibnaaDoorW.PrintWords
open Go.Proofs.YtecpdmoieoibnaaDoor.Sh (EscVar)
open Go.Proofs.YtecpdmoieoibnaaDoor.Qt (Rd quoteL)

/-! ### The line of quoted words -/
def lineL : List (List UInt8) → List UInt8
  | [] => []
  | b :: r => 32 :: (quoteL b ++ lineL r)
theorem lineL_snoc : ∀ (l : List (List UInt8)) (b : List UInt8), lineL (l ++ [b]) = lineL l ++ 32 :: quoteL b
  | [], b => by simp [lineL]
  | a :: r, b => by simp [lineL, lineL_snoc r b]
theorem run_blank (m : Pl.Mode) (hm : m = .btw ∨ m = .behind) (ws : List (List UInt8)) (rest : List UInt8) : Pl.run ⟨m, [], ws, false⟩ (32 :: rest) = Pl.run ⟨.btw, [], ws, false⟩ rest := by
  rw [Pl.run_cons _ _ _ rfl]
  rcases hm with rfl | rfl <;> rfl
theorem run_line : ∀ (l : List (List UInt8)) (m : Pl.Mode) (hm : m = .btw ∨ m = .behind) (ws : List (List UInt8)) (c : List UInt8), Pl.run ⟨m, [], ws, false⟩ (lineL l ++ (9 :: 35 :: c)) = some (ws ++ l)
  | [], m, hm, ws, c => by
    show Pl.run ⟨m, [], ws, false⟩ (9 :: 35 :: c) = _
    rw [Pl.run_cons _ _ _ rfl]
    have : Pl.step ⟨m, [], ws, false⟩ 9 = ⟨.btw, [], ws, false⟩ := by rcases hm with rfl | rfl <;> rfl
    rw [this, Pl.run_cons _ _ _ rfl]
    have : Pl.step ⟨.btw, [], ws, false⟩ 35 = ⟨.comm, [], ws, false⟩ := rfl
    rw [this, Pl.run_comm, List.append_nil]
  | b :: r, m, hm, ws, c => by
    show Pl.run ⟨m, [], ws, false⟩ (32 :: ((quoteL b ++ lineL r) ++ (9 :: 35 :: c))) = _
    rw [run_blank m hm, List.append_assoc, Qt.run_quoteL, run_line r .behind (.inr rfl)]
    simp
theorem words_line (l : List (List UInt8)) (c : List UInt8) : Pl.wordsOf (lineL l ++ (9 :: 35 :: c)) = some l := by
  have := run_line l .btw (.inl rfl) [] c
  rw [List.nil_append] at this
  exact this

/-! ### Rows of rows of bytes that are read -/
def RdRows (w : World) (A : Option Addr) (L : List (List UInt8)) : Prop := ∀ j bs, L[j]? = some bs → ∃ ad A' c', A = some ad ∧ w.cell? (ad.add j) = some (.slice A' bs.length c') ∧ bs.length ≤ c' ∧ Rd w A' bs
theorem RdRows.below {w w' : World} {A : Option Addr} {L : List (List UInt8)} (h : RdRows w A L) (hb : Below w.heap.size w w') : RdRows w' A L := fun j bs hj => by
  obtain ⟨ad, A', c', e, hc, hl, hr⟩ := h j bs hj
  exact ⟨ad, A', c', e, pw_cell_below hb hc, hl, hr.below hb⟩
def StrRd (w : World) (A : Option Addr) (xs : List (List UInt8)) : Prop := ∀ j x, xs[j]? = some x → ∃ ad, A = some ad ∧ w.cell? (ad.add j) = some (.string ⟨x.toArray⟩)
theorem StrRd.below {w w' : World} {A : Option Addr} {L : List (List UInt8)} (h : StrRd w A L) (hb : Below w.heap.size w w') : StrRd w' A L := fun j bs hj => by
  obtain ⟨ad, e, hc⟩ := h j bs hj
  exact ⟨ad, e, pw_cell_below hb hc⟩
theorem str_rd {w : World} {B : Nat} {v : Value} {ws : List (List UInt8)} (h : w.ownsRow B 9 1 v ws.length (ws.map fun l => Value.string ⟨l.toArray⟩)) : ∃ A c, v = .slice A ws.length c ∧ StrRd w A ws := by
  obtain ⟨A, c, rfl⟩ := own_slice h
  refine ⟨A, c, rfl, fun j x hj => ?_⟩
  have hjl := (List.getElem?_eq_some_iff.1 hj).1
  obtain ⟨g, cap, e, hc⟩ := row_form h (by omega)
  injection e with e1 e2 e3
  subst e1
  refine ⟨_, rfl, ?_⟩
  have e : ((⟨g, 0, none⟩ : Addr).add j) = ⟨g, j, none⟩ := by unfold Addr.add; split <;> simp_all
  rw [e]
  exact hc j _ (by simp [hj])

theorem quote_n (w : World) (A : Option Addr) (n cap : Nat) (l : List UInt8) (hn : l.length = n) (h : Rd w A l) (hl : l.length ≤ 16000) (hc : l.length ≤ cap) :
    Calls Tryd.prog 11 #[.slice A n cap] w fun e w' => e = .returned (.string ⟨(quoteL l).toArray⟩) ∧ Below w.heap.size w w' := by
  subst hn
  exact Qt.shQuote w A cap l h hl hc
theorem conv_n {w : World} {A : Option Addr} {n : Nat} {l : List UInt8} (cap : Nat) (hn : l.length = n) (h : Rd w A l) (hl : l.length ≤ 16000) : (convert 33 9 (.slice A n cap)).run Tryd.prog w = .ok (.string ⟨l.toArray⟩) w := by
  subst hn
  exact conv_rd cap h hl
theorem rd_take {w : World} {A : Option Addr} {l : List UInt8} (h : Rd w A l) (k : Nat) : Rd w A (l.take k) := fun j b hj => h j b (by rw [List.getElem?_take] at hj; split at hj; exact hj; cases hj)

/-- The first k words, each cut at 4000 bytes. -/
def cutW (L : List (List UInt8)) (k : Nat) : List (List UInt8) := (L.take k).map fun b => b.take 4000
theorem cutW_succ (L : List (List UInt8)) (k : Nat) (h : k < L.length) : cutW L (k + 1) = cutW L k ++ [L[k].take 4000] := by
  unfold cutW
  rw [List.take_succ_eq_append_getElem h, List.map_append]
  rfl
theorem cutW_len (L : List (List UInt8)) (k : Nat) (h : k ≤ L.length) : (cutW L k).length = k := by
  simp [cutW]
  omega
theorem cutW_get (L : List (List UInt8)) (k j : Nat) (h : j < k) (hk : k ≤ L.length) : (cutW L k)[j]? = some (L[j].take 4000) := by
  unfold cutW
  rw [List.getElem?_map, List.getElem?_take, if_pos h, List.getElem?_eq_getElem (by omega)]
  rfl
/-- The line so far. -/
def LineIs (ln : ByteArray) (L : List (List UInt8)) (k : Nat) : Prop := ln.data.toList = lineL (cutW L k) ∧ ln.size ≤ 36100
theorem size_list (a : ByteArray) : a.size = a.data.toList.length := by simp
theorem data_app (a b : ByteArray) : (a ++ b).data.toList = a.data.toList ++ b.data.toList := by simp [ByteArray.data_append]
theorem line_next {ln q : ByteArray} {L : List (List UInt8)} {k : Nat} (h : LineIs ln L k) (hk : k < L.length) (hs : ln.size < 20000) (hq : q = ⟨(quoteL (L[k].take 4000)).toArray⟩) : LineIs (ln ++ ⟨#[32]⟩ ++ q) L (k + 1) := by
  subst hq
  have e : (ln ++ ⟨#[32]⟩ ++ (⟨(quoteL (L[k].take 4000)).toArray⟩ : ByteArray)).data.toList = lineL (cutW L (k + 1)) := by
    rw [data_app, data_app, h.1, cutW_succ L k hk, lineL_snoc]
    simp
  refine ⟨e, ?_⟩
  have h1 := Qt.quoteL_len (L[k].take 4000)
  have h2 : (L[k].take 4000).length ≤ 4000 := by simp; omega
  have h3 : ln.data.toList.length < 20000 := by rw [← size_list]; exact hs
  have h4 : (ln ++ ⟨#[32]⟩ ++ (⟨(quoteL (L[k].take 4000)).toArray⟩ : ByteArray)).size = ln.data.toList.length + 1 + (quoteL (L[k].take 4000)).length := by
    rw [size_list, data_app, data_app]
    simp
    omega
  omega
/-- The whole line. -/
theorem line_all {ln c : ByteArray} {L : List (List UInt8)} {k : Nat} (h : LineIs ln L k) (hc : c.size ≤ 1000) : (ln ++ ⟨#[9, 35]⟩ ++ c).size ≤ 65536 ∧ Pl.wordsOf (ln ++ ⟨#[9, 35]⟩ ++ c).data.toList = some (cutW L k) := by
  have e : (ln ++ ⟨#[9, 35]⟩ ++ c).data.toList = lineL (cutW L k) ++ (9 :: 35 :: c.data.toList) := by
    rw [data_app, data_app, h.1]
    simp
  refine ⟨?_, by rw [e]; exact words_line _ _⟩
  have h1 := h.2
  rw [size_list] at h1 hc ⊢
  rw [data_app, data_app]
  simp only [List.length_append, List.length_cons, List.length_nil]
  omega

theorem tells_line {s : ByteArray} {ws : List (List UInt8)} {w w' : World} {e : Ending} (hs : s.size ≤ 65536) (hw : Pl.wordsOf s.data.toList = some ws) (h : Rf.Tells s w e w') : ∃ A1 c1, e = .returned (.tuple #[.slice A1 ws.length c1, .int .i64 0]) ∧ StrRd w' A1 ws := by
  obtain ⟨_, h⟩ := h
  rcases h with ⟨a1, rfl⟩ | ⟨a1, a2, rfl⟩ | ⟨a1, ws', v, a2, rfl, a3⟩
  · omega
  · rw [hw] at a2; cases a2
  · rw [hw] at a2
    obtain rfl := Option.some.inj a2
    obtain ⟨A1, c1, rfl, h2⟩ := str_rd a3
    exact ⟨A1, c1, rfl, h2⟩
theorem tells_cut {s : ByteArray} {L : List (List UInt8)} {k : Nat} {w w' : World} {e : Ending} (hk : k ≤ L.length) (hs : s.size ≤ 65536 ∧ Pl.wordsOf s.data.toList = some (cutW L k)) (h : Rf.Tells s w e w') : ∃ A1 c1, e = .returned (.tuple #[.slice A1 k c1, .int .i64 0]) ∧ StrRd w' A1 (cutW L k) := by
  obtain ⟨A1, c1, h1, h2⟩ := tells_line hs.1 hs.2 h
  rw [cutW_len L k hk] at h1
  exact ⟨A1, c1, h1, h2⟩
theorem quoteL_x : quoteL [120] = [34, 120, 34] := by decide
theorem quote_x (w : World) : Calls Tryd.prog 11 #[.slice (some ⟨w.heap.size, 0, none⟩) 1 1] (w.alloc (.cells #[.int .u8 120] 5 (1, 2))) fun e w' => e = .returned (.string ⟨#[34, 120, 34]⟩) ∧ Below w.heap.size (w.alloc (.cells #[.int .u8 120] 5 (1, 2))) w' := by
  have hr : Rd (w.alloc (.cells #[.int .u8 120] 5 (1, 2))) (some ⟨w.heap.size, 0, none⟩) [120] := fun j b hj => by
    refine ⟨_, rfl, ?_⟩
    rcases j with _ | j
    · obtain rfl : (120 : UInt8) = b := by simpa using hj
      show (w.alloc (.cells #[.int .u8 120] 5 (1, 2))).cell? ⟨w.heap.size, 0, none⟩ = _
      unfold World.cell?
      rw [(MapKept.heap_alloc w _).1]
      rfl
    · simp at hj
  refine (quote_n (w.alloc (.cells #[.int .u8 120] 5 (1, 2))) _ 1 1 [120] rfl hr (by decide) (by decide)).mono ?_
  rintro e w' ⟨rfl, hb⟩
  rw [quoteL_x]
  exact ⟨rfl, hb.mono ((Below.refl _ w).alloc (Nat.le_refl _) _).size⟩

set_option maxHeartbeats 16000000 in
set_option maxRecDepth 100000 in
/-- The law ShellJoins returns true. -/
theorem walk_joins (A : Option Addr) (n cap : Nat) (L : List (List UInt8)) (c : ByteArray) (w : World) (hE : EscVar w) (h0 : RdRows w A L) (hn : L.length = n) (hnm : n ≤ 9223372036854775807) : Calls Tryd.prog 6 #[.slice A n cap, .string c] w fun e w' => e = .returned (.bool true) ∧ Below w.heap.size w w' := by
  have hw0 := hE.pos
  subst hn
  have HR := Aside0.mk h0
  clear h0
  have kc := fun (w : World) (C : Array Value) (n c : Nat) => Lib.run_convert_bytes_const (P := Tryd.prog) w 33 5 C n c Tryd.underlying33 Tryd.underlying5
  go_enter Tryd.func6, Tryd.ntmps6
  go_wp2
  go_loopw [5, 6, 7] (fun li nn i wr => ∃ (k : Nat) (ln : ByteArray), k ≤ L.length ∧ li = .string ln ∧ nn = .int .i64 k ∧ i = .int .i64 k ∧ Below w.heap.size w wr ∧ Aside0 (LineIs ln L k)) (fun _ _ i _ => L.length - (intOf i).toNat)
  case atStart => exact ⟨0, _, Nat.zero_le _, rfl, rfl, rfl, Below.refl _ _, ⟨rfl, by decide⟩⟩
  case round =>
    obtain ⟨k, ln, hk, rfl, rfl, rfl, hbw, hln⟩ := hrel
    have hBw := hbw.size
    by_cases hlt : k < L.length ∧ ln.size < 20000
    · obtain ⟨hlt, hsz⟩ := hlt
      have hki : (k : Int) < (L.length : Int) := by omega
      have hk0 : (0 : Int) ≤ (k : Int) := Int.natCast_nonneg _
      have hsi : (ln.size : Int) < 20000 := by omega
      obtain ⟨ad, A', c', e, hc, hl, hr⟩ := HR.out.below hbw k L[k] (by simp [hlt])
      cases e
      have hlen4 : (L[k].take 4000).length = min 4000 L[k].length := by simp
      have hql := Qt.quoteL_len (L[k].take 4000)
      have HLN : Aside0 (∀ q, q = (⟨(quoteL (L[k].take 4000)).toArray⟩ : ByteArray) → LineIs (ln ++ ⟨#[32]⟩ ++ q) L (k + 1)) := ⟨fun q hq => line_next hln.out hlt hsz hq⟩
      have hrt := rd_take hr 4000
      generalize hb : L[k] = b at *
      generalize hb4 : b.take 4000 = b4 at *
      clear hb
      have hbig2 : ¬ 9223372036854775807 < ln.size + 1 + (quoteL b4).length := by omega
      clear hql
      have HR4 := Aside0.mk hrt
      clear hr hrt
      by_cases hbig : 4000 < b.length
      · have hbi : (4000 : Int) < (b.length : Int) := by omega
        have hci : (4000 : Int) ≤ (c' : Int) := by omega
        have HQ := Aside0.mk (fun (W : World) (hW : Below wr.heap.size wr W) => quote_n W A' 4000 c' b4 (by omega) (HR4.out.below hW) (by omega) (by omega))
        clear hlen4 hb4
        go_wp2_with fail
        refine (HQ.out wr (Below.refl _ _)).mono ?_
        rintro e W1 ⟨rfl, b1⟩
        have hbw1 := hbw.trans (b1.mono hBw)
        go_wp2
        go_roundw
        case rel => exact ⟨k + 1, _, by omega, rfl, by go_num, by go_num, hbw1, ⟨HLN.out _ rfl⟩⟩
        case measure => simp [intOf]; omega
      · have hbi : ¬ (4000 : Int) < (b.length : Int) := by omega
        have HQ := Aside0.mk (fun (W : World) (hW : Below wr.heap.size wr W) => quote_n W A' b.length c' b4 (by omega) (HR4.out.below hW) (by omega) (by omega))
        clear hlen4 hb4
        go_wp2_with fail
        refine (HQ.out wr (Below.refl _ _)).mono ?_
        rintro e W1 ⟨rfl, b1⟩
        have hbw1 := hbw.trans (b1.mono hBw)
        go_wp2
        go_roundw
        case rel => exact ⟨k + 1, _, by omega, rfl, by go_num, by go_num, hbw1, ⟨HLN.out _ rfl⟩⟩
        case measure => simp [intOf]; omega
    · have hguard : (k = L.length) ∨ (k < L.length ∧ ¬ ln.size < 20000) := by omega
      clear hlt
      rcases hguard with hg | ⟨hg, hs⟩
      · have hki : ¬ (k : Int) < (L.length : Int) := by omega
        clear hg
        have hls := hln.out.2
        go_upto_if 42 with (fail)
        clear hki
        go_cut [1] (fun s1 wx => ∃ c2 : ByteArray, s1 = .string c2 ∧ c2.size ≤ 1000 ∧ wr = wx)
        case first =>
          by_cases hcb : 1000 < c.size
          · have hci : (1000 : Int) < (c.size : Int) := by omega
            go_wp2
            go_meet
            refine ⟨_, rfl, ?_, rfl⟩
            show (c.extract 0 1000).size ≤ 1000
            simp [ByteArray.size_extract]; omega
          · have hci : ¬ (1000 : Int) < (c.size : Int) := by omega
            go_wp2
            go_meet
            exact ⟨_, rfl, by omega, rfl⟩
        case rest =>
          obtain ⟨c2, rfl, hc2, rfl⟩ := hcut
          have hbig3 : ¬ 9223372036854775807 < ln.size + 2 + c2.size := by omega
          have hall := line_all hln.out hc2
          have hall3 : (ln ++ ⟨#[9, 35]⟩ ++ c2).size ≤ 140737488355328 := by omega
          have HW := Aside0.mk (Sh.words (ln ++ ⟨#[9, 35]⟩ ++ c2) wr (hE.below hw0 hbw) hall3)
          have HALL := Aside0.mk hall
          clear hall hall3
          go_wp2_with fail
          refine HW.out.mono ?_
          intro e W1 h1
          have b1 := h1.1
          have hbw1 := hbw.trans (b1.mono hBw)
          obtain ⟨A1, c1, rfl, hst⟩ := tells_cut hk HALL.out h1
          clear h1
          have HS := Aside0.mk hst
          clear hst
          have hkk : (k : Int) = (k : Int) := rfl
          go_wp2
          go_loopw [11] (fun i wx => ∃ j m : Nat, j ≤ k ∧ i = .int .i64 j ∧ wx = W1.drewN m) (fun i _ => k - (intOf i).toNat)
          case atStart => exact ⟨0, 0, by omega, rfl, rfl⟩
          case round =>
            obtain ⟨j, m, hj, rfl, rfl⟩ := hrel
            by_cases hlt : j < k
            · have hki : (j : Int) < (k : Int) := by omega
              have hjl : j < L.length := by omega
              have hkl : (j : Int) < (L.length : Int) := by omega
              have hk0 : (0 : Int) ≤ (j : Int) := Int.natCast_nonneg _
              obtain ⟨ad, A', c', e, hc, hl, hr⟩ := HR.out.below hbw1 j L[j] (by simp [hjl])
              cases e
              obtain ⟨ad1, e, hc1⟩ := HS.out j _ (cutW_get L k j hlt hk)
              cases e
              have hlen4 : (L[j].take 4000).length = min 4000 L[j].length := by simp
              have hrt := rd_take hr 4000
              generalize hb : L[j] = b at *
              generalize hb4 : b.take 4000 = b4 at *
              clear hb
              have HR4 := Aside0.mk hrt
              clear hr hrt
              by_cases hbig : 4000 < b.length
              · have hbi : (4000 : Int) < (b.length : Int) := by omega
                have hci : (4000 : Int) ≤ (c' : Int) := by omega
                have cv : ∀ m, (convert 33 9 (.slice A' 4000 c')).run Tryd.prog (W1.drewN m) = .ok (.string ⟨b4.toArray⟩) (W1.drewN m) := fun m => conv_n c' (by omega) (HR4.out.below (Sh.below_drewN (Below.refl _ _) m)) (by omega)
                clear hlen4 hb4
                go_wp2
                go_quiet (fail)
                go_wp2
                go_roundw
                case rel => exact ⟨j + 1, _, by omega, by go_num, rfl⟩
                case measure => simp [intOf]; omega
              · have hbi : ¬ (4000 : Int) < (b.length : Int) := by omega
                have cv : ∀ m, (convert 33 9 (.slice A' b.length c')).run Tryd.prog (W1.drewN m) = .ok (.string ⟨b4.toArray⟩) (W1.drewN m) := fun m => conv_n c' (by omega) (HR4.out.below (Sh.below_drewN (Below.refl _ _) m)) (by omega)
                clear hlen4 hb4
                go_wp2
                go_quiet (fail)
                go_wp2
                go_roundw
                case rel => exact ⟨j + 1, _, by omega, by go_num, rfl⟩
                case measure => simp [intOf]; omega
            · have hki : ¬ (j : Int) < (k : Int) := by omega
              have HX := Aside0.mk (quote_x (W1.drewN m))
              have hbm := Sh.below_drewN hbw1 m
              clear hlt
              generalize W1.drewN m = W2 at *
              go_wp2_with fail
              refine HX.out.mono ?_
              rintro e W3 ⟨rfl, b3⟩
              have hb3 := (hbm.alloc hbm.size (.cells #[.int .u8 120] 5 (1, 2))).trans (b3.mono hbm.size)
              go_wp2
              go_ret
              exact ⟨rfl, hb3⟩
      · have hki : (k : Int) < (L.length : Int) := by omega
        have hsi : ¬ (ln.size : Int) < 20000 := by omega
        clear hg hs
        have hls := hln.out.2
        go_upto_if 42 with (fail)
        clear hki
        go_cut [1] (fun s1 wx => ∃ c2 : ByteArray, s1 = .string c2 ∧ c2.size ≤ 1000 ∧ wr = wx)
        case first =>
          by_cases hcb : 1000 < c.size
          · have hci : (1000 : Int) < (c.size : Int) := by omega
            go_wp2
            go_meet
            refine ⟨_, rfl, ?_, rfl⟩
            show (c.extract 0 1000).size ≤ 1000
            simp [ByteArray.size_extract]; omega
          · have hci : ¬ (1000 : Int) < (c.size : Int) := by omega
            go_wp2
            go_meet
            exact ⟨_, rfl, by omega, rfl⟩
        case rest =>
          obtain ⟨c2, rfl, hc2, rfl⟩ := hcut
          have hbig3 : ¬ 9223372036854775807 < ln.size + 2 + c2.size := by omega
          have hall := line_all hln.out hc2
          have hall3 : (ln ++ ⟨#[9, 35]⟩ ++ c2).size ≤ 140737488355328 := by omega
          have HW := Aside0.mk (Sh.words (ln ++ ⟨#[9, 35]⟩ ++ c2) wr (hE.below hw0 hbw) hall3)
          have HALL := Aside0.mk hall
          clear hall hall3
          go_wp2_with fail
          refine HW.out.mono ?_
          intro e W1 h1
          have b1 := h1.1
          have hbw1 := hbw.trans (b1.mono hBw)
          obtain ⟨A1, c1, rfl, hst⟩ := tells_cut hk HALL.out h1
          clear h1
          have HS := Aside0.mk hst
          clear hst
          have hkk : (k : Int) = (k : Int) := rfl
          go_wp2
          go_loopw [11] (fun i wx => ∃ j m : Nat, j ≤ k ∧ i = .int .i64 j ∧ wx = W1.drewN m) (fun i _ => k - (intOf i).toNat)
          case atStart => exact ⟨0, 0, by omega, rfl, rfl⟩
          case round =>
            obtain ⟨j, m, hj, rfl, rfl⟩ := hrel
            by_cases hlt : j < k
            · have hki : (j : Int) < (k : Int) := by omega
              have hjl : j < L.length := by omega
              have hkl : (j : Int) < (L.length : Int) := by omega
              have hk0 : (0 : Int) ≤ (j : Int) := Int.natCast_nonneg _
              obtain ⟨ad, A', c', e, hc, hl, hr⟩ := HR.out.below hbw1 j L[j] (by simp [hjl])
              cases e
              obtain ⟨ad1, e, hc1⟩ := HS.out j _ (cutW_get L k j hlt hk)
              cases e
              have hlen4 : (L[j].take 4000).length = min 4000 L[j].length := by simp
              have hrt := rd_take hr 4000
              generalize hb : L[j] = b at *
              generalize hb4 : b.take 4000 = b4 at *
              clear hb
              have HR4 := Aside0.mk hrt
              clear hr hrt
              by_cases hbig : 4000 < b.length
              · have hbi : (4000 : Int) < (b.length : Int) := by omega
                have hci : (4000 : Int) ≤ (c' : Int) := by omega
                have cv : ∀ m, (convert 33 9 (.slice A' 4000 c')).run Tryd.prog (W1.drewN m) = .ok (.string ⟨b4.toArray⟩) (W1.drewN m) := fun m => conv_n c' (by omega) (HR4.out.below (Sh.below_drewN (Below.refl _ _) m)) (by omega)
                clear hlen4 hb4
                go_wp2
                go_quiet (fail)
                go_wp2
                go_roundw
                case rel => exact ⟨j + 1, _, by omega, by go_num, rfl⟩
                case measure => simp [intOf]; omega
              · have hbi : ¬ (4000 : Int) < (b.length : Int) := by omega
                have cv : ∀ m, (convert 33 9 (.slice A' b.length c')).run Tryd.prog (W1.drewN m) = .ok (.string ⟨b4.toArray⟩) (W1.drewN m) := fun m => conv_n c' (by omega) (HR4.out.below (Sh.below_drewN (Below.refl _ _) m)) (by omega)
                clear hlen4 hb4
                go_wp2
                go_quiet (fail)
                go_wp2
                go_roundw
                case rel => exact ⟨j + 1, _, by omega, by go_num, rfl⟩
                case measure => simp [intOf]; omega
            · have hki : ¬ (j : Int) < (k : Int) := by omega
              have HX := Aside0.mk (quote_x (W1.drewN m))
              have hbm := Sh.below_drewN hbw1 m
              clear hlt
              generalize W1.drewN m = W2 at *
              go_wp2_with fail
              refine HX.out.mono ?_
              rintro e W3 ⟨rfl, b3⟩
              have hb3 := (hbm.alloc hbm.size (.cells #[.int .u8 120] 5 (1, 2))).trans (b3.mono hbm.size)
              go_wp2
              go_ret
              exact ⟨rfl, hb3⟩
end Go.Proofs.YtecpdmoieoibnaaDoor.Lw
