/- Proved: the walk of the law ShellQuotes. Conditions: the variable escapes reads as listed. -/
import Derived.Test.YtecpdmoieoibnaaDoorQt2
import Derived.Test.YtecpdmoieoibnaaDoorLw
import Derived.Laws.MakeOwn
import Derived.Laws.CopyOwn
set_option linter.unusedVariables false
set_option linter.unusedSimpArgs false
namespace Go.Proofs.YtecpdmoieoibnaaDoor.Lw
open Go.RowKit Go.Lib Go.Proofs.YtecpdmoieoibnaaDoorW.PrintWords
open Go.Proofs.YtecpdmoieoibnaaDoor.Sh (EscVar)
open Go.Proofs.YtecpdmoieoibnaaDoor.Qt (Rd quoteL)

theorem conv_rd {w : World} {A : Option Addr} {l : List UInt8} (cap : Nat) (h : Rd w A l) (hl : l.length ≤ 16000) : (convert 33 9 (.slice A l.length cap)).run Tryd.prog w = .ok (.string ⟨l.toArray⟩) w := by
  have hlen : (Qt.ints l).length = l.length := by simp [Qt.ints]
  have := Kd.C_string (P := Tryd.prog) (c := cap) Tryd.underlying33 Tryd.underlying5 Tryd.underlying9 (Qt.reads_c h hl)
  rw [hlen] at this
  rw [this]
  simp [strOfNums, Qt.ints, Function.comp_def]

/-- The room: the bytes, then 7s up to place k. -/
def Room (w : World) (R : Nat) (l : List UInt8) (k : Nat) : Prop :=
  ∃ cs : Array Value, w.heap[R]? = some (.cells cs 5 (0, 0)) ∧ cs.size = l.length + 70 ∧ (∀ (j : Nat) (b : UInt8), l[j]? = some b → cs[j]? = some (Value.int .u8 b.toNat)) ∧ ∀ j : Nat, l.length ≤ j → j < k → cs[j]? = some (Value.int .u8 7)
theorem Room.below {w w' : World} {R k : Nat} {l : List UInt8} (h : Room w R l k) (hb : Below w.heap.size w w') : Room w' R l k := by
  obtain ⟨cs, h1, h2⟩ := h
  exact ⟨cs, (hb.block _ (Array.getElem?_eq_some_iff.1 h1).1).trans h1, h2⟩
theorem Room.rd {w : World} {R k : Nat} {l : List UInt8} (h : Room w R l k) : Rd w (some ⟨R, 0, none⟩) l := fun j b hj => by
  obtain ⟨cs, h1, h2, h3, h4⟩ := h
  refine ⟨_, rfl, ?_⟩
  have e : ((⟨R, 0, none⟩ : Addr).add j) = ⟨R, j, none⟩ := by unfold Addr.add; split <;> simp_all
  rw [e]
  simpa [World.cell?, h1] using h3 j b hj
theorem Room.cell {w : World} {R k : Nat} {l : List UInt8} (h : Room w R l k) (j : Nat) (hj : j < l.length + 70) : ∃ v, w.cell? ⟨R, j, none⟩ = some v ∧ w.frozen? ⟨R, j, none⟩ = false ∧ w.heap[R]?.isSome = true := by
  obtain ⟨cs, h1, h2, h3, h4⟩ := h
  have hj' : j < cs.size := by omega
  exact ⟨cs[j], by simp [World.cell?, h1, hj'], Lib.frozen_of_heap h1 j, by simp [h1]⟩
theorem Room.seven {w : World} {R k : Nat} {l : List UInt8} (h : Room w R l k) (j : Nat) (h0 : l.length ≤ j) (hj : j < k) : w.cell? ⟨R, j, none⟩ = some (.int .u8 7) := by
  obtain ⟨cs, h1, h2, h3, h4⟩ := h
  simpa [World.cell?, h1] using h4 j h0 hj
theorem Room.put {w : World} {R k : Nat} {l : List UInt8} (h : Room w R l k) (hk : l.length ≤ k) (hk2 : k < l.length + 70) : Room (w.setCell ⟨R, k, none⟩ (.int .u8 7)) R l (k + 1) := by
  obtain ⟨cs, h1, h2, h3, h4⟩ := h
  refine ⟨cs.setIfInBounds k (.int .u8 7), Rf.heap_put _ h1, by simpa using h2, fun j b hj => ?_, fun j j0 j1 => ?_⟩
  · have hjl : j < l.length := (List.getElem?_eq_some_iff.1 hj).1
    rw [Array.getElem?_setIfInBounds_ne (by omega)]
    exact h3 j b hj
  · by_cases e : k = j
    · subst e
      exact Array.getElem?_setIfInBounds_self_of_lt (by omega)
    · rw [Array.getElem?_setIfInBounds_ne e]
      exact h4 j j0 (by omega)
theorem room_made {w : World} {R : Nat} {l : List UInt8} (h : w.heap[R]? = some (.cells (splice (madeCells #[.int .u8 0] (l.length + 70)).toList 0 (Lib.byteCells l)).toArray 5 (0, 0))) : Room w R l l.length := by
  refine ⟨_, h, ?_, fun j b hj => ?_, fun j j0 j1 => by omega⟩
  · have hm := size_madeCells #[.int .u8 0] (l.length + 70)
    have h2 : (madeCells #[.int .u8 0] (l.length + 70)).toList.length = (madeCells #[.int .u8 0] (l.length + 70)).size := Array.length_toList
    rw [List.size_toArray, length_splice _ _ _ (by rw [Lib.byteCells_length]; omega)]
    omega
  · have hjl : j < (Lib.byteCells l).length := by rw [Lib.byteCells_length]; exact (List.getElem?_eq_some_iff.1 hj).1
    simp only [splice, List.take_zero, List.nil_append, List.getElem?_toArray]
    rw [List.getElem?_append_left hjl]
    simp [Lib.byteCells, hj]
theorem size5 : (Tryd.prog.info? 5).map (·.size) = some 1 := by kernel_rfl
theorem made70 (w : World) (n : Nat) (hn : n ≤ 16000) : (Instr.makeSlice 33 (.int .i64 ((n : Int) + 70)) (.int .i64 ((n : Int) + 70))).run Tryd.prog w = .ok (.slice (some ⟨w.heap.size, 0, none⟩) (n + 70) (n + 70)) (w.alloc (.cells (madeCells #[.int .u8 0] (n + 70)) 5)) := by
  obtain ⟨i0, hi0, hz0, hz1, hz2⟩ := info_parts Rf.info5
  have := run_make (P := Tryd.prog) w 33 5 i0 (.int .u8 0) Tryd.underlying33 hi0 hz0 .i64 .i64 ((n : Int) + 70) ((n : Int) + 70) (by omega) (Int.le_refl _) (by rw [hz2]; omega) (by omega)
  rw [this, hz1]
  have e : ((n : Int) + 70).toNat = n + 70 := by omega
  rw [e, Nat.mul_one]
  rfl
theorem made_heap (w : World) (n : Nat) : (w.alloc (.cells (madeCells #[.int .u8 0] (n + 70)) 5)).heap[w.heap.size]? = some (.cells (madeCells #[.int .u8 0] (n + 70)).toList.toArray 5 (0, 0)) := by
  rw [Array.toArray_toList]
  exact (MapKept.heap_alloc w _).1
theorem copy_len (l : List UInt8) : (Lib.byteCells l).length = Nat.min l.length (l.length + 70) := by rw [Lib.byteCells_length]; exact (Nat.min_eq_left (by omega)).symm
theorem copy_fit (l : List UInt8) : 0 + (Lib.byteCells l).length ≤ (madeCells #[.int .u8 0] (l.length + 70)).toList.length := by
  have h1 := size_madeCells #[.int .u8 0] (l.length + 70)
  have h2 : (madeCells #[.int .u8 0] (l.length + 70)).toList.length = (madeCells #[.int .u8 0] (l.length + 70)).size := Array.length_toList
  rw [Lib.byteCells_length]
  omega
theorem copy_one (l : List UInt8) : ∀ v ∈ Lib.byteCells l, v.oneCell' = true := by
  intro v hv
  simp [Lib.byteCells] at hv
  obtain ⟨b, _, rfl⟩ := hv
  rfl
theorem copy_src {w : World} {A : Option Addr} {l : List UInt8} {o : Obj} (h : Rd w A l) : 0 < (Lib.byteCells l).length → (some (⟨w.heap.size, 0, none⟩ : Addr)) = some ⟨w.heap.size, 0, none⟩ ∧ ∃ ad, A = some ad ∧ ∀ j v, (Lib.byteCells l)[j]? = some v → (w.alloc o).cell? (ad.add j) = some v := by
  intro h0
  rw [Lib.byteCells_length] at h0
  obtain ⟨ad, e, _⟩ := h 0 l[0] (by simp [h0])
  refine ⟨rfl, ad, e, fun j v hj => ?_⟩
  have hj' : ∃ b, l[j]? = some b ∧ Value.int .u8 b.toNat = v := by simpa [Lib.byteCells] using hj
  obtain ⟨b, hb, rfl⟩ := hj'
  obtain ⟨ad', e', hc⟩ := h j b hb
  rw [e] at e'
  cases e'
  exact pw_cell_below ((Below.refl _ w).alloc (Nat.le_refl _) o) hc
theorem tells_quote {l : List UInt8} {w w' : World} {e : Ending} (hl : l.length ≤ 16000) (h : Rf.Tells ⟨(quoteL l).toArray⟩ w e w') : ∃ g cap, e = .returned (.tuple #[.slice (some ⟨g, 0, none⟩) 1 cap, .int .i64 0]) ∧ w'.cell? ⟨g, 0, none⟩ = some (.string ⟨l.toArray⟩) := by
  obtain ⟨_, h⟩ := h
  have hw : Pl.wordsOf (⟨(quoteL l).toArray⟩ : ByteArray).data.toList = some [l] := Qt.words_quote l
  have hsz : (⟨(quoteL l).toArray⟩ : ByteArray).size ≤ 65536 := by
    have := Qt.quoteL_len l
    show (quoteL l).toArray.size ≤ 65536
    rw [List.size_toArray]
    omega
  rcases h with ⟨a1, rfl⟩ | ⟨a1, a2, rfl⟩ | ⟨a1, ws, v, a2, rfl, a3⟩
  · omega
  · rw [hw] at a2; cases a2
  · rw [hw] at a2
    obtain rfl := Option.some.inj a2
    obtain ⟨g, cap, rfl, hc⟩ := row_form a3 (by simp)
    exact ⟨g, cap, rfl, hc 0 _ rfl⟩

set_option maxHeartbeats 16000000 in
set_option maxRecDepth 100000 in
/-- The law ShellQuotes returns true. -/
theorem walk_quotes (A : Option Addr) (n cap : Nat) (l0 : List UInt8) (w : World) (hE : EscVar w) (h0 : Rd w A l0) (hn : l0.length = n) (hc : n ≤ cap) : Calls Tryd.prog 5 #[.slice A n cap] w fun e w' => e = .returned (.bool true) ∧ Below w.heap.size w w' := by
  have hw0 := hE.pos
  obtain ⟨l, hl⟩ : ∃ l, l = l0.take 16000 := ⟨_, rfl⟩
  have hlen : l.length = min 16000 n := by rw [hl, List.length_take, hn]
  have hrd : Rd w A l := fun j b hj => h0 j b (by rw [hl, List.getElem?_take] at hj; split at hj; exact hj; cases hj)
  have hll : l.length ≤ 16000 := by omega
  have hlc : l.length ≤ cap := by omega
  have HRD := Aside0.mk hrd
  have HLEN := Aside0.mk hlen
  have HN := Aside0.mk hn
  clear hl hrd hlen h0 hn
  go_enter Tryd.func5, Tryd.ntmps5
  go_upto_if 12 with (fail)
  go_cut [0] (fun s0 wx => s0 = .slice A l.length cap ∧ w = wx)
  case first =>
    by_cases hbig : 16000 < n
    · have hbi : (16000 : Int) < (n : Int) := by omega
      have hl16 : l.length = 16000 := by have := HLEN.out; omega
      have hci : (16000 : Int) ≤ (cap : Int) := by omega
      have hci2 : 16000 ≤ cap := by omega
      have HL := Aside0.mk hl16
      clear hl16
      go_wp2
      go_meet
      exact ⟨by rw [HL.out], rfl⟩
    · have hbi : ¬ (16000 : Int) < (n : Int) := by omega
      have hl16 : l.length = n := by have := HLEN.out; omega
      have HL := Aside0.mk hl16
      clear hl16
      go_wp2
      go_meet
      exact ⟨by rw [HL.out], rfl⟩
  case rest =>
    obtain ⟨rfl, rfl⟩ := hcut
    clear hc HLEN HN
    have hmk := made70 w l.length hll
    have hgm := made_heap w l.length
    have hcopy := copy_src (o := .cells (madeCells #[.int .u8 0] (l.length + 70)) 5) HRD.out
    go_wp2_with (refine wpList_copy_splice rfl (.tmp 19) (.tmp 20) 33 33 rfl 5 Tryd.underlying33 size5 (some ⟨w.heap.size, 0, none⟩) A (l.length + 70) (l.length + 70) l.length cap rfl rfl w.heap.size 0 _ 5 hgm (Lib.byteCells l) (copy_len l) hcopy (copy_fit l) (copy_one l) w.heap.size w ((Below.refl _ w).alloc (Nat.le_refl _) _) (Nat.le_refl _) ?_; intro W1 hW1 hb1)
    have HR1 := Aside0.mk (room_made hW1)
    clear hW1 hmk hgm hcopy
    go_wp2
    go_loopw [4] (fun i wr => ∃ k : Nat, l.length ≤ k ∧ k ≤ l.length + 70 ∧ i = .int .i64 k ∧ Below w.heap.size w wr ∧ Aside0 (Room wr w.heap.size l k)) (fun i _ => l.length + 70 - (intOf i).toNat)
    case atStart => exact ⟨l.length, Nat.le_refl _, by omega, rfl, hb1, HR1⟩
    case round =>
      obtain ⟨k, hk1, hk2, rfl, hbw, HR⟩ := hrel
      by_cases hlt : k < l.length + 70
      · have hki : (k : Int) < (l.length : Int) + 70 := by omega
        have hk0 : (0 : Int) ≤ (k : Int) := Int.natCast_nonneg _
        obtain ⟨v, hcv, hfz, _⟩ := HR.out.cell k hlt
        go_wp2
        go_roundw
        case rel => exact ⟨k + 1, by omega, by omega, by go_num, hbw.setCell (p := ⟨w.heap.size, k, none⟩) (Nat.le_refl _) _, ⟨HR.out.put hk1 hlt⟩⟩
        case measure => simp [intOf]; omega
      · have hki : ¬ (k : Int) < (l.length : Int) + 70 := by omega
        obtain rfl : k = l.length + 70 := by omega
        have hbw' := hbw.size
        clear hk1 hk2 hlt hki HR1
        go_wp2_with fail
        refine (Qt.shQuote wr (some ⟨w.heap.size, 0, none⟩) (l.length + 70) l HR.out.rd hll (by omega)).mono ?_
        rintro e W2 ⟨rfl, b2⟩
        have hbw2 := hbw.trans (b2.mono hbw')
        have HR2 := Aside0.mk (HR.out.below b2)
        have HRD2 := Aside0.mk (HRD.out.below hbw2)
        clear HR
        go_wp2_with fail
        refine (Qt.refQuote W2 A cap l HRD2.out hll).mono ?_
        rintro e W3 ⟨rfl, b3⟩
        have hbw3 := hbw2.trans (b3.mono hbw2.size)
        have HR3 := Aside0.mk (HR2.out.below b3)
        have hr3 := HRD.out.below hbw3
        have cv1 := conv_rd (l.length + 70) HR3.out.rd hll
        have cv2 := conv_rd cap hr3 hll
        have HRD3 := Aside0.mk hr3
        clear HR2 HRD2 hr3
        go_wp2
        clear cv1 cv2
        go_loopw [7] (fun i wx => ∃ k : Nat, l.length ≤ k ∧ k ≤ l.length + 70 ∧ i = .int .i64 k ∧ W3 = wx) (fun i _ => l.length + 70 - (intOf i).toNat)
        case atStart => first | exact ⟨l.length, Nat.le_refl _, by omega, rfl, rfl⟩ | exact ⟨l.length, Nat.le_refl _, by omega, rfl, trivial⟩
        case round =>
          obtain ⟨k, hk1, hk2, rfl, rfl⟩ := hrel
          by_cases hlt : k < l.length + 70
          · have hki : (k : Int) < (l.length : Int) + 70 := by omega
            have hk0 : (0 : Int) ≤ (k : Int) := Int.natCast_nonneg _
            have hcv := HR3.out.seven k hk1 hlt
            go_wp2
            go_roundw
            case rel => first | exact ⟨k + 1, by omega, by omega, by go_num, rfl⟩ | exact ⟨k + 1, by omega, by omega, by go_num, trivial⟩
            case measure => simp [intOf]; omega
          · have hki : ¬ (k : Int) < (l.length : Int) + 70 := by omega
            clear hk1 hk2 hlt
            have hqs : (⟨(quoteL l).toArray⟩ : ByteArray).size ≤ 140737488355328 := by
              have := Qt.quoteL_len l
              show (quoteL l).toArray.size ≤ 140737488355328
              rw [List.size_toArray]
              omega
            have HWD := Aside0.mk (Sh.words ⟨(quoteL l).toArray⟩ W3 (hE.below hw0 hbw3) hqs)
            clear hqs
            go_wp2_with fail
            refine HWD.out.mono ?_
            intro e W4 h4
            have b4 := h4.1
            have hbw4 := hbw3.trans (b4.mono hbw3.size)
            obtain ⟨g, cap4, rfl, hcell⟩ := tells_quote hll h4
            clear h4
            have HC4 := Aside0.mk (HRD3.out.below b4)
            have cv4 : ∀ m, (convert 33 9 (.slice A l.length cap)).run Tryd.prog (W4.drewN m) = .ok (.string ⟨l.toArray⟩) (W4.drewN m) := fun m => conv_rd cap (HC4.out.below (Sh.below_drewN (Below.refl _ _) m)) hll
            go_wp2
            go_quiet (fail)
            go_wp2
            go_ret
            exact ⟨rfl, Sh.below_drewN hbw4 _⟩
end Go.Proofs.YtecpdmoieoibnaaDoor.Lw
