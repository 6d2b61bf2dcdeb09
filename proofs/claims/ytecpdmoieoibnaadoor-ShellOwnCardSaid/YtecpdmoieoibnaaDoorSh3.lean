/- Proved: the shell's quoted against the byte machine. Conditions: the variable escapes reads as listed. -/
import Derived.Test.YtecpdmoieoibnaaDoorSh2
set_option linter.unusedVariables false
set_option linter.unusedSimpArgs false
namespace Go.Proofs.YtecpdmoieoibnaaDoor.Sh
open Go.RowKit Go.Lib Go.Proofs.YtecpdmoieoibnaaDoorW.PrintWords

theorem grown_of_below {w w' : World} (h : Below w.heap.size w w') : w.grownBy w' none := ⟨h.os, h.tape, h.output, h.size, fun k hk _ => h.block k hk⟩
theorem builder_below {T e : TypeId} {B b : Nat} {bs : List Value} {w w' : World} (h : Lib.IsBuilderF T e B b bs w) (hb : Below w.heap.size w w') : Lib.IsBuilderF T e B b bs w' := by
  have key : ∀ p, Lib.BuilderAtF T e B b p bs w → Lib.BuilderAtF T e B b p bs w' := fun p h => by
    have hlt := h.lt
    obtain ⟨hB, v, hbk, hown, hne⟩ := h
    exact ⟨hB, v, (hb.block b hlt).trans hbk, hown.kept (grown_of_below hb) (by cases hv : v.ownBlock <;> simp), hne⟩
  exact h.imp (key _) (key _)

/-- What quoted answers: n bytes of the line that stand for the word; 0: it is none. -/
def QuoOk (s : ByteArray) (word : ByteArray) (n : Nat) : Prop :=
  (n = 0 ∧ ∀ ws, Pl.run ⟨.quo, [], ws, false⟩ (Pl.from_ s 1) = none) ∨
  (0 < n ∧ n ≤ s.size ∧ ∃ l : List UInt8, word = ⟨l.toArray⟩ ∧ ∀ ws, Pl.run ⟨.quo, [], ws, false⟩ (Pl.from_ s 1) = Pl.run ⟨.btw, [], ws ++ [l], false⟩ (Pl.from_ s n))
def QuoPost (s : ByteArray) (w : World) (e : Ending) (w' : World) : Prop := (∃ word n, e = .returned (.tuple #[.string word, .int .i64 (n : Nat)]) ∧ QuoOk s word n) ∧ Below w.heap.size w w'

/-- At the rune at pos; up to nxt the bytes are taken, into acc. -/
def QAt (s : ByteArray) (pos nxt : Nat) (acc : List UInt8) : Prop :=
  acc.length ≤ nxt ∧ nxt ≤ s.size ∧ pos ≤ s.size ∧
  ((pos ≤ nxt ∧ (∀ k (hk : k < s.size), pos ≤ k → k < nxt → (s[k]'hk).toNat < 128) ∧ ∀ ws, Pl.run ⟨.quo, [], ws, false⟩ (Pl.from_ s 1) = Pl.run ⟨.quo, acc, ws, false⟩ (Pl.from_ s nxt)) ∨
   (nxt ≤ pos ∧ ∀ ws, Pl.run ⟨.quo, [], ws, false⟩ (Pl.from_ s 1) = Pl.run ⟨.quo, acc ++ Pl.cut s nxt pos, ws, false⟩ (Pl.from_ s pos)))

theorem qat_start {s : ByteArray} (h0 : 0 < s.size) (hq : (s[0]'h0).toNat = 34) : QAt s 0 1 [] := by
  refine ⟨by simp, by omega, by omega, .inl ⟨by omega, fun k hk h1 h2 => ?_, fun ws => rfl⟩⟩
  obtain rfl : k = 0 := by omega
  omega
theorem qat_skip {s : ByteArray} {pos nxt : Nat} {acc} (h : QAt s pos nxt acc) (hlt : pos < nxt) : ∃ hp : pos < s.size, (Utf8.decode s pos).2 = 1 ∧ QAt s (pos + 1) nxt acc := by
  obtain ⟨h1, h2, h3, h4 | h4⟩ := h
  · have hp : pos < s.size := by omega
    have ha := h4.2.1 pos hp (Nat.le_refl _) hlt
    refine ⟨hp, by rw [decode_ascii s pos hp ha], h1, h2, by omega, .inl ⟨by omega, fun k hk k1 k2 => h4.2.1 k hk (by omega) k2, h4.2.2⟩⟩
  · omega
/-- The pending bytes are written: up to pos all is taken. -/
def QNow (s : ByteArray) (pos : Nat) (acc : List UInt8) : Prop := acc.length ≤ pos ∧ pos < s.size ∧ ∀ ws, Pl.run ⟨.quo, [], ws, false⟩ (Pl.from_ s 1) = Pl.run ⟨.quo, acc, ws, false⟩ (Pl.from_ s pos)
theorem cut_len (s : ByteArray) (i j : Nat) (h : j ≤ s.size) : (Pl.cut s i j).length = j - i := by
  rw [Pl.cut_eq]
  have e : s.data.toList.length = s.size := by simp
  rw [List.length_take, List.length_drop, e]
  omega
theorem qat_now {s : ByteArray} {pos nxt : Nat} {acc} (h : QAt s pos nxt acc) (hge : nxt ≤ pos) (hp : pos < s.size) : QNow s pos (acc ++ Pl.cut s nxt pos) := by
  obtain ⟨h1, h2, h3, h4 | h4⟩ := h
  · obtain rfl : pos = nxt := by omega
    refine ⟨by rw [Pl.cut_self]; simpa using h1, hp, fun ws => by rw [Pl.cut_self, List.append_nil]; exact h4.2.2 ws⟩
  · refine ⟨?_, hp, h4.2⟩
    rw [List.length_append, cut_len s nxt pos (by omega)]
    omega
theorem qat_none {s : ByteArray} {nxt : Nat} {acc} (h : QAt s s.size nxt acc) (ws) : Pl.run ⟨.quo, [], ws, false⟩ (Pl.from_ s 1) = none := by
  obtain ⟨h1, h2, h3, h4 | h4⟩ := h
  · rw [h4.2.2 ws, Pl.from_ge s nxt (by omega)]; rfl
  · rw [h4.2 ws, Pl.from_ge s _ (Nat.le_refl _)]; rfl
/-- Ways at a rune. -/
theorem qnow_ctl {s : ByteArray} {pos : Nat} {acc} (h : QNow s pos acc) (hr : (Utf8.decode s pos).1 < 32 ∨ (Utf8.decode s pos).1 = 127) (ws) : Pl.run ⟨.quo, [], ws, false⟩ (Pl.from_ s 1) = none := by
  obtain ⟨h1, h2, h3⟩ := h
  have hl := decode_low s pos h2 (by omega)
  have hc : Pl.isCtl (s[pos]'h2) = true := by simp [Pl.isCtl, hl.1]; omega
  rw [h3 ws, Pl.from_lt s pos h2, Pl.run_cons _ _ _ rfl]
  refine Pl.run_bad _ _ ?_
  simp only [Pl.step, Pl.inside, hl.1]
  rw [if_neg (by omega), if_neg (by omega), hc]
  rfl
theorem qnow_next {s : ByteArray} {pos : Nat} {acc} (h : QNow s pos acc) (n1 : ¬ (Utf8.decode s pos).1 < 32) (n2 : (Utf8.decode s pos).1 ≠ 127) (n3 : (Utf8.decode s pos).1 ≠ 34) (n4 : (Utf8.decode s pos).1 ≠ 92) : QAt s (pos + (Utf8.decode s pos).2) pos acc := by
  obtain ⟨h1, h2, h3⟩ := h
  have hd := decode_bound s pos h2
  refine ⟨h1, by omega, hd.2, .inr ⟨by omega, fun ws => ?_⟩⟩
  rw [h3 ws]
  by_cases hlo : (s[pos]'h2).toNat < 128
  · have hdd := decode_ascii s pos h2 hlo
    rw [hdd] at n1 n2 n3 n4 ⊢
    have hc : Pl.isCtl (s[pos]'h2) = false := by simp [Pl.isCtl]; omega
    rw [Pl.from_lt s pos h2, Pl.run_cons _ _ _ rfl, Pl.cut_snoc s pos pos (Nat.le_refl _) h2, Pl.cut_self]
    simp only [Pl.step, Pl.inside]
    rw [if_neg n3, if_neg n4, hc]
    rfl
  · have ht := Pl.decode_tail s pos h2 (by omega)
    exact Pl.run_quo_high s ws _ pos _ ht.1 ht.2
theorem qnow_esc {s : ByteArray} {pos : Nat} {acc} (h : QNow s pos acc) (hr : (Utf8.decode s pos).1 = 92) (ws) : Pl.run ⟨.quo, [], ws, false⟩ (Pl.from_ s 1) = Pl.run ⟨.esc, acc, ws, false⟩ (Pl.from_ s (pos + 1)) := by
  obtain ⟨h1, h2, h3⟩ := h
  have hl := decode_low s pos h2 (by omega)
  rw [h3 ws, Pl.from_lt s pos h2, Pl.run_cons _ _ _ rfl]
  simp [Pl.step, Pl.inside, hl.1, hr]
theorem from_from (s : ByteArray) (p k : Nat) : Pl.from_ (s.extract p s.size) k = Pl.from_ s (p + k) := by
  unfold Pl.from_
  have := Pl.from_extract s p
  unfold Pl.from_ at this
  rw [this, List.drop_drop]
theorem get_from (s : ByteArray) (p k : Nat) (h : k < (s.extract p s.size).size) (h' : p + k < s.size) : (s.extract p s.size)[k]'h = s[p + k]'h' := by
  have a := from_from s p k
  rw [Pl.from_lt _ k h, Pl.from_lt s (p + k) h'] at a
  exact (List.cons.inj a).1
theorem qnow_escNone {s : ByteArray} {pos : Nat} {acc} (h : QNow s pos acc) (hr : (Utf8.decode s pos).1 = 92) {x : Int} (he : EscOk (s.extract pos s.size) x 0) (ws) : Pl.run ⟨.quo, [], ws, false⟩ (Pl.from_ s 1) = none := by
  rw [qnow_esc h hr ws]
  rcases he with ⟨_, he⟩ | ⟨h2, _⟩
  · have := he acc ws
    rw [from_from] at this
    exact this
  · omega
theorem qnow_escOk {s : ByteArray} {pos n : Nat} {acc} (h : QNow s pos acc) (hr : (Utf8.decode s pos).1 = 92) {x : Int} (hn : n ≠ 0) (he : EscOk (s.extract pos s.size) x n) : 0 ≤ x ∧ x ≤ 255 ∧ pos + n ≤ s.size ∧ (Utf8.decode s pos).2 = 1 ∧ QAt s (pos + 1) (pos + n) (acc ++ [Pl.byteOf x]) := by
  have hsz : (s.extract pos s.size).size = s.size - pos := by simp
  have hl := decode_low s pos h.2.1 (by omega)
  rcases he with ⟨h0, _⟩ | ⟨h2, h3, h4, h5, h6, h7⟩
  · omega
  · have hp := h.2.1
    refine ⟨h4, h5, by omega, hl.2, by have := h.1; simp; omega, by omega, by omega, .inl ⟨by omega, fun k hk k1 k2 => ?_, fun ws => ?_⟩⟩
    · have := h6 (k - pos) (by omega) (by omega) (by omega)
      rw [get_from s pos (k - pos) (by omega) (by omega)] at this
      simpa [show pos + (k - pos) = k by omega] using this
    · rw [qnow_esc h hr ws]
      have := h7 acc ws
      rw [from_from, from_from] at this
      exact this
theorem qnow_quote {s : ByteArray} {pos : Nat} {acc} (h : QNow s pos acc) (hr : (Utf8.decode s pos).1 = 34) (ws) : Pl.run ⟨.quo, [], ws, false⟩ (Pl.from_ s 1) = Pl.run ⟨.behind, [], ws ++ [acc], false⟩ (Pl.from_ s (pos + 1)) := by
  obtain ⟨h1, h2, h3⟩ := h
  have hl := decode_low s pos h2 (by omega)
  rw [h3 ws, Pl.from_lt s pos h2, Pl.run_cons _ _ _ rfl]
  simp [Pl.step, Pl.inside, Pl.ends, hl.1, hr]
theorem behind_end {s : ByteArray} (w : List UInt8) (ws) : Pl.run ⟨.behind, w, ws, false⟩ (Pl.from_ s s.size) = Pl.run ⟨.btw, w, ws, false⟩ (Pl.from_ s s.size) := by
  rw [Pl.from_ge s _ (Nat.le_refl _)]; rfl
theorem behind_blank {s : ByteArray} {k : Nat} (h : k < s.size) (hb : Pl.blankP (s[k]'h).toNat = true) (w : List UInt8) (ws) : Pl.run ⟨.behind, w, ws, false⟩ (Pl.from_ s k) = Pl.run ⟨.btw, w, ws, false⟩ (Pl.from_ s k) := by
  have hk : Pl.isBlank (s[k]'h) = true := hb
  rw [Pl.from_lt s k h, Pl.run_cons _ _ _ rfl, Pl.run_cons _ _ _ rfl]
  simp [Pl.step, Pl.first, hk]
theorem behind_no {s : ByteArray} {k : Nat} (h : k < s.size) (hb : Pl.blankP (s[k]'h).toNat = false) (w : List UInt8) (ws) : Pl.run ⟨.behind, w, ws, false⟩ (Pl.from_ s k) = none := by
  have hk : Pl.isBlank (s[k]'h) = false := hb
  rw [Pl.from_lt s k h, Pl.run_cons _ _ _ rfl]
  exact Pl.run_bad _ _ (by simp [Pl.step, hk])
theorem wrap32_byte (c : UInt8) : wrap32 (c.toNat : Int) = (c.toNat : Int) := by have := Pl.byte_lt c; unfold wrap32; omega
theorem quo_ways (r : Nat) : (r = 34) ∨ (r ≠ 34 ∧ r = 92) ∨ (r ≠ 34 ∧ r ≠ 92 ∧ r < 32) ∨ (r ≠ 34 ∧ r ≠ 92 ∧ ¬ r < 32 ∧ r = 127) ∨ (r ≠ 34 ∧ r ≠ 92 ∧ ¬ r < 32 ∧ r ≠ 127) := by omega
theorem strCells_cut (s : ByteArray) (i j : Nat) : Lib.strCells (s.extract i j) = Lib.byteCells (Pl.cut s i j) := by rw [Lib.strCells_eq]; rfl

set_option maxHeartbeats 16000000 in
set_option maxRecDepth 100000 in
theorem quoted (s : ByteArray) (w : World) (hE : EscVar w) (hs : s.size ≤ 65536) (h0 : 0 < s.size) (hq : (s[0]'h0).toNat = 34) : Calls Tryd.prog 16 #[.string s] w (QuoPost s w) := by
  have hw0 := hE.pos
  go_enter Tryd.func16, Tryd.ntmps16
  go_wp2
  go_step3
  go_wp2
  go_step3
  go_wp2
  go_loopw [5, 6] (fun nx en wr => ∃ (pos nxt : Nat) (acc : List UInt8), nx = .int .i64 nxt ∧ en = .int .i64 0 ∧ wr.heap[w.heap.size + 1]? = some (.stringIter s pos) ∧ Below w.heap.size w wr ∧ Lib.IsBuilderF 50 5 w.heap.size w.heap.size (Lib.byteCells acc) wr ∧ Aside0 (QAt s pos nxt acc)) (fun _ _ wr => s.size - wr.iterPos (w.heap.size + 1))
  case atStart =>
    refine ⟨0, 1, [], rfl, rfl, ?_, ((Below.refl _ w).alloc (Nat.le_refl _) _).alloc (by simp) _, (Lib.IsBuilderF.of (Lib.fresh_isBuilder 50 5 w)).alloc _, ⟨qat_start h0 hq⟩⟩
    have := World.iter_heap (w.alloc (.cells #[.pointer none, .slice none 0 0] 50)) s 0
    simpa using this
  case round =>
    obtain ⟨pos, nxt, acc, rfl, rfl, hit, hbw, hI, ha⟩ := hrel
    have hsz : w.heap.size + 1 < wr.heap.size := (Array.getElem?_eq_some_iff.1 hit).1
    have hq1 := ha.out.1
    have hq2 := ha.out.2.1
    have hq3 := ha.out.2.2.1
    by_cases hlt : pos < s.size
    · have hnx : ∀ ty, (Instr.next (.pointer (some ⟨w.heap.size + 1, 0, none⟩)) true ty).run Tryd.prog wr = _ := fun ty => Lib.run_next_any_at wr (w.heap.size + 1) s pos ty hit hlt
      have hI2 := hI.iterAt hit (pos + (Utf8.decode s pos).2)
      have hit2 := Lib.iterAt_heap wr (w.heap.size + 1) s pos (pos + (Utf8.decode s pos).2) hit
      have hbw2 := Lib.below_iterAt hbw (k := w.heap.size + 1) (by omega) s (pos + (Utf8.decode s pos).2)
      have hsz2 : w.heap.size ≤ (wr.iterAt (w.heap.size + 1) s (pos + (Utf8.decode s pos).2)).heap.size := by rw [Lib.iterAt_size]; omega
      have hdb := decode_bound s pos hlt
      by_cases hsk : pos < nxt
      · obtain ⟨_, hd1, hQ⟩ := qat_skip ha.out hsk
        have hski : (pos : Int) < (nxt : Int) := by omega
        have HQ := Aside0.mk hQ
        have HD := Aside0.mk hd1
        clear hQ hd1
        go_wp2
        go_roundw
        case rel => exact ⟨pos + 1, nxt, acc, rfl, rfl, by simpa only [HD.out] using hit2, hbw2, hI2, HQ⟩
        case measure =>
          have hd1 := HD.out
          simp only [World.iterPos, hit2, hit]
          omega
      · have hski : ¬ (pos : Int) < (nxt : Int) := by omega
        have hN := qat_now ha.out (by omega) hlt
        have hex : (s.extract nxt pos).size = pos - nxt := by simp; omega
        have hst := Bld.writeString w.heap.size w.heap.size _ (s.extract nxt pos) _ hI2 (by rw [Lib.byteCells_length, hex]; omega) hsz2
        have hb0 : (0 : Int) ≤ (nxt : Int) := Int.natCast_nonneg _
        have hb1 : (nxt : Int) ≤ (pos : Int) := by omega
        have hb2 : (pos : Int) ≤ (s.size : Int) := by omega
        have HST := Aside0.mk hst
        have HN := Aside0.mk hN
        clear hst hN hex
        rcases quo_ways (Utf8.decode s pos).1 with t0 | ⟨t0, t1⟩ | ⟨t0, t1, t2⟩ | ⟨t0, t1, t2, t3⟩ | ⟨t0, t1, t2, t3⟩
        · have HQ : Aside0 (∀ ws, Pl.run ⟨.quo, [], ws, false⟩ (Pl.from_ s 1) = Pl.run ⟨.behind, [], ws ++ [acc ++ Pl.cut s nxt pos], false⟩ (Pl.from_ s (pos + 1))) := ⟨fun ws => qnow_quote HN.out t0 ws⟩
          have e0 : (((Utf8.decode s pos).1 : Int) == 34) = true := n_is (k := 34) t0
          clear t0
          have ez : (((pos : Int) + 1) == 0) = false := by simp; omega
          by_cases hend : pos + 1 < s.size
          · have hei : ((pos : Int) + 1) < (s.size : Int) := by omega
            have hei0 : (0 : Int) ≤ (pos : Int) + 1 := by omega
            have hton : ((pos : Int) + 1).toNat = pos + 1 := by omega
            cases hbl : Pl.blankP (s[pos + 1]'hend).toNat with
            | true =>
              have HR : Aside0 (QuoOk s ⟨(acc ++ Pl.cut s nxt pos).toArray⟩ (pos + 1)) := ⟨.inr ⟨by omega, by omega, _, rfl, fun ws => by rw [HQ.out ws, behind_blank hend hbl]⟩⟩
              go_wp2_with fail
              refine HST.out.mono ?_
              rintro e W1 ⟨rfl, h1, b1, k1⟩
              have hit3 := k1.iter hit2 (by omega)
              have hbw3 := hbw2.trans b1
              have hI3 : Lib.IsBuilderF 50 5 w.heap.size w.heap.size (Lib.byteCells (acc ++ Pl.cut s nxt pos)) W1 := by rw [Lib.byteCells_append, ← strCells_cut]; exact Or.inr h1
              clear h1 k1
              go_wp2_with fail
              rw [wrap32_byte]
              refine (blank _ _).mono ?_
              rintro e w' ⟨rfl, rfl⟩
              go_wp2_with fail
              refine (Tryd.Builder_String_any_k w.heap.size w.heap.size _ _ hI3 (by have := hbw3.size; omega)).mono ?_
              rintro e W2 ⟨rfl, _, b2, _⟩
              go_wp2
              rw [Exit.noGoto_ret]
              go_ret2
              exact ⟨⟨_, pos + 1, rfl, HR.out⟩, hbw3.trans b2⟩
            | false =>
              have HR : Aside0 (QuoOk s ⟨#[]⟩ 0) := ⟨.inl ⟨rfl, fun ws => by rw [HQ.out ws, behind_no hend hbl]⟩⟩
              go_wp2_with fail
              refine HST.out.mono ?_
              rintro e W1 ⟨rfl, h1, b1, k1⟩
              have hit3 := k1.iter hit2 (by omega)
              have hbw3 := hbw2.trans b1
              have hI3 : Lib.IsBuilderF 50 5 w.heap.size w.heap.size (Lib.byteCells (acc ++ Pl.cut s nxt pos)) W1 := by rw [Lib.byteCells_append, ← strCells_cut]; exact Or.inr h1
              clear h1 k1
              go_wp2_with fail
              rw [wrap32_byte]
              refine (blank _ _).mono ?_
              rintro e w' ⟨rfl, rfl⟩
              go_wp2
              rw [Exit.noGoto_ret]
              go_ret2
              exact ⟨⟨_, 0, rfl, HR.out⟩, hbw3⟩
          · have hei : ¬ ((pos : Int) + 1) < (s.size : Int) := by omega
            have HR : Aside0 (QuoOk s ⟨(acc ++ Pl.cut s nxt pos).toArray⟩ (pos + 1)) := ⟨.inr ⟨by omega, by omega, _, rfl, fun ws => by rw [HQ.out ws, show pos + 1 = s.size by omega, behind_end]⟩⟩
            go_wp2_with fail
            refine HST.out.mono ?_
            rintro e W1 ⟨rfl, h1, b1, k1⟩
            have hit3 := k1.iter hit2 (by omega)
            have hbw3 := hbw2.trans b1
            have hI3 : Lib.IsBuilderF 50 5 w.heap.size w.heap.size (Lib.byteCells (acc ++ Pl.cut s nxt pos)) W1 := by rw [Lib.byteCells_append, ← strCells_cut]; exact Or.inr h1
            clear h1 k1
            go_wp2_with fail
            refine (Tryd.Builder_String_any_k w.heap.size w.heap.size _ _ hI3 (by have := hbw3.size; omega)).mono ?_
            rintro e W2 ⟨rfl, _, b2, _⟩
            go_wp2
            rw [Exit.noGoto_ret]
            go_ret2
            exact ⟨⟨_, pos + 1, rfl, HR.out⟩, hbw3.trans b2⟩
        · have hr92 := t1
          have e0 : (((Utf8.decode s pos).1 : Int) == 34) = false := n_not (k := 34) t0
          have e1 : (((Utf8.decode s pos).1 : Int) == 92) = true := n_is (k := 92) t1
          clear t0 t1
          have hsx : (s.extract pos s.size).size ≤ 65536 := by simp; omega
          have HS := Aside0.mk hsx
          have H92 := Aside0.mk hr92
          clear hsx hr92
          go_wp2_with fail
          refine HST.out.mono ?_
          rintro e W1 ⟨rfl, h1, b1, k1⟩
          have hit3 := k1.iter hit2 (by omega)
          have hbw3 := hbw2.trans b1
          have hI3 : Lib.IsBuilderF 50 5 w.heap.size w.heap.size (Lib.byteCells (acc ++ Pl.cut s nxt pos)) W1 := by rw [Lib.byteCells_append, ← strCells_cut]; exact Or.inr h1
          clear h1 k1
          go_wp2_with fail
          refine (escape _ W1 (hE.below hw0 hbw3) HS.out).mono ?_
          rintro e W2 ⟨⟨x, n, rfl, hx⟩, b2⟩
          have hI4 := builder_below hI3 b2
          have hit4 : W2.heap[w.heap.size + 1]? = some (.stringIter s (pos + (Utf8.decode s pos).2)) := (b2.block _ (Array.getElem?_eq_some_iff.1 hit3).1).trans hit3
          have hbw4 := hbw3.trans (b2.mono hbw3.size)
          have hsz4 : w.heap.size ≤ W2.heap.size := by have := hbw4.size; omega
          by_cases hn : n = 0
          · subst hn
            have HR : Aside0 (QuoOk s ⟨#[]⟩ 0) := ⟨.inl ⟨rfl, fun ws => qnow_escNone HN.out H92.out hx ws⟩⟩
            clear hx
            go_wp2
            rw [Exit.noGoto_ret]
            go_ret2
            exact ⟨⟨_, 0, rfl, HR.out⟩, hbw4⟩
          · obtain ⟨x0, x1, x2, x3, x4⟩ := qnow_escOk HN.out H92.out hn hx
            have hn0 : ((n : Int) == 0) = false := n_not (k := 0) hn
            have hal := HN.out.1
            have hwb := Bld.writeByte w.heap.size w.heap.size _ x _ hI4 (by rw [Lib.byteCells_length]; omega) hsz4
            have HWB := Aside0.mk hwb
            have HX3 := Aside0.mk x3
            have HX4 := Aside0.mk x4
            have HX0 := Aside0.mk x0
            have HX1 := Aside0.mk x1
            clear hwb x3 x4 hx hn hal x0 x1
            go_wp2_with fail
            refine HWB.out.mono ?_
            rintro e W3 ⟨rfl, h3, b3, k3⟩
            have hit5 := k3.iter hit4 (by omega)
            have hbw5 := hbw4.trans b3
            have hI5 : Lib.IsBuilderF 50 5 w.heap.size w.heap.size (Lib.byteCells (acc ++ Pl.cut s nxt pos ++ [Pl.byteOf x])) W3 := by
              rw [Lib.byteCells_append _ [Pl.byteOf x]]
              have : Lib.byteCells [Pl.byteOf x] = [.int .u8 x] := by simp [Lib.byteCells, Rf.byteOf_toNat HX0.out HX1.out]
              rw [this]
              exact Or.inr h3
            clear h3 k3
            go_wp2
            go_roundw
            case rel => exact ⟨pos + 1, pos + n, _, by go_num, rfl, by simpa only [HX3.out] using hit5, hbw5, hI5, HX4⟩
            case measure =>
              have hd1 := HX3.out
              simp only [World.iterPos, hit5, hit]
              omega
        · have HR : Aside0 (QuoOk s ⟨#[]⟩ 0) := ⟨.inl ⟨rfl, fun ws => qnow_ctl HN.out (.inl t2) ws⟩⟩
          have e0 : (((Utf8.decode s pos).1 : Int) == 34) = false := n_not (k := 34) t0
          have e1 : (((Utf8.decode s pos).1 : Int) == 92) = false := n_not (k := 92) t1
          have e2 : ((Utf8.decode s pos).1 : Int) < 32 := by omega
          clear t0 t1 t2
          go_wp2_with fail
          refine HST.out.mono ?_
          rintro e W1 ⟨rfl, h1, b1, k1⟩
          have hit3 := k1.iter hit2 (by omega)
          have hbw3 := hbw2.trans b1
          have hI3 : Lib.IsBuilderF 50 5 w.heap.size w.heap.size (Lib.byteCells (acc ++ Pl.cut s nxt pos)) W1 := by rw [Lib.byteCells_append, ← strCells_cut]; exact Or.inr h1
          clear h1 k1
          go_wp2
          rw [Exit.noGoto_ret]
          go_ret2
          exact ⟨⟨_, 0, rfl, HR.out⟩, hbw3⟩
        · have HR : Aside0 (QuoOk s ⟨#[]⟩ 0) := ⟨.inl ⟨rfl, fun ws => qnow_ctl HN.out (.inr t3) ws⟩⟩
          have e0 : (((Utf8.decode s pos).1 : Int) == 34) = false := n_not (k := 34) t0
          have e1 : (((Utf8.decode s pos).1 : Int) == 92) = false := n_not (k := 92) t1
          have e2 : ¬ ((Utf8.decode s pos).1 : Int) < 32 := by omega
          have e3 : (((Utf8.decode s pos).1 : Int) == 127) = true := n_is (k := 127) t3
          clear t0 t1 t2 t3
          go_wp2_with fail
          refine HST.out.mono ?_
          rintro e W1 ⟨rfl, h1, b1, k1⟩
          have hit3 := k1.iter hit2 (by omega)
          have hbw3 := hbw2.trans b1
          have hI3 : Lib.IsBuilderF 50 5 w.heap.size w.heap.size (Lib.byteCells (acc ++ Pl.cut s nxt pos)) W1 := by rw [Lib.byteCells_append, ← strCells_cut]; exact Or.inr h1
          clear h1 k1
          go_wp2
          rw [Exit.noGoto_ret]
          go_ret2
          exact ⟨⟨_, 0, rfl, HR.out⟩, hbw3⟩
        · have HR : Aside0 (QAt s (pos + (Utf8.decode s pos).2) pos (acc ++ Pl.cut s nxt pos)) := ⟨qnow_next HN.out t2 t3 t0 t1⟩
          have e0 : (((Utf8.decode s pos).1 : Int) == 34) = false := n_not (k := 34) t0
          have e1 : (((Utf8.decode s pos).1 : Int) == 92) = false := n_not (k := 92) t1
          have e2 : ¬ ((Utf8.decode s pos).1 : Int) < 32 := by omega
          have e3 : (((Utf8.decode s pos).1 : Int) == 127) = false := n_not (k := 127) t3
          clear t0 t1 t2 t3
          go_wp2_with fail
          refine HST.out.mono ?_
          rintro e W1 ⟨rfl, h1, b1, k1⟩
          have hit3 := k1.iter hit2 (by omega)
          have hbw3 := hbw2.trans b1
          have hI3 : Lib.IsBuilderF 50 5 w.heap.size w.heap.size (Lib.byteCells (acc ++ Pl.cut s nxt pos)) W1 := by rw [Lib.byteCells_append, ← strCells_cut]; exact Or.inr h1
          clear h1 k1
          go_wp2
          go_roundw
          case rel => exact ⟨_, pos, _, rfl, rfl, hit3, hbw3, hI3, HR⟩
          case measure =>
            simp only [World.iterPos, hit3, hit]
            omega
    · have hnx : ∀ ty, (Instr.next (.pointer (some ⟨w.heap.size + 1, 0, none⟩)) true ty).run Tryd.prog wr = _ := fun ty => Lib.run_next_end_at wr (w.heap.size + 1) s pos ty hit hlt
      obtain rfl : pos = s.size := by omega
      have HR : Aside0 (QuoOk s ⟨#[]⟩ 0) := ⟨.inl ⟨rfl, fun ws => qat_none ha.out ws⟩⟩
      clear hq3
      go_wp2
      rw [Exit.noGoto_ret]
      go_ret2
      exact ⟨⟨_, 0, rfl, HR.out⟩, hbw⟩
end Go.Proofs.YtecpdmoieoibnaaDoor.Sh
