/- Proved: the shell's blank, bare, escape against the byte machine. Conditions: none. -/
import Derived.Test.YtecpdmoieoibnaaDoorRef2
import Derived.Test.YtecpdmoieoibnaaDoorBld
set_option linter.unusedVariables false
set_option linter.unusedSimpArgs false
namespace Go.Proofs.YtecpdmoieoibnaaDoor.Sh
open Go.RowKit Go.Lib Go.Proofs.YtecpdmoieoibnaaDoorW.PrintWords

theorem nat_eq (a k : Nat) : ((a : Int) == (k : Int)) = (a == k) := by rw [Bool.eq_iff_iff]; simp; omega

theorem blank (r : Nat) (w : World) : Calls Tryd.prog 14 #[.int .i32 r] w fun e w' => e = .returned (.bool (Pl.blankP r)) ∧ w = w' := by
  by_cases h : r = 32
  · have e1 : ((r : Int) == 32) = true := (nat_eq r 32).trans (by simpa using h)
    have HE : Aside0 (Pl.blankP r = true) := ⟨by simp [Pl.blankP, h]⟩
    clear h
    go_enter Tryd.func14, Tryd.ntmps14
    go_wp2
    go_ret
    exact ⟨by rw [HE.out]; rfl, rfl⟩
  · have e1 : ((r : Int) == 32) = false := (nat_eq r 32).trans (by simpa using h)
    have HE : Aside0 (Pl.blankP r = ((r : Int) == 9)) := ⟨by rw [show ((r : Int) == 9) = (r == 9) from nat_eq r 9]; simp [Pl.blankP, h]⟩
    clear h
    go_enter Tryd.func14, Tryd.ntmps14
    go_wp2
    go_ret
    exact ⟨by rw [HE.out]; rfl, rfl⟩

theorem blankPred (w : World) : PredAt Tryd.prog 14 #[] encR Pl.blankP w := fun W r _ => by
  unfold FnGives
  exact (blank r W).mono fun e w' ⟨h1, h2⟩ => ⟨h1, 0, h2.symm⟩
theorem enters14 : ∀ args w, (callFunc 14 args).run Tryd.prog w = .ok (.enter 14 args) w := enters_of Tryd.func14 (by kernel_rfl) rfl

theorem trim (s : ByteArray) (w : World) : Calls Tryd.prog 13 #[.string s, .func (.func 14) #[] #[]] w fun e w' => e = .returned (.string (Lib.trimLeftF Pl.blankP s)) ∧ Below w.heap.size w w' :=
  Tryd.strings_TrimLeftFunc 14 #[] enters14 Pl.blankP s w (blankPred w)

/-- What bare answers: n bytes of the word; 0: it is none. -/
def BareOk (s : ByteArray) (word : ByteArray) (n : Nat) : Prop :=
  (n = 0 ∧ ∀ wd ws, Pl.run ⟨.bare, wd, ws, false⟩ s.data.toList = none) ∨
  (0 < n ∧ n ≤ s.size ∧ word = s.extract 0 n ∧ ∀ wd ws, Pl.run ⟨.bare, wd, ws, false⟩ s.data.toList = Pl.run ⟨.btw, [], ws ++ [wd ++ Pl.cut s 0 n], false⟩ (Pl.from_ s n))
def BarePost (s : ByteArray) (w : World) (e : Ending) (w' : World) : Prop := (∃ word n, e = .returned (.tuple #[.string word, .int .i64 (n : Nat)]) ∧ BareOk s word n) ∧ Below w.heap.size w w'

def BareAt (s : ByteArray) (pos : Nat) : Prop := ∀ wd ws, Pl.run ⟨.bare, wd, ws, false⟩ s.data.toList = Pl.run ⟨.bare, wd ++ Pl.cut s 0 pos, ws, false⟩ (Pl.from_ s pos)
theorem bareAt_zero (s : ByteArray) : BareAt s 0 := fun wd ws => by rw [Pl.cut_self, List.append_nil]; rfl
theorem cut_join (s : ByteArray) (i j : Nat) (h : i ≤ j) : Pl.cut s 0 i ++ Pl.cut s i j = Pl.cut s 0 j := by
  rw [Pl.cut_eq, Pl.cut_eq, Pl.cut_eq]
  simp only [List.drop_zero, Nat.sub_zero]
  rw [show j = i + (j - i) by omega, List.take_add]
  congr 2
  omega
theorem decode_bound (s : ByteArray) (pos : Nat) (h : pos < s.size) : pos < pos + (Utf8.decode s pos).2 ∧ pos + (Utf8.decode s pos).2 ≤ s.size := by
  by_cases ha : (s[pos]'h).toNat < 128
  · rw [decode_ascii s pos h ha]; simp; omega
  · have h1 := decode_high s pos h (by omega)
    have h2 := Pl.decode_tail s pos h (by omega)
    omega
theorem decode_low (s : ByteArray) (pos : Nat) (h : pos < s.size) (hr : (Utf8.decode s pos).1 < 128) : (s[pos]'h).toNat = (Utf8.decode s pos).1 ∧ (Utf8.decode s pos).2 = 1 := by
  by_cases ha : (s[pos]'h).toNat < 128
  · rw [decode_ascii s pos h ha]; exact ⟨rfl, rfl⟩
  · have h1 := decode_high s pos h (by omega)
    omega
theorem blankP_lt {r : Nat} (h : Pl.blankP r = true) : r < 128 := by
  simp [Pl.blankP] at h
  omega
theorem bareAt_blank {s : ByteArray} {pos : Nat} (h : pos < s.size) (ha : BareAt s pos) (hb : Pl.blankP (Utf8.decode s pos).1 = true) (wd ws) :
    Pl.run ⟨.bare, wd, ws, false⟩ s.data.toList = Pl.run ⟨.btw, [], ws ++ [wd ++ Pl.cut s 0 pos], false⟩ (Pl.from_ s pos) ∧ Pl.isBlank (s[pos]'h) = true := by
  have hl := decode_low s pos h (blankP_lt hb)
  have hk : Pl.isBlank (s[pos]'h) = true := by
    unfold Pl.isBlank
    rw [hl.1]
    exact hb
  refine ⟨?_, hk⟩
  rw [ha wd ws, Pl.from_lt s pos h, Pl.run_cons _ _ _ rfl, Pl.run_cons _ _ _ rfl]
  simp [Pl.step, Pl.first, Pl.ends, hk]
def barR (r : Nat) : Prop := r < 32 ∨ r = 127 ∨ r = 34 ∨ r = 92
theorem bareAt_bar {s : ByteArray} {pos : Nat} (h : pos < s.size) (ha : BareAt s pos) (hn : Pl.blankP (Utf8.decode s pos).1 = false) (hb : barR (Utf8.decode s pos).1) (wd ws) :
    Pl.run ⟨.bare, wd, ws, false⟩ s.data.toList = none := by
  have hl := decode_low s pos h (by unfold barR at hb; omega)
  have hk : Pl.isBlank (s[pos]'h) = false := by unfold Pl.isBlank; rw [hl.1]; exact hn
  have hc : Pl.isBar (s[pos]'h) = true := by
    unfold barR at hb
    simp [Pl.isBar, hl.1]
    omega
  rw [ha wd ws, Pl.from_lt s pos h, Pl.run_cons _ _ _ rfl]
  exact Pl.run_bad _ _ (by simp [Pl.step, Pl.plain, hk, hc])
theorem bareAt_next {s : ByteArray} {pos : Nat} (h : pos < s.size) (ha : BareAt s pos) (hn : Pl.blankP (Utf8.decode s pos).1 = false) (hb : ¬ barR (Utf8.decode s pos).1) : BareAt s (pos + (Utf8.decode s pos).2) := by
  intro wd ws
  rw [ha wd ws]
  by_cases hlo : (s[pos]'h).toNat < 128
  · have hd := decode_ascii s pos h hlo
    rw [hd] at hn hb ⊢
    have hk : Pl.isBlank (s[pos]'h) = false := hn
    have hc : Pl.isBar (s[pos]'h) = false := by
      unfold barR at hb
      simp [Pl.isBar]
      omega
    rw [Pl.from_lt s pos h, Pl.run_cons _ _ _ rfl]
    simp only [Pl.step, hk, Pl.plain, hc, Bool.or_self]
    rw [Pl.cut_snoc s 0 pos (by omega) h, List.append_assoc]
    rfl
  · have ht := Pl.decode_tail s pos h (by omega)
    rw [Pl.run_bare_high s ws _ pos _ ht.1 ht.2, List.append_assoc, cut_join s pos _ (by omega)]
theorem bareAt_end {s : ByteArray} (ha : BareAt s s.size) (wd ws) : Pl.run ⟨.bare, wd, ws, false⟩ s.data.toList = Pl.run ⟨.btw, [], ws ++ [wd ++ Pl.cut s 0 s.size], false⟩ (Pl.from_ s s.size) := by
  rw [ha wd ws, Pl.from_ge s _ (Nat.le_refl _)]
  rfl
theorem bar_ways (r : Nat) : (r < 32) ∨ (¬ r < 32 ∧ r = 127) ∨ (¬ r < 32 ∧ r ≠ 127 ∧ r = 34) ∨ (¬ r < 32 ∧ r ≠ 127 ∧ r ≠ 34 ∧ r = 92) ∨ (¬ r < 32 ∧ r ≠ 127 ∧ r ≠ 34 ∧ r ≠ 92) := by omega
theorem n_is {a k : Nat} (h : a = k) : ((a : Int) == (k : Int)) = true := by rw [nat_eq]; simpa using h
theorem n_not {a k : Nat} (h : a ≠ k) : ((a : Int) == (k : Int)) = false := by rw [nat_eq]; simpa using h

set_option maxHeartbeats 8000000 in
set_option maxRecDepth 100000 in
theorem bare (s : ByteArray) (w : World) (hs : s.size ≤ 65536) (h0 : 0 < s.size) (hb0 : Pl.isBlank (s[0]'h0) = false) : Calls Tryd.prog 15 #[.string s] w (BarePost s w) := by
  go_enter Tryd.func15, Tryd.ntmps15
  go_wp2
  go_step3
  go_wp2
  go_step3
  go_wp2
  go_loopw [4] (fun n wr => ∃ pos : Nat, pos ≤ s.size ∧ n = .int .i64 s.size ∧ wr.heap[w.heap.size]? = some (.stringIter s pos) ∧ Below w.heap.size w wr ∧ Aside0 (BareAt s pos)) (fun _ wr => s.size - wr.iterPos w.heap.size)
  case atStart =>
    refine ⟨0, Nat.zero_le _, rfl, ?_, (Below.refl _ w).alloc (Nat.le_refl _) _, ⟨bareAt_zero s⟩⟩
    have := World.iter_heap w s 0
    simpa using this
  case round =>
    obtain ⟨pos, hp, rfl, hit, hbw, ha⟩ := hrel
    by_cases hlt : pos < s.size
    · have hnx : ∀ ty, (Instr.next (.pointer (some ⟨w.heap.size, 0, none⟩)) true ty).run Tryd.prog wr = _ := fun ty => Lib.run_next_any_at wr w.heap.size s pos ty hit hlt
      have hit2 := Lib.iterAt_heap wr w.heap.size s pos (pos + (Utf8.decode s pos).2) hit
      have hbw2 := Lib.below_iterAt hbw (k := w.heap.size) (by omega) s (pos + (Utf8.decode s pos).2)
      have hdb := decode_bound s pos hlt
      cases hbl : Pl.blankP (Utf8.decode s pos).1 with
      | true =>
        have HR : Aside0 (BareOk s (s.extract 0 pos) pos) := ⟨by
          refine .inr ⟨?_, hp, rfl, fun wd ws => (bareAt_blank hlt ha.out hbl wd ws).1⟩
          rcases Nat.eq_zero_or_pos pos with rfl | h
          · have := (bareAt_blank hlt ha.out hbl [] []).2
            rw [hb0] at this
            cases this
          · exact h⟩
        go_wp2_with (go_at_call 14; refine (blank _ _).mono ?_; rintro e w' ⟨rfl, rfl⟩)
        rw [Exit.noGoto_ret]
        go_ret2
        exact ⟨⟨_, _, rfl, HR.out⟩, hbw2⟩
      | false =>
        rcases bar_ways (Utf8.decode s pos).1 with t0 | ⟨t0, t1⟩ | ⟨t0, t1, t2⟩ | ⟨t0, t1, t2, t3⟩ | ⟨t0, t1, t2, t3⟩
        · have HR : Aside0 (BareOk s ⟨#[]⟩ 0) := ⟨.inl ⟨rfl, fun wd ws => bareAt_bar hlt ha.out hbl (by unfold barR; omega) wd ws⟩⟩
          have e0 : ((Utf8.decode s pos).1 : Int) < 32 := by omega
          clear t0
          go_wp2_with (go_at_call 14; refine (blank _ _).mono ?_; rintro e w' ⟨rfl, rfl⟩)
          rw [Exit.noGoto_ret]
          go_ret2
          exact ⟨⟨_, _, rfl, HR.out⟩, hbw2⟩
        · have HR : Aside0 (BareOk s ⟨#[]⟩ 0) := ⟨.inl ⟨rfl, fun wd ws => bareAt_bar hlt ha.out hbl (by unfold barR; omega) wd ws⟩⟩
          have e0 : ¬ ((Utf8.decode s pos).1 : Int) < 32 := by omega
          have e1 : (((Utf8.decode s pos).1 : Int) == 127) = true := n_is (k := 127) t1
          clear t0 t1
          go_wp2_with (go_at_call 14; refine (blank _ _).mono ?_; rintro e w' ⟨rfl, rfl⟩)
          rw [Exit.noGoto_ret]
          go_ret2
          exact ⟨⟨_, _, rfl, HR.out⟩, hbw2⟩
        · have HR : Aside0 (BareOk s ⟨#[]⟩ 0) := ⟨.inl ⟨rfl, fun wd ws => bareAt_bar hlt ha.out hbl (by unfold barR; omega) wd ws⟩⟩
          have e0 : ¬ ((Utf8.decode s pos).1 : Int) < 32 := by omega
          have e1 : (((Utf8.decode s pos).1 : Int) == 127) = false := n_not (k := 127) t1
          have e2 : (((Utf8.decode s pos).1 : Int) == 34) = true := n_is (k := 34) t2
          clear t0 t1 t2
          go_wp2_with (go_at_call 14; refine (blank _ _).mono ?_; rintro e w' ⟨rfl, rfl⟩)
          rw [Exit.noGoto_ret]
          go_ret2
          exact ⟨⟨_, _, rfl, HR.out⟩, hbw2⟩
        · have HR : Aside0 (BareOk s ⟨#[]⟩ 0) := ⟨.inl ⟨rfl, fun wd ws => bareAt_bar hlt ha.out hbl (by unfold barR; omega) wd ws⟩⟩
          have e0 : ¬ ((Utf8.decode s pos).1 : Int) < 32 := by omega
          have e1 : (((Utf8.decode s pos).1 : Int) == 127) = false := n_not (k := 127) t1
          have e2 : (((Utf8.decode s pos).1 : Int) == 34) = false := n_not (k := 34) t2
          have e3 : (((Utf8.decode s pos).1 : Int) == 92) = true := n_is (k := 92) t3
          clear t0 t1 t2 t3
          go_wp2_with (go_at_call 14; refine (blank _ _).mono ?_; rintro e w' ⟨rfl, rfl⟩)
          rw [Exit.noGoto_ret]
          go_ret2
          exact ⟨⟨_, _, rfl, HR.out⟩, hbw2⟩
        · have HR : Aside0 (BareAt s (pos + (Utf8.decode s pos).2)) := ⟨bareAt_next hlt ha.out hbl (by unfold barR; omega)⟩
          have e0 : ¬ ((Utf8.decode s pos).1 : Int) < 32 := by omega
          have e1 : (((Utf8.decode s pos).1 : Int) == 127) = false := n_not (k := 127) t1
          have e2 : (((Utf8.decode s pos).1 : Int) == 34) = false := n_not (k := 34) t2
          have e3 : (((Utf8.decode s pos).1 : Int) == 92) = false := n_not (k := 92) t3
          clear t0 t1 t2 t3
          go_wp2_with (go_at_call 14; refine (blank _ _).mono ?_; rintro e w' ⟨rfl, rfl⟩)
          go_roundw
          case rel => exact ⟨pos + (Utf8.decode s pos).2, hdb.2, rfl, hit2, hbw2, HR⟩
          case measure =>
            simp only [World.iterPos, hit2, hit]
            omega
    · have hnx : ∀ ty, (Instr.next (.pointer (some ⟨w.heap.size, 0, none⟩)) true ty).run Tryd.prog wr = _ := fun ty => Lib.run_next_end_at wr w.heap.size s pos ty hit hlt
      obtain rfl : pos = s.size := by omega
      have HR : Aside0 (BareOk s (s.extract 0 s.size) s.size) := ⟨.inr ⟨h0, Nat.le_refl _, rfl, bareAt_end ha.out⟩⟩
      go_wp2
      rw [Exit.noGoto_ret]
      go_ret2
      exact ⟨⟨_, _, rfl, by simpa using HR.out⟩, hbw⟩
end Go.Proofs.YtecpdmoieoibnaaDoor.Sh
