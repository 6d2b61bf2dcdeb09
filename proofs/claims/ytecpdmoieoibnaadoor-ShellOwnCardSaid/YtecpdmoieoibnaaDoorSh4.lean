/- Proved: the shell's Words is the byte machine at every line. Conditions: the variable escapes reads as listed. -/
import Derived.Test.YtecpdmoieoibnaaDoorSh3
import Derived.Test.YtecpdmoieoibnaaDoorRef3
set_option linter.unusedVariables false
set_option linter.unusedSimpArgs false
namespace Go.Proofs.YtecpdmoieoibnaaDoor.Sh
open Go.RowKit Go.Lib Go.Proofs.YtecpdmoieoibnaaDoorW.PrintWords

theorem run_hash {s : ByteArray} (h0 : 0 < s.size) (h : (s[0]'h0).toNat = 35) (ws) : Pl.run ⟨.btw, [], ws, false⟩ s.data.toList = some ws := by
  have hb : Pl.isBlank (s[0]'h0) = false := by simp [Pl.isBlank, h]
  rw [← Pl.from_zero, Pl.from_lt s 0 h0, Pl.run_cons _ _ _ rfl]
  have : Pl.step ⟨.btw, [], ws, false⟩ (s[0]'h0) = ⟨.comm, [], ws, false⟩ := by simp [Pl.step, Pl.first, hb, h]
  rw [this, Pl.run_comm]
theorem run_quote {s : ByteArray} (h0 : 0 < s.size) (h : (s[0]'h0).toNat = 34) (ws) : Pl.run ⟨.btw, [], ws, false⟩ s.data.toList = Pl.run ⟨.quo, [], ws, false⟩ (Pl.from_ s 1) := by
  have hb : Pl.isBlank (s[0]'h0) = false := by simp [Pl.isBlank, h]
  rw [← Pl.from_zero, Pl.from_lt s 0 h0, Pl.run_cons _ _ _ rfl]
  have : Pl.step ⟨.btw, [], ws, false⟩ (s[0]'h0) = ⟨.quo, [], ws, false⟩ := by simp [Pl.step, Pl.first, hb, h]
  rw [this]
theorem run_word {s : ByteArray} (h0 : 0 < s.size) (hb : Pl.isBlank (s[0]'h0) = false) (h1 : (s[0]'h0).toNat ≠ 35) (h2 : (s[0]'h0).toNat ≠ 34) (ws) : Pl.run ⟨.btw, [], ws, false⟩ s.data.toList = Pl.run ⟨.bare, [], ws, false⟩ s.data.toList := by
  rw [← Pl.from_zero, Pl.from_lt s 0 h0, Pl.run_cons _ _ _ rfl, Pl.run_cons _ _ _ rfl]
  simp [Pl.step, Pl.first, hb, h1, h2]

/-- Where the line's rest begins, ws are the words so far. -/
def At (s cur : ByteArray) (ws : List (List UInt8)) : Prop := Pl.wordsOf s.data.toList = Pl.run ⟨.btw, [], ws, false⟩ cur.data.toList ∧ ws.length + cur.size ≤ s.size
theorem at_start (s : ByteArray) : At s s [] := ⟨rfl, by simp⟩
theorem at_end {s cur : ByteArray} {ws} (h : At s cur ws) (h0 : (Lib.trimLeftF Pl.blankP cur).size = 0) : Pl.wordsOf s.data.toList = some ws := by
  rcases Pl.trim_run cur ws with ⟨_, h2⟩ | ⟨h2, _⟩
  · rw [h.1, h2]
  · omega
theorem at_trim {s cur : ByteArray} {ws} (h : At s cur ws) (h0 : 0 < (Lib.trimLeftF Pl.blankP cur).size) : At s (Lib.trimLeftF Pl.blankP cur) ws ∧ Pl.isBlank ((Lib.trimLeftF Pl.blankP cur)[0]'h0) = false ∧ (Lib.trimLeftF Pl.blankP cur).size ≤ cur.size := by
  rcases Pl.trim_run cur ws with ⟨h1, _⟩ | ⟨h1, h2, h3, h4⟩
  · omega
  · exact ⟨⟨h.1.trans h4, by have := h.2; omega⟩, h2, h3⟩
theorem at_hash {s cur : ByteArray} {ws} (h : At s cur ws) (h0 : 0 < cur.size) (h1 : (cur[0]'h0).toNat = 35) : Pl.wordsOf s.data.toList = some ws := by rw [h.1, run_hash h0 h1]
theorem at_quoNone {s cur : ByteArray} {ws} {word} (h : At s cur ws) (h0 : 0 < cur.size) (h1 : (cur[0]'h0).toNat = 34) (hq : QuoOk cur word 0) : Pl.wordsOf s.data.toList = none := by
  rw [h.1, run_quote h0 h1]
  rcases hq with ⟨_, hq⟩ | ⟨h2, _⟩
  · exact hq ws
  · omega
theorem at_quo {s cur : ByteArray} {ws} {word} {n : Nat} (h : At s cur ws) (h0 : 0 < cur.size) (h1 : (cur[0]'h0).toNat = 34) (hn : n ≠ 0) (hq : QuoOk cur word n) : 0 < n ∧ n ≤ cur.size ∧ ∃ l : List UInt8, word = ⟨l.toArray⟩ ∧ At s (cur.extract n cur.size) (ws ++ [l]) := by
  rcases hq with ⟨h2, _⟩ | ⟨h2, h3, l, h4, h5⟩
  · omega
  · refine ⟨h2, h3, l, h4, ?_, ?_⟩
    · rw [h.1, run_quote h0 h1, h5 ws, Pl.from_extract]
    · have := h.2; simp; omega
theorem at_bareNone {s cur : ByteArray} {ws} {word} (h : At s cur ws) (h0 : 0 < cur.size) (hb : Pl.isBlank (cur[0]'h0) = false) (h1 : (cur[0]'h0).toNat ≠ 35) (h2 : (cur[0]'h0).toNat ≠ 34) (hq : BareOk cur word 0) : Pl.wordsOf s.data.toList = none := by
  rw [h.1, run_word h0 hb h1 h2]
  rcases hq with ⟨_, hq⟩ | ⟨h2, _⟩
  · exact hq [] ws
  · omega
theorem at_bare {s cur : ByteArray} {ws} {word} {n : Nat} (h : At s cur ws) (h0 : 0 < cur.size) (hb : Pl.isBlank (cur[0]'h0) = false) (h1 : (cur[0]'h0).toNat ≠ 35) (h2 : (cur[0]'h0).toNat ≠ 34) (hn : n ≠ 0) (hq : BareOk cur word n) : 0 < n ∧ n ≤ cur.size ∧ ∃ l : List UInt8, word = ⟨l.toArray⟩ ∧ At s (cur.extract n cur.size) (ws ++ [l]) := by
  rcases hq with ⟨h3, _⟩ | ⟨h3, h4, h5, h6⟩
  · omega
  · refine ⟨h3, h4, Pl.cut cur 0 n, ?_, ?_, ?_⟩
    · rw [h5]; rfl
    · rw [h.1, run_word h0 hb h1 h2, h6 [] ws, Pl.from_extract, List.nil_append]
    · have := h.2; simp; omega

theorem tells_ok {s : ByteArray} {w w' : World} {ws} {v : Value} (hs : s.size ≤ 65536) (h : Pl.wordsOf s.data.toList = some ws) (hb : Below w.heap.size w w') (hv : w'.ownsRow w.heap.size 9 1 v ws.length (ws.map fun l => Value.string ⟨l.toArray⟩)) : Rf.Tells s w (.returned (.tuple #[v, .int .i64 0])) w' :=
  ⟨hb, .inr (.inr ⟨hs, ws, v, h, rfl, hv⟩)⟩

theorem own_pushed {w2 : World} {B : Nat} {v' : Value} {ws : List (List UInt8)} {l : List UInt8} (h : w2.ownsRow B 9 1 v' (ws.length + 1) ((ws.map fun l => Value.string ⟨l.toArray⟩) ++ [.string ⟨l.toArray⟩])) : w2.ownsRow B 9 1 v' (ws ++ [l]).length ((ws ++ [l]).map fun l => Value.string ⟨l.toArray⟩) := by
  simpa using h
theorem isEmpty_of {s : ByteArray} (h : s.size = 0) : s.toList = [] := by
  rw [ByteArray.toList_eq]
  exact List.eq_nil_of_length_eq_zero (by simpa using h)
theorem notEmpty_of {s : ByteArray} (h : 0 < s.size) : s.toList.isEmpty = false := by
  cases hl : s.toList with
  | nil =>
    rw [ByteArray.toList_eq] at hl
    have : s.data.toList.length = s.size := by simp
    rw [hl] at this
    simp at this
    omega
  | cons a b => rfl

set_option maxHeartbeats 8000000 in
set_option maxRecDepth 100000 in
theorem words_long (s : ByteArray) (w : World) (hs : 65536 < s.size) (hm : s.size ≤ 140737488355328) : Calls Tryd.prog 7 #[.string s] w (Rf.Tells s w) := by
  have hs' : (65536 : Int) < (s.size : Int) := by omega
  go_enter Tryd.func7, Tryd.ntmps7
  go_wp2
  go_ret2
  exact ⟨Below.refl _ _, .inl ⟨hs, rfl⟩⟩

set_option maxHeartbeats 16000000 in
set_option maxRecDepth 100000 in
theorem words_short (s : ByteArray) (w : World) (hE : EscVar w) (hs : s.size ≤ 65536) : Calls Tryd.prog 7 #[.string s] w (Rf.Tells s w) := by
  have hw0 := hE.pos
  have hs' : ¬ (65536 : Int) < (s.size : Int) := by omega
  go_enter Tryd.func7, Tryd.ntmps7
  go_wp2
  go_loopw [0, 4] (fun li v wr => ∃ (cur : ByteArray) (ws : List (List UInt8)), li = .string cur ∧ wr.ownsRow w.heap.size 9 1 v ws.length (ws.map fun l => Value.string ⟨l.toArray⟩) ∧ Below w.heap.size w wr ∧ Aside0 (At s cur ws)) (fun li _ _ => match li with | .string c => c.size | _ => 0)
  case atStart => exact ⟨s, [], rfl, World.ownsRow_nil _ _ _ _, Below.refl _ _, ⟨at_start s⟩⟩
  case round =>
    obtain ⟨cur, ws, rfl, hown, hbw, hat⟩ := hrel
    have hBw := hbw.size
    have hlen := hat.out.2
    go_wp2_with fail
    refine (trim cur _).mono ?_
    rintro e W1 ⟨rfl, b1⟩
    have hbw1 := hbw.trans (b1.mono hBw)
    have hown1 := pw_own_below hown b1
    have hE1 := hE.below hw0 hbw1
    by_cases hz : (Lib.trimLeftF Pl.blankP cur).size = 0
    · have hemp := isEmpty_of hz
      have hemp2 : (!(Lib.trimLeftF Pl.blankP cur).toList.isEmpty) = false := by rw [hemp]; rfl
      have HD := Aside0.mk (at_end hat.out hz)
      clear hz
      go_wp2
      go_ret2
      exact tells_ok hs HD.out hbw1 hown1
    · have h0 : 0 < (Lib.trimLeftF Pl.blankP cur).size := by omega
      obtain ⟨ha1, hb1, hle⟩ := at_trim hat.out h0
      generalize hcur : Lib.trimLeftF Pl.blankP cur = cu at *
      clear hcur hz
      have hne : cu.toList.isEmpty = false := notEmpty_of h0
      have hi0 : (0 : Int) < (cu.size : Int) := by omega
      have hcs : cu.size ≤ 65536 := by have := ha1.2; omega
      have hl1 : ws.length < 1000000 := by have := ha1.2; omega
      have HA := Aside0.mk ha1
      have HB := Aside0.mk hb1
      clear ha1 hb1 hat
      by_cases t35 : (cu[0]'h0).toNat = 35
      · have e35 : (((cu[0]'h0).toNat : Int) == 35) = true := u8_is (k := 35) t35
        have HD := Aside0.mk (at_hash HA.out h0 t35)
        clear t35
        go_wp2
        go_ret2
        exact tells_ok hs HD.out hbw1 hown1
      · have e35 : (((cu[0]'h0).toNat : Int) == 35) = false := u8_not (k := 35) t35
        by_cases t34 : (cu[0]'h0).toNat = 34
        · have e34 : (((cu[0]'h0).toNat : Int) == 34) = true := u8_is (k := 34) t34
          have hQ := quoted cu W1 hE1 hcs h0 t34
          have HQ := Aside0.mk hQ
          have T34 := Aside0.mk t34
          clear t34 t35 hQ
          go_wp2_with fail
          refine HQ.out.mono ?_
          rintro e W2 ⟨⟨word, n, rfl, hq⟩, b2⟩
          have hbw2 := hbw1.trans (b2.mono hbw1.size)
          have hown2 := pw_own_below hown1 b2
          have hBw2 : w.heap.size ≤ W2.heap.size := hbw2.size
          by_cases hn : n = 0
          · subst hn
            have HD := Aside0.mk (at_quoNone HA.out h0 T34.out hq)
            clear hq
            go_wp2
            go_ret2
            exact ⟨hbw2, .inr (.inl ⟨hs, HD.out, rfl⟩)⟩
          · obtain ⟨n1, n2, l, rfl, ha2⟩ := at_quo HA.out h0 T34.out hn hq
            have hn0 : ((n : Int) == 0) = false := n_not (k := 0) hn
            have hn1 : (0 : Int) ≤ (n : Int) := Int.natCast_nonneg _
            have hn2 : (n : Int) ≤ (cu.size : Int) := by omega
            have hn3 : 0 ≤ cu.size := Nat.zero_le _
            have HA2 := Aside0.mk ha2
            clear hn hq ha2
            go_wp2_with (at_builtin; refine Rf.push9 rfl _ _ rfl w.heap.size _ _ _ rfl (hown2.alloc _) _ _ rfl (Rf.alloc_at rfl) (by simpa using hl1) (Rf.le_alloc hBw2) ?_)
            intro v' W3 hown' hgrow
            have hbw3 : Below w.heap.size w W3 := (hbw2.alloc hBw2 _).grown hgrow (by simp; omega) (fun k hk => (hown2.lt k hk).1)
            go_wp2
            go_roundw
            case rel => exact ⟨_, ws ++ [l], rfl, own_pushed hown', hbw3, HA2⟩
            case measure => simp; omega
        · have e34 : (((cu[0]'h0).toNat : Int) == 34) = false := u8_not (k := 34) t34
          have hQ := bare cu W1 hcs h0 HB.out
          have HQ := Aside0.mk hQ
          have T34 := Aside0.mk t34
          have T35 := Aside0.mk t35
          clear t34 t35 hQ
          go_wp2_with fail
          refine HQ.out.mono ?_
          rintro e W2 ⟨⟨word, n, rfl, hq⟩, b2⟩
          have hbw2 := hbw1.trans (b2.mono hbw1.size)
          have hown2 := pw_own_below hown1 b2
          have hBw2 : w.heap.size ≤ W2.heap.size := hbw2.size
          by_cases hn : n = 0
          · subst hn
            have HD := Aside0.mk (at_bareNone HA.out h0 HB.out T35.out T34.out hq)
            clear hq
            go_wp2
            go_ret2
            exact ⟨hbw2, .inr (.inl ⟨hs, HD.out, rfl⟩)⟩
          · obtain ⟨n1, n2, l, rfl, ha2⟩ := at_bare HA.out h0 HB.out T35.out T34.out hn hq
            have hn0 : ((n : Int) == 0) = false := n_not (k := 0) hn
            have hn1 : (0 : Int) ≤ (n : Int) := Int.natCast_nonneg _
            have hn2 : (n : Int) ≤ (cu.size : Int) := by omega
            have hn3 : 0 ≤ cu.size := Nat.zero_le _
            have HA2 := Aside0.mk ha2
            clear hn hq ha2
            go_wp2_with (at_builtin; refine Rf.push9 rfl _ _ rfl w.heap.size _ _ _ rfl (hown2.alloc _) _ _ rfl (Rf.alloc_at rfl) (by simpa using hl1) (Rf.le_alloc hBw2) ?_)
            intro v' W3 hown' hgrow
            have hbw3 : Below w.heap.size w W3 := (hbw2.alloc hBw2 _).grown hgrow (by simp; omega) (fun k hk => (hown2.lt k hk).1)
            go_wp2
            go_roundw
            case rel => exact ⟨_, ws ++ [l], rfl, own_pushed hown', hbw3, HA2⟩
            case measure => simp; omega

theorem words (s : ByteArray) (w : World) (hE : EscVar w) (hm : s.size ≤ 140737488355328) : Calls Tryd.prog 7 #[.string s] w (Rf.Tells s w) := by
  by_cases h : 65536 < s.size
  · exact words_long s w h hm
  · exact words_short s w hE (by omega)
end Go.Proofs.YtecpdmoieoibnaaDoor.Sh
