/- Proved: part 15 of the proof of PackRound (Wr5, Wr6, Wr7, Pl1, Pl2, Pl3, Pl4, PPackSpecsx14, Rs1, Rt0, Wa). Conditions: each theorem states its own. -/
import Derived.ArgAppend
import Derived.Lib.SlBytesConst
import Derived.Test.YtpnkifincadakaaGreatDoorR10
import Derived.Test.YtpnkifincadakaaGreatDoorR14
set_option linter.unusedVariables false
set_option linter.unusedSimpArgs false
section
namespace Go.Proofs.YtpnkifincadakaaGreatDoor.Wr
open Go.RowKit Go.Pk Go.Proofs.YtpnkifincadakaaGreatDoorW.PrintWords Go.Proofs.YtpnkifincadakaaGreatDoor.PPackSpecs
def encRule (x : S42) : List Int := [(if x.f1 = true then (1 : Int) else 0) % 256] ++ encName x.f0 ++ encE x.f2
def encProd (x : S67) : List Int := [x.f0 % 256] ++ [(x.f1.length : Int) % 256] ++ x.f1.flatMap encSym
set_option maxHeartbeats 4000000 in
set_option maxRecDepth 100000 in
theorem rule (B W : Nat) (bs : List Int) (x : S42) (A7 : Option Addr) (c7 : Nat) (w : World) (h : WB B W bs w) (hf : Fb k40 w B A7 x.f2.f5.length x.f2.f5) (hc : x.f2.f5.length ≤ c7) (hlen : bs.length + (encRule x).length ≤ 140737488355328) :
    Calls Tryz.prog 27 #[.pointer (some ⟨W, 0, none⟩), .agg #[.string x.f0, .bool x.f1, .int .i64 x.f2.f0, .int .i64 x.f2.f1, .int .i64 x.f2.f2, .int .i64 x.f2.f3, .int .i64 x.f2.f4, .slice A7 x.f2.f5.length c7]] w fun e w' => e = .returned (.tuple #[]) ∧ Wrote B W (bs ++ encRule x) w w' := by
  have HF := Aside0.mk hf
  clear hf
  have ha := (Wrote.refl h).alloc (.cells #[.string x.f0, .bool x.f1, .int .i64 x.f2.f0, .int .i64 x.f2.f1, .int .i64 x.f2.f2, .int .i64 x.f2.f3, .int .i64 x.f2.f4, .slice A7 x.f2.f5.length c7] 42)
  have hbox := blk_new w (.cells #[.string x.f0, .bool x.f1, .int .i64 x.f2.f0, .int .i64 x.f2.f1, .int .i64 x.f2.f2, .int .i64 x.f2.f3, .int .i64 x.f2.f4, .slice A7 x.f2.f5.length c7] 42)
  have hneW : w.heap.size ≠ W := by have := h.lt; omega
  cases e1 : x.f1
  · have HH : Hid (encRule x = [(0 : Int) % 256] ++ encName x.f0 ++ encE x.f2) := Lib.hid (by unfold encRule; rw [e1]; rfl)
    rw [HH.out] at hlen ⊢
    simp only [List.length_append, List.length_cons, List.length_nil, encName, bytesOf_length] at hlen
    rw [e1] at hbox ha
    clear e1
    go_enter Tryz.func27, Tryz.ntmps27
    go_wp2_with (go_at_call 25; refine (u1 B W bs 0 _ ha.wb (by omega)).mono ?_)
    rintro e w1 ⟨rfl, h1⟩
    have hb1 := h1.oth _ _ _ _ hbox (by decide) hneW
    have p0 : w1.cell? ⟨w.heap.size, 0, none⟩ = some (.string x.f0) := (blk_cell hb1 0).trans rfl
    go_wp2_with (go_at_call 29; refine (name B W _ x.f0 _ h1.wb (by simp only [List.length_append, List.length_cons, List.length_nil]; omega)).mono ?_)
    rintro e w2 ⟨rfl, h2⟩
    have hb2 := h2.oth _ _ _ _ hb1 (by decide) hneW
    have hall := (ha.trans h1).trans h2
    have p2 : w2.cell? ⟨w.heap.size, 2, none⟩ = some (.int .i64 x.f2.f0) := (blk_cell hb2 2).trans rfl
    have p3 : w2.cell? ⟨w.heap.size, 3, none⟩ = some (.int .i64 x.f2.f1) := (blk_cell hb2 3).trans rfl
    have p4 : w2.cell? ⟨w.heap.size, 4, none⟩ = some (.int .i64 x.f2.f2) := (blk_cell hb2 4).trans rfl
    have p5 : w2.cell? ⟨w.heap.size, 5, none⟩ = some (.int .i64 x.f2.f3) := (blk_cell hb2 5).trans rfl
    have p6 : w2.cell? ⟨w.heap.size, 6, none⟩ = some (.int .i64 x.f2.f4) := (blk_cell hb2 6).trans rfl
    have p7 : w2.cell? ⟨w.heap.size, 7, none⟩ = some (.slice A7 x.f2.f5.length c7) := (blk_cell hb2 7).trans rfl
    go_wp2_with (go_at_call 77; refine (pattern B W (sizeE x.f2) x.f2 _ A7 c7 _ (Nat.le_refl _) hall.wb (HF.out.below hall.below) hc (by simp only [List.length_append, List.length_cons, List.length_nil, bytesOf_length]; omega)).mono ?_)
    rintro e w3 ⟨rfl, h3⟩
    have hend := hall.trans h3
    go_wp2
    go_end0
    refine ⟨rfl, ?_⟩
    simpa [encName] using hend
  · have HH : Hid (encRule x = [(1 : Int) % 256] ++ encName x.f0 ++ encE x.f2) := Lib.hid (by unfold encRule; rw [e1]; rfl)
    rw [HH.out] at hlen ⊢
    simp only [List.length_append, List.length_cons, List.length_nil, encName, bytesOf_length] at hlen
    rw [e1] at hbox ha
    clear e1
    go_enter Tryz.func27, Tryz.ntmps27
    go_wp2_with (go_at_call 25; refine (u1 B W bs 1 _ ha.wb (by omega)).mono ?_)
    rintro e w1 ⟨rfl, h1⟩
    have hb1 := h1.oth _ _ _ _ hbox (by decide) hneW
    have p0 : w1.cell? ⟨w.heap.size, 0, none⟩ = some (.string x.f0) := (blk_cell hb1 0).trans rfl
    go_wp2_with (go_at_call 29; refine (name B W _ x.f0 _ h1.wb (by simp only [List.length_append, List.length_cons, List.length_nil]; omega)).mono ?_)
    rintro e w2 ⟨rfl, h2⟩
    have hb2 := h2.oth _ _ _ _ hb1 (by decide) hneW
    have hall := (ha.trans h1).trans h2
    have p2 : w2.cell? ⟨w.heap.size, 2, none⟩ = some (.int .i64 x.f2.f0) := (blk_cell hb2 2).trans rfl
    have p3 : w2.cell? ⟨w.heap.size, 3, none⟩ = some (.int .i64 x.f2.f1) := (blk_cell hb2 3).trans rfl
    have p4 : w2.cell? ⟨w.heap.size, 4, none⟩ = some (.int .i64 x.f2.f2) := (blk_cell hb2 4).trans rfl
    have p5 : w2.cell? ⟨w.heap.size, 5, none⟩ = some (.int .i64 x.f2.f3) := (blk_cell hb2 5).trans rfl
    have p6 : w2.cell? ⟨w.heap.size, 6, none⟩ = some (.int .i64 x.f2.f4) := (blk_cell hb2 6).trans rfl
    have p7 : w2.cell? ⟨w.heap.size, 7, none⟩ = some (.slice A7 x.f2.f5.length c7) := (blk_cell hb2 7).trans rfl
    go_wp2_with (go_at_call 77; refine (pattern B W (sizeE x.f2) x.f2 _ A7 c7 _ (Nat.le_refl _) hall.wb (HF.out.below hall.below) hc (by simp only [List.length_append, List.length_cons, List.length_nil, bytesOf_length]; omega)).mono ?_)
    rintro e w3 ⟨rfl, h3⟩
    have hend := hall.trans h3
    go_wp2
    go_end0
    refine ⟨rfl, ?_⟩
    simpa [encName] using hend
set_option maxHeartbeats 4000000 in
set_option maxRecDepth 100000 in
theorem eachRule (B W : Nat) (bs : List Int) (A : Option Addr) (n c : Nat) (xs : List S42) (w : World) (h : WB B W bs w) (hf : Fb k42 w B A n xs) (hlen : bs.length + (xs.flatMap encRule).length ≤ 140737488355328) :
    Calls Tryz.prog 26 #[.slice A n c, .func (.func 27) #[.pointer (some ⟨W, 0, none⟩)] #[]] w fun e w' => e = .returned (.tuple #[]) ∧ Wrote B W (bs ++ xs.flatMap encRule) w w' := by
  obtain rfl := Kd.F_len hf
  have hm := Kd.F_max hf
  have HF := Aside0.mk hf
  clear hf
  have H0 := Aside0.mk (Wrote.refl h)
  clear h
  go_enter Tryz.func26, Tryz.ntmps26
  go_wp2
  go_loopw [8] (fun i wr => ∃ k : Nat, k ≤ xs.length ∧ i = .int .i64 k ∧ Aside0 (Wrote B W (bs ++ (xs.take k).flatMap encRule) w wr)) (fun i _ => xs.length - (intOf i).toNat)
  case atStart => exact ⟨0, Nat.zero_le _, rfl, ⟨by simpa using H0.out⟩⟩
  case round =>
    obtain ⟨k, hk, rfl, hR⟩ := hrel
    by_cases hlt : k < xs.length
    · obtain ⟨ad, cs, rfl, hK, hc0, hc1⟩ := F_at (HF.out.below hR.out.below) k hlt
      have hmem := List.getElem_mem hlt
      obtain ⟨A7, c7, rfl, l7, g7⟩ := k42_openF hK
      clear hK
      have d0 : wr.cell? (ad.add (k * 8)) = some (.string xs[k].f0) := hc0 _ rfl
      have d1 : wr.cell? ⟨(ad.add (k * 8)).block, (ad.add (k * 8)).off + 1, none⟩ = some (.bool xs[k].f1) := hc1 1 _ (by decide) rfl
      have d2 : wr.cell? ⟨(ad.add (k * 8)).block, (ad.add (k * 8)).off + 2, none⟩ = some (.int .i64 xs[k].f2.f0) := hc1 2 _ (by decide) rfl
      have d3 : wr.cell? ⟨(ad.add (k * 8)).block, (ad.add (k * 8)).off + 3, none⟩ = some (.int .i64 xs[k].f2.f1) := hc1 3 _ (by decide) rfl
      have d4 : wr.cell? ⟨(ad.add (k * 8)).block, (ad.add (k * 8)).off + 4, none⟩ = some (.int .i64 xs[k].f2.f2) := hc1 4 _ (by decide) rfl
      have d5 : wr.cell? ⟨(ad.add (k * 8)).block, (ad.add (k * 8)).off + 5, none⟩ = some (.int .i64 xs[k].f2.f3) := hc1 5 _ (by decide) rfl
      have d6 : wr.cell? ⟨(ad.add (k * 8)).block, (ad.add (k * 8)).off + 6, none⟩ = some (.int .i64 xs[k].f2.f4) := hc1 6 _ (by decide) rfl
      have d7 : wr.cell? ⟨(ad.add (k * 8)).block, (ad.add (k * 8)).off + 7, none⟩ = some (.slice A7 xs[k].f2.f5.length c7) := hc1 7 _ (by decide) rfl
      clear hc0 hc1
      have HS : Hid ((xs.take (k + 1)).flatMap encRule = (xs.take k).flatMap encRule ++ encRule xs[k]) := Lib.hid (flat_snoc encRule xs k hlt)
      have hl := flat_le encRule xs (k + 1)
      rw [HS.out, List.length_append] at hl
      generalize xs[k] = x at *
      go_wp2_with fail
      refine (rule B W _ x A7 c7 _ (hR.out.alloc _).wb (Kd.F_alloc g7 _) l7 (by rw [List.length_append]; omega)).mono ?_
      rintro e w2 ⟨rfl, h2⟩
      have h3 := (hR.out.alloc _).trans h2
      rw [List.append_assoc] at h3
      go_wp2
      go_roundw
      case rel => exact ⟨k + 1, by omega, by go_num, ⟨by rw [HS.out]; exact h3⟩⟩
      case measure => simp [intOf]; omega
    · obtain rfl : k = xs.length := by omega
      rw [List.take_length] at hR
      have hR := Aside0.mk hR.out
      go_wp2
      go_end0
      exact ⟨rfl, hR.out⟩
set_option maxHeartbeats 4000000 in
set_option maxRecDepth 100000 in
theorem production (B W : Nat) (bs : List Int) (x : S67) (A1 : Option Addr) (c1 : Nat) (w : World) (h : WB B W bs w) (hf : Fb k85 w B A1 x.f1.length x.f1) (hc : x.f1.length ≤ c1) (hlen : bs.length + (encProd x).length ≤ 140737488355328) :
    Calls Tryz.prog 32 #[.pointer (some ⟨W, 0, none⟩), .agg #[.int .i64 x.f0, .slice A1 x.f1.length c1]] w fun e w' => e = .returned (.tuple #[]) ∧ Wrote B W (bs ++ encProd x) w w' := by
  have HF := Aside0.mk hf
  clear hf
  have ha := (Wrote.refl h).alloc (.cells #[.int .i64 x.f0, .slice A1 x.f1.length c1] 67)
  have hbox := blk_new w (.cells #[.int .i64 x.f0, .slice A1 x.f1.length c1] 67)
  have hneW : w.heap.size ≠ W := by have := h.lt; omega
  have hpos : x.f1.length ≤ 9223372036854775807 := Kd.F_max HF.out
  simp only [encProd, List.length_append, List.length_cons, List.length_nil] at hlen
  go_enter Tryz.func32, Tryz.ntmps32
  go_wp2_with (go_at_call 25; refine (u1 B W bs x.f0 _ ha.wb (by omega)).mono ?_)
  rintro e w1 ⟨rfl, h1⟩
  have hb1 := h1.oth _ _ _ _ hbox (by decide) hneW
  have p1 : w1.cell? ⟨w.heap.size, 1, none⟩ = some (.slice A1 x.f1.length c1) := (blk_cell hb1 1).trans rfl
  go_wp2_with (go_at_call 25; refine (u1 B W _ x.f1.length _ h1.wb (by simp only [List.length_append, List.length_cons, List.length_nil]; omega)).mono ?_)
  rintro e w2 ⟨rfl, h2⟩
  have hb2 := h2.oth _ _ _ _ hb1 (by decide) hneW
  have q1 : w2.cell? ⟨w.heap.size, 1, none⟩ = some (.slice A1 x.f1.length c1) := (blk_cell hb2 1).trans rfl
  have hall := (ha.trans h1).trans h2
  go_wp2_with (go_at_call 78; refine (eachSym B W _ A1 _ c1 x.f1 _ hall.wb (HF.out.below hall.below) (by simp only [List.length_append, List.length_cons, List.length_nil]; omega)).mono ?_)
  rintro e w3 ⟨rfl, h3⟩
  have hend := hall.trans h3
  go_wp2
  go_end0
  refine ⟨rfl, ?_⟩
  simpa [encProd] using hend
set_option maxHeartbeats 4000000 in
set_option maxRecDepth 100000 in
theorem eachProd (B W : Nat) (bs : List Int) (A : Option Addr) (n c : Nat) (xs : List S67) (w : World) (h : WB B W bs w) (hf : Fb k67 w B A n xs) (hlen : bs.length + (xs.flatMap encProd).length ≤ 140737488355328) :
    Calls Tryz.prog 31 #[.slice A n c, .func (.func 32) #[.pointer (some ⟨W, 0, none⟩)] #[]] w fun e w' => e = .returned (.tuple #[]) ∧ Wrote B W (bs ++ xs.flatMap encProd) w w' := by
  obtain rfl := Kd.F_len hf
  have hm := Kd.F_max hf
  have HF := Aside0.mk hf
  clear hf
  have H0 := Aside0.mk (Wrote.refl h)
  clear h
  go_enter Tryz.func31, Tryz.ntmps31
  go_wp2
  go_loopw [8] (fun i wr => ∃ k : Nat, k ≤ xs.length ∧ i = .int .i64 k ∧ Aside0 (Wrote B W (bs ++ (xs.take k).flatMap encProd) w wr)) (fun i _ => xs.length - (intOf i).toNat)
  case atStart => exact ⟨0, Nat.zero_le _, rfl, ⟨by simpa using H0.out⟩⟩
  case round =>
    obtain ⟨k, hk, rfl, hR⟩ := hrel
    by_cases hlt : k < xs.length
    · obtain ⟨ad, cs, rfl, hK, hc0, hc1⟩ := F_at (HF.out.below hR.out.below) k hlt
      have hmem := List.getElem_mem hlt
      obtain ⟨A1, c1, rfl, l1, g1⟩ := k67_openF hK
      clear hK
      have d0 : wr.cell? (ad.add (k * 2)) = some (.int .i64 xs[k].f0) := hc0 _ rfl
      have d1 : wr.cell? ⟨(ad.add (k * 2)).block, (ad.add (k * 2)).off + 1, none⟩ = some (.slice A1 xs[k].f1.length c1) := hc1 1 _ (by decide) rfl
      clear hc0 hc1
      have HS : Hid ((xs.take (k + 1)).flatMap encProd = (xs.take k).flatMap encProd ++ encProd xs[k]) := Lib.hid (flat_snoc encProd xs k hlt)
      have hl := flat_le encProd xs (k + 1)
      rw [HS.out, List.length_append] at hl
      generalize xs[k] = x at *
      go_wp2_with fail
      refine (production B W _ x A1 c1 _ (hR.out.alloc _).wb (Kd.F_alloc g1 _) l1 (by rw [List.length_append]; omega)).mono ?_
      rintro e w2 ⟨rfl, h2⟩
      have h3 := (hR.out.alloc _).trans h2
      rw [List.append_assoc] at h3
      go_wp2
      go_roundw
      case rel => exact ⟨k + 1, by omega, by go_num, ⟨by rw [HS.out]; exact h3⟩⟩
      case measure => simp [intOf]; omega
    · obtain rfl : k = xs.length := by omega
      rw [List.take_length] at hR
      have hR := Aside0.mk hR.out
      go_wp2
      go_end0
      exact ⟨rfl, hR.out⟩
end Go.Proofs.YtpnkifincadakaaGreatDoor.Wr
end
section
namespace Go.Proofs.YtpnkifincadakaaGreatDoor.Wr
open Go.RowKit Go.Pk Go.Proofs.YtpnkifincadakaaGreatDoorW.PrintWords Go.Proofs.YtpnkifincadakaaGreatDoor.PPackSpecs
open Go.Am (TabVar sum_any)
theorem mod_byte (n : Int) : 0 ≤ n % 256 ∧ n % 256 < 256 := ⟨by omega, by omega⟩
theorem bytes_cons {x : Int} {xs : List Int} (h : 0 ≤ x ∧ x < 256) (hs : Bytes xs) : Bytes (x :: xs) := fun y hy => by
  rcases List.mem_cons.1 hy with rfl | hy
  · exact h
  · exact hs y hy
theorem bytes_flat {α : Type} (f : α → List Int) (h : ∀ x, Bytes (f x)) (l : List α) : Bytes (l.flatMap f) := fun y hy => by
  obtain ⟨x, _, hx⟩ := List.mem_flatMap.1 hy
  exact h x y hx
theorem bytes_of (s : ByteArray) : Bytes (bytesOf s) := fun y hy => by
  obtain ⟨b, _, rfl⟩ := List.mem_map.1 hy
  have := b.toNat_lt
  omega
theorem bytes_b1 (n : Int) : Bytes (b1 n) := bytes_cons (mod_byte n) Bytes.nil
theorem bytes_b2 (n : Int) : Bytes (b2 n) := bytes_cons (mod_byte n) (bytes_cons (mod_byte _) Bytes.nil)
theorem bytes_head (e : S40) : Bytes (headE e) := by
  unfold headE
  split
  · exact (bytes_b1 _).append ((bytes_b1 _).append (bytes_b1 _))
  · split
    · exact (bytes_b1 _).append ((bytes_b2 _).append (bytes_b2 _))
    · exact (bytes_b1 _).append (bytes_b2 _)
theorem bytes_encE (e : S40) : Bytes (encE e) := by
  have h : ∀ n, ∀ e, sizeE e ≤ n → Bytes (encE e) := by
    intro n
    induction n with
    | zero => intro e h; have := sizeE_pos e; omega
    | succ n ih =>
      intro e h
      rw [encE_eq, encL_flat]
      refine (bytes_head e).append fun y hy => ?_
      obtain ⟨x, hx, hxy⟩ := List.mem_flatMap.1 hy
      have := mem_size _ _ hx
      rw [sizeE_eq] at h
      exact ih x (by omega) y hxy
  exact h _ e (Nat.le_refl _)
theorem bytes_name (s : ByteArray) : Bytes (encName s) := bytes_cons (mod_byte _) (bytes_of s)
theorem bytes_rule (x : S42) : Bytes (encRule x) := ((bytes_cons (mod_byte _) Bytes.nil).append (bytes_name _)).append (bytes_encE _)
theorem bytes_sym (x : S85) : Bytes (encSym x) := bytes_cons (mod_byte _) (bytes_cons (mod_byte _) Bytes.nil)
theorem bytes_prod (x : S67) : Bytes (encProd x) := ((bytes_cons (mod_byte _) Bytes.nil).append (bytes_cons (mod_byte _) Bytes.nil)).append (bytes_flat _ bytes_sym _)
def magic : List Int := [103, 114, 97, 102, 116, 115, 112, 101]
def encSpec (lex : List S42) (names : List ByteArray) (start : Int) (prods : List S67) : List Int :=
  magic ++ [(lex.length : Int) % 256] ++ lex.flatMap encRule ++ [(names.length : Int) % 256] ++ names.flatMap encName ++ [start % 256] ++ b2 prods.length ++ prods.flatMap encProd
theorem bytes_magic : Bytes magic := fun y hy => by
  simp only [magic, List.mem_cons, List.mem_nil_iff, or_false] at hy
  omega
theorem bytes_spec (lex : List S42) (names : List ByteArray) (start : Int) (prods : List S67) : Bytes (encSpec lex names start prods) :=
  ((((((bytes_magic.append (bytes_b1 _)).append (bytes_flat _ bytes_rule _)).append (bytes_b1 _)).append (bytes_flat _ bytes_name _)).append (bytes_b1 _)).append (bytes_b2 _)).append (bytes_flat _ bytes_prod _)
def summed (bs : List Int) : List Int := bs ++ b4 (crc bs : Nat)
theorem tab_below {w w' : World} {B : Nat} (h : TabVar w) (hB : 0 < B) (hb : Below B w w') : TabVar w' := fun j v hj => by
  rw [hb.cell (p := ⟨0, j, none⟩) hB]
  exact h j v hj
set_option maxHeartbeats 4000000 in
set_option maxRecDepth 100000 in
theorem sealed (B W : Nat) (bs : List Int) (w : World) (h : WB B W bs w) (hT : TabVar w) (hB : 0 < B) (hby : Bytes bs) (hlen : bs.length + 4 ≤ 67108864) :
    Calls Tryz.prog 33 #[.pointer (some ⟨W, 0, none⟩)] w fun e w' => ∃ v, e = .returned (.tuple #[v, .int .i64 0]) ∧ w'.ownsRow B 5 1 v (summed bs).length (nums .u8 (summed bs)) ∧ Below B w w' := by
  obtain ⟨hle, v, hbk, hown, hne⟩ := h
  have c0 : w.cell? ⟨W, 0, none⟩ = some v := (blk_cell hbk 0).trans rfl
  obtain ⟨A, c, rfl, hrd⟩ := own_reads hown
  have hr : ∀ (j : Nat) x, bs[j]? = some x → ∃ ad, A = some ad ∧ w.cell? (ad.add j) = some (.int .u8 x) := fun j x hj => by
    have hjl := (List.getElem?_eq_some_iff.1 hj).1
    obtain ⟨ad, e, hc⟩ := hrd.at_ (j : Int) (by omega) (by omega)
    refine ⟨ad, e, ?_⟩
    rw [Int.toNat_natCast] at hc
    rw [hc, rd, Int.toNat_natCast, List.getD_eq_getElem?_getD, hj]
    rfl
  have HR := Aside0.mk hr
  clear hr hrd
  have hcl := crc_lt bs
  have hS := sum_any A bs.length c bs w hT rfl (by omega) hby HR.out
  have HC : Hid (b4 (crc bs : Nat) = [(crc bs : Int) % 256, (crc bs : Int) / 256 % 256, (crc bs : Int) / 65536 % 256, (crc bs : Int) / 16777216 % 256]) := Lib.hid rfl
  generalize hq : crc bs = q at *
  have HQ := Lib.hid hq
  clear hq
  go_enter Tryz.func33, Tryz.ntmps33
  go_wp2_with (go_at_call 80; refine hS.mono ?_)
  rintro e w1 ⟨rfl, rfl⟩
  go_wp2_with (go_at_call 73; refine (u4 B W bs q _ ⟨hle, _, hbk, hown, hne⟩ (by omega)).mono ?_)
  rintro e w1 ⟨rfl, h1⟩
  have hsl : (summed bs).length = bs.length + 4 := by unfold summed; rw [List.length_append]; rfl
  have HSU : Hid (summed bs = bs ++ [(q : Int) % 256, (q : Int) / 256 % 256, (q : Int) / 65536 % 256, (q : Int) / 16777216 % 256]) := Lib.hid (by unfold summed; rw [HQ.out, HC.out])
  obtain ⟨v1, hbk1, hown1, hne1⟩ := h1.wb.blk
  have hown2 : w1.ownsRow B 5 1 v1 (summed bs).length (nums .u8 (summed bs)) := by rw [HSU.out]; exact hown1
  rw [hsl] at hown2
  have d0 : w1.cell? ⟨W, 0, none⟩ = some v1 := (blk_cell hbk1 0).trans rfl
  obtain ⟨A1, c1, rfl⟩ := own_slice hown2
  have hb := h1.below
  clear hown1 h1
  have hd : decide ((67108864 : Int) < ((bs.length + 4 : Nat) : Int)) = false := decide_eq_false (by omega)
  clear hlen
  generalize bs.length + 4 = N at *
  have HSL := Lib.hid hsl
  clear hsl
  go_wp2
  go_ret2
  rw [HSL.out]
  exact ⟨_, rfl, hown2, hb⟩
end Go.Proofs.YtpnkifincadakaaGreatDoor.Wr
end
section
namespace Go.Proofs.YtpnkifincadakaaGreatDoor.Wr
open Go.RowKit Go.Pk Go.Proofs.YtpnkifincadakaaGreatDoorW.PrintWords Go.Proofs.YtpnkifincadakaaGreatDoor.PPackSpecs
open Go.Am (TabVar sum_any)
theorem Fb.at {α : Type} {d : Kd α} {w w' : World} {B B' : Nat} {A : Option Addr} {n : Nat} {xs : List α} (h : Fb d w B A n xs) (hb : Below B w w') (hB : B ≤ B') : Fb d w' B' A n xs := Kd.F_mono (h.below hb) fun k hk => Nat.lt_of_lt_of_le hk hB
set_option maxHeartbeats 4000000 in
set_option maxRecDepth 100000 in
theorem spec_err (v0 v1 v3 : Value) (start r : Int) (A0 A1 A3 : Option Addr) (n0 n1 n3 c0 c1 c3 : Nat) (w : World) (hr : r ≠ 0)
    (HR : ∀ w' : World, Below w.heap.size w w' → Calls Tryz.prog 24 #[.agg #[.slice A0 n0 c0, .slice A1 n1 c1, .int .i64 start, .slice A3 n3 c3]] w' fun e w'' => e = .returned (.int .i64 r) ∧ Below w'.heap.size w' w'') :
    Calls Tryz.prog 8 #[.agg #[.slice A0 n0 c0, .slice A1 n1 c1, .int .i64 start, .slice A3 n3 c3]] w fun e w' => e = .returned (.tuple #[.slice none 0 0, .int .i64 r]) ∧ Below w.heap.size w w' := by
  have hr0 : (r == 0) = false := by simpa using hr
  have hr1 : (r != 0) = true := by simpa using hr
  clear hr
  have hb0 := below_alloc (Below.refl w.heap.size w) (.cells #[.slice A0 n0 c0, .slice A1 n1 c1, .int .i64 start, .slice A3 n3 c3] 28)
  have HC := HR _ hb0
  clear HR
  go_enter Tryz.func8, Tryz.ntmps8
  go_wp2_with (go_at_call 24; refine HC.mono ?_)
  rintro e w1 ⟨rfl, h1⟩
  have hb1 := below_then hb0 (by simp) h1
  clear h1 hb0
  go_wp2
  go_ret2
  exact ⟨rfl, hb1⟩
set_option maxHeartbeats 2000000 in
set_option maxRecDepth 100000 in
theorem u1_first (B W g : Nat) (fz : Nat × Nat) (n : Int) (w : World) (hle : B ≤ W) (hbk : w.heap[W]? = some (.cells #[.slice (some ⟨g, 0, none⟩) 8 8] 71 (0, 0))) (hg : w.heap[g]? = some (.cells (nums .u8 magic).toArray 5 fz)) (hgB : B ≤ g) :
    Calls Tryz.prog 25 #[.pointer (some ⟨W, 0, none⟩), .int .i64 n] w fun e w' => e = .returned (.tuple #[]) ∧ Wrote B W (magic ++ [n % 256]) w w' := by
  obtain ⟨i0, hi, hz0, hz1, hz2⟩ := info_parts infoB
  have hBw : B ≤ w.heap.size := Nat.le_trans hle (Nat.le_of_lt (blk_lt hbk))
  have c0 : w.cell? ⟨W, 0, none⟩ = some (.slice (some ⟨g, 0, none⟩) 8 8) := (blk_cell hbk 0).trans rfl
  have hcv0 : IntKind.u8.wrap n = n % 256 := IntKind.wrap_u8' _
  have hg1 := blk_alloc hg (.cells #[.int .u8 (n % 256)] 5)
  have hold : ∀ j u, (nums .u8 magic)[j]? = some u → (w.alloc (.cells #[.int .u8 (n % 256)] 5)).cell? ((⟨g, 0, none⟩ : Addr).add j) = some u := fun j u hj => by
    rw [add_plain]
    show (match (w.alloc (.cells #[.int .u8 (n % 256)] 5)).heap[g]? with
      | some (.cells c _ _) => c[j]?
      | _ => none) = some u
    rw [hg1]
    simpa using hj
  have HO := Aside0.mk hold
  clear hold
  go_enter Tryz.func25, Tryz.ntmps25
  go_wp2_with (at_builtin; refine wpList_append_grows _ rfl _ _ 30 rfl 5 i0 (.int .u8 0) 1 1 Tryz.underlying30 hi hz0 hz1 hz2 rfl (by decide) (some ⟨g, 0, none⟩) 8 8 (nums .u8 magic) rfl (fun h => by cases h) rfl (fun b hb => by cases hb; exact HO.out) ⟨w.heap.size, 0, none⟩ 1 1 [.int .u8 (n % 256)] rfl rfl ?c1 ?c2 (by decide) (by decide) (by decide) ?_)
  case c1 =>
    intro j u hj
    match j, hj with
    | 0, hj => simp at hj; subst hj; simp [Addr.add]
  case c2 => intro u hu; simp at hu; subst hu; rfl
  intro v' w2 hown' hgrow
  have hb1 := blk_alloc hbk (.cells #[.int .u8 (n % 256)] 5)
  have hb2 : w2.heap[W]? = some (.cells #[.slice (some ⟨g, 0, none⟩) 8 8] 71 (0, 0)) := by rw [hgrow.block W (blk_lt hb1) (fun e => by cases e)]; exact hb1
  have c1 : w2.cell? ⟨W, 0, none⟩ = some (.slice (some ⟨g, 0, none⟩) 8 8) := (blk_cell hb2 0).trans rfl
  have f1 : w2.frozen? ⟨W, 0, none⟩ = false := blk_frozen hb2 0
  obtain ⟨ao, co, rfl⟩ := own_slice hown'
  have hlt := blk_lt hb1
  have hltw := blk_lt hbk
  have hB2 : B ≤ (w.alloc (.cells #[.int .u8 (n % 256)] 5)).heap.size := by simp; omega
  have hne' : (Value.slice ao (8 + 1) co).ownBlock ≠ some W := fun e => by
    have := own_base hown' W e
    omega
  have hall : Wrote B W (magic ++ [n % 256]) w (w2.setCell ⟨W, 0, none⟩ (.slice ao (8 + 1) co)) := by
    refine ⟨⟨hle, _, (blk_set hb2 0 _).trans rfl, ?_, hne'⟩, ?_, ?_⟩
    · exact own_weaken (own_setCell hown' (p := ⟨W, 0, none⟩) (fun e => hne' e.symm) _) (show B ≤ w.heap.size + 1 by omega)
    · exact ((((Below.refl B w).alloc hBw _).grown hgrow (by simp; omega) (fun k hk => by cases hk))).setCell (p := ⟨W, 0, none⟩) hle _
    · refine Oth.setCell (fun i x t fr hi ht hne => ?_) 0 _
      have h1 := (Oth.refl W w).alloc (.cells #[.int .u8 (n % 256)] 5) i x t fr hi ht hne
      rw [hgrow.block i (blk_lt h1) (fun e => by cases e)]
      exact h1
  go_wp2
  go_end0
  exact ⟨rfl, hall⟩
set_option maxHeartbeats 8000000 in
set_option maxRecDepth 100000 in
theorem spec_ok (lex : List S42) (names : List ByteArray) (start : Int) (prods : List S67) (A0 A1 A3 : Option Addr) (c0 c1 c3 : Nat) (w : World)
    (h0 : Fb k42 w w.heap.size A0 lex.length lex) (h1 : Fb Kd.string w w.heap.size A1 names.length names) (h3 : Fb k67 w w.heap.size A3 prods.length prods)
    (hT : TabVar w) (hw : 0 < w.heap.size) (hlen : (encSpec lex names start prods).length + 4 ≤ 67108864)
    (HR : ∀ w' : World, Below w.heap.size w w' → Calls Tryz.prog 24 #[.agg #[.slice A0 lex.length c0, .slice A1 names.length c1, .int .i64 start, .slice A3 prods.length c3]] w' fun e w'' => e = .returned (.int .i64 0) ∧ Below w'.heap.size w' w'') :
    Calls Tryz.prog 8 #[.agg #[.slice A0 lex.length c0, .slice A1 names.length c1, .int .i64 start, .slice A3 prods.length c3]] w fun e w' => ∃ v, e = .returned (.tuple #[v, .int .i64 0]) ∧
      w'.ownsRow w.heap.size 5 1 v (summed (encSpec lex names start prods)).length (nums .u8 (summed (encSpec lex names start prods))) ∧ Below w.heap.size w w' := by
  have hm0 := Kd.F_max h0
  have hm1 := Kd.F_max h1
  have hm3 := Kd.F_max h3
  have H0 := Aside0.mk h0
  have H1 := Aside0.mk h1
  have H3 := Aside0.mk h3
  clear h0 h1 h3
  have HT := Aside0.mk hT
  clear hT
  have hb0 := below_alloc (Below.refl w.heap.size w) (.cells #[.slice A0 lex.length c0, .slice A1 names.length c1, .int .i64 start, .slice A3 prods.length c3] 28)
  have hbox0 := blk_new w (.cells #[.slice A0 lex.length c0, .slice A1 names.length c1, .int .i64 start, .slice A3 prods.length c3] 28)
  have HC := HR _ hb0
  clear HR
  have HL : Hid ((encSpec lex names start prods).length + 4 ≤ 67108864) := Lib.hid hlen
  clear hlen
  have hl : 8 + 1 + (lex.flatMap encRule).length + 1 + (names.flatMap encName).length + 1 + 2 + (prods.flatMap encProd).length + 4 ≤ 67108864 := by
    have := HL.out
    unfold encSpec at this
    simp only [List.length_append, List.length_cons, List.length_nil, b2, magic] at this
    omega
  have hl : 8 + 1 + (lex.flatMap encRule).length + 1 + (names.flatMap encName).length + 1 + 2 + (prods.flatMap encProd).length + 4 ≤ 140737488355328 := by omega
  go_enter Tryz.func8, Tryz.ntmps8
  go_wp2_with (go_at_call 24; refine HC.mono ?_)
  rintro e w1 ⟨rfl, hk1⟩
  have hb1 := below_then hb0 (by simp) hk1
  have hbox1 : w1.heap[w.heap.size]? = some (.cells #[.slice A0 lex.length c0, .slice A1 names.length c1, .int .i64 start, .slice A3 prods.length c3] 28 (0, 0)) := (hk1.block _ (by simp)).trans hbox0
  have hsz : w.heap.size < w1.heap.size := blk_lt hbox1
  clear hk1 hb0 hbox0 HC
  have kc := fun (w : World) (C : Array Value) (n c : Nat) => Lib.run_convert_bytes_const (P := Tryz.prog) w 30 5 C n c Tryz.underlying30 Tryz.underlying5
  obtain ⟨wm, hWm⟩ : ∃ wm, (w1.alloc (.cells #[.int .u8 103, .int .u8 114, .int .u8 97, .int .u8 102, .int .u8 116, .int .u8 115, .int .u8 112, .int .u8 101] 5 (8, 9))).alloc (.cells #[.slice (some ⟨w1.heap.size, 0, none⟩) 8 8] 71) = wm := ⟨_, rfl⟩
  have hbm : Below w1.heap.size w1 wm := by rw [← hWm]; exact ((Below.refl _ w1).alloc (Nat.le_refl _) _).alloc (by simp) _
  have hbw : wm.heap[w1.heap.size + 1]? = some (.cells #[.slice (some ⟨w1.heap.size, 0, none⟩) 8 8] 71 (0, 0)) := by
    rw [← hWm]
    have := blk_new (w1.alloc (.cells #[.int .u8 103, .int .u8 114, .int .u8 97, .int .u8 102, .int .u8 116, .int .u8 115, .int .u8 112, .int .u8 101] 5 (8, 9))) (.cells #[.slice (some ⟨w1.heap.size, 0, none⟩) 8 8] 71)
    rw [World.size_alloc] at this
    exact this
  have hbg : wm.heap[w1.heap.size]? = some (.cells (nums .u8 magic).toArray 5 (8, 9)) := by
    rw [← hWm]
    exact blk_alloc (blk_new w1 _) _
  have hboxm := (hbm.block _ hsz).trans hbox1
  have p0 : wm.cell? ⟨w.heap.size, 0, none⟩ = some (.slice A0 lex.length c0) := (blk_cell hboxm 0).trans rfl
  have hin : ∀ {wx : World}, Below w1.heap.size wm wx → Below w.heap.size w wx := fun h => (hb1.trans (hbm.mono (Nat.le_of_lt hsz))).trans (h.mono (Nat.le_of_lt hsz))
  have HIN := Aside0.mk @hin
  clear hin
  have K1 := Aside0.mk (u1_first w1.heap.size (w1.heap.size + 1) w1.heap.size (8, 9) lex.length wm (by omega) hbw hbg (Nat.le_refl _))
  have HBX := Aside0.mk hboxm
  clear hbm hbw hbg hboxm
  subst hWm
  go_wp2_with (go_at_call 25; refine K1.out.mono ?_)
  rintro e w2 ⟨rfl, k2⟩
  have hboxm := HBX.out
  have s2 := k2
  have f2 := (s2.below.block _ hsz).trans hboxm
  have p1 : w2.cell? ⟨w.heap.size, 0, none⟩ = some (.slice A0 lex.length c0) := (blk_cell f2 0).trans rfl
  go_wp2_with (go_at_call 26; refine (eachRule w1.heap.size (w1.heap.size + 1) _ A0 _ c0 lex _ k2.wb (H0.out.at (HIN.out s2.below) (Nat.le_of_lt hsz)) (by simp only [List.length_append, List.length_cons, List.length_nil, magic]; omega)).mono ?_)
  rintro e w3 ⟨rfl, k3⟩
  have s3 := s2.trans k3
  have f3 := (s3.below.block _ hsz).trans hboxm
  have p2 : w3.cell? ⟨w.heap.size, 1, none⟩ = some (.slice A1 names.length c1) := (blk_cell f3 1).trans rfl
  go_wp2_with (go_at_call 25; refine (u1 w1.heap.size (w1.heap.size + 1) _ names.length _ k3.wb (by simp only [List.length_append, List.length_cons, List.length_nil, magic]; omega)).mono ?_)
  rintro e w4 ⟨rfl, k4⟩
  have s4 := s3.trans k4
  have f4 := (s4.below.block _ hsz).trans hboxm
  have p3 : w4.cell? ⟨w.heap.size, 1, none⟩ = some (.slice A1 names.length c1) := (blk_cell f4 1).trans rfl
  go_wp2_with (go_at_call 28; refine (eachName w1.heap.size (w1.heap.size + 1) _ A1 _ c1 names _ k4.wb (H1.out.at (HIN.out s4.below) (Nat.le_of_lt hsz)) (by simp only [List.length_append, List.length_cons, List.length_nil, magic]; omega)).mono ?_)
  rintro e w5 ⟨rfl, k5⟩
  have s5 := s4.trans k5
  have f5 := (s5.below.block _ hsz).trans hboxm
  have p4 : w5.cell? ⟨w.heap.size, 2, none⟩ = some (.int .i64 start) := (blk_cell f5 2).trans rfl
  go_wp2_with (go_at_call 25; refine (u1 w1.heap.size (w1.heap.size + 1) _ start _ k5.wb (by simp only [List.length_append, List.length_cons, List.length_nil, magic]; omega)).mono ?_)
  rintro e w6 ⟨rfl, k6⟩
  have s6 := s5.trans k6
  have f6 := (s6.below.block _ hsz).trans hboxm
  have p5 : w6.cell? ⟨w.heap.size, 3, none⟩ = some (.slice A3 prods.length c3) := (blk_cell f6 3).trans rfl
  go_wp2_with (go_at_call 30; refine (u2 w1.heap.size (w1.heap.size + 1) _ prods.length _ k6.wb (by simp only [List.length_append, List.length_cons, List.length_nil, magic]; omega)).mono ?_)
  rintro e w7 ⟨rfl, k7⟩
  have s7 := s6.trans k7
  have f7 := (s7.below.block _ hsz).trans hboxm
  have p6 : w7.cell? ⟨w.heap.size, 3, none⟩ = some (.slice A3 prods.length c3) := (blk_cell f7 3).trans rfl
  go_wp2_with (go_at_call 31; refine (eachProd w1.heap.size (w1.heap.size + 1) _ A3 _ c3 prods _ k7.wb (H3.out.at (HIN.out s7.below) (Nat.le_of_lt hsz)) (by simp only [List.length_append, List.length_cons, List.length_nil, magic]; omega)).mono ?_)
  rintro e w8 ⟨rfl, k8⟩
  have s8 := s7.trans k8
  have hwb8 : WB w1.heap.size (w1.heap.size + 1) (encSpec lex names start prods) w8 := by
    have := k8.wb
    unfold encSpec b2
    simpa using this
  have HW8 := Aside0.mk hwb8
  have hb8 := HIN.out s8.below
  clear hwb8 k2 k3 k4 k5 k6 k7 k8 s2 s3 s4 s5 s6 s7
  go_wp2_with (go_at_call 33; refine (sealed w1.heap.size (w1.heap.size + 1) _ _ HW8.out (tab_below HT.out hw hb8) (by omega) (bytes_spec _ _ _ _) HL.out).mono ?_)
  rintro e w9 ⟨v9, rfl, k9, k10⟩
  have hend := hb8.trans (k10.mono (Nat.le_of_lt hsz))
  have hown := own_weaken k9 (Nat.le_of_lt hsz)
  clear k9 k10 s8 hb8
  obtain ⟨a9, c9, rfl⟩ := own_slice hown
  go_wp2
  go_ret2
  exact ⟨_, rfl, hown, hend⟩
end Go.Proofs.YtpnkifincadakaaGreatDoor.Wr
end
section
namespace Go.Pk
open Go.RowKit Go.Proofs.YtpnkifincadakaaGreatDoorW.PrintWords Go.Proofs.YtpnkifincadakaaGreatDoor.PPackSpecs
theorem w64 {n : Int} (h0 : -9223372036854775808 ≤ n) (h1 : n ≤ 9223372036854775807) : wrap64 n = n := by
  unfold wrap64
  omega
theorem drop_at {α : Type} {l : List α} {i : Nat} (h : i < l.length) : l.drop i = l[i] :: l.drop (i + 1) := List.drop_eq_getElem_cons h
theorem rd40 {l : List S40} {i : Nat} (h : i < l.length) : rd_T40 l (i : Int) = l[i] := by
  unfold rd_T40
  rw [Int.toNat_natCast, List.getD_eq_getElem?_getD, List.getElem?_eq_getElem h]
  rfl
theorem sizeL_drop {l : List S40} {i : Nat} (h : i < l.length) : sizeL (l.drop i) = sizeE l[i] + sizeL (l.drop (i + 1)) := by rw [drop_at h]; simp [sizeL]
theorem depL_drop {l : List S40} {i : Nat} (h : i < l.length) : depL (l.drop i) = max (depE l[i]) (depL (l.drop (i + 1))) := by rw [drop_at h]; simp [depL]
theorem rightL_drop {l : List S40} {i : Nat} (h : i < l.length) : rightL (l.drop i) = (rightE l[i] && rightL (l.drop (i + 1))) := by rw [drop_at h]; simp [rightL]
theorem posL_drop {l : List S40} {i : Nat} (h : i < l.length) : posL (l.drop i) = posE l[i] + posL (l.drop (i + 1)) := by rw [drop_at h]; simp [posL]
theorem pos_bound (n : Nat) : (∀ e, sizeE e ≤ n → rightE e = true → 0 ≤ posE e ∧ posE e ≤ 4097) ∧ ∀ l, sizeL l ≤ n → rightL l = true → 0 ≤ posL l ∧ posL l ≤ 4097 * l.length := by
  induction n with
  | zero =>
    refine ⟨fun e h => by have := sizeE_pos e; omega, fun l h _ => ?_⟩
    cases l with
    | nil => simp [posL]
    | cons x r => have := sizeE_pos x; simp [sizeL] at h; omega
  | succ n ih =>
    have hE : ∀ e, sizeE e ≤ n + 1 → rightE e = true → 0 ≤ posE e ∧ posE e ≤ 4097 := fun e h hr => (posL_nonneg_E e).resolve_right (by rw [hr]; simp)
    refine ⟨hE, fun l => ?_⟩
    induction l with
    | nil => intro _ _; simp [posL]
    | cons x r ihr =>
      intro h hr
      simp only [sizeL] at h
      simp only [rightL, Bool.and_eq_true] at hr
      have h1 := hE x (by omega) hr.1
      have h2 := ihr (by omega) hr.2
      simp only [posL, List.length_cons]
      omega
theorem copies_bound {e : S40} (h : rightE e = true) (h4 : e.f0 = 4) : 0 ≤ copiesOf e ∧ copiesOf e ≤ 1000 ∧ e.f5.length = 1 := by
  rw [rightE_eq, Bool.and_eq_true] at h
  have h0 := h.1
  unfold ownOk at h0
  rw [if_neg (by omega), if_neg (by omega), if_neg (by omega), if_pos h4] at h0
  simp only [decide_eq_true_eq] at h0
  refine ⟨?_, ?_, h0.2.2.1⟩ <;> (unfold copiesOf; split <;> omega)
end Go.Pk
end
section
namespace Go.Pk
open Go.RowKit Go.Proofs.YtpnkifincadakaaGreatDoorW.PrintWords Go.Proofs.YtpnkifincadakaaGreatDoor.PPackSpecs
mutual
/-- No list is longer than memory. -/
def limE : S40 → Prop | ⟨_, _, _, _, _, l⟩ => l.length ≤ 140737488355328 ∧ limL l
def limL : List S40 → Prop | [] => True | x :: r => limE x ∧ limL r
end
theorem limE_eq (e : S40) : limE e = (e.f5.length ≤ 140737488355328 ∧ limL e.f5) := by cases e; simp [limE]
end Go.Pk
end
section
namespace Go.Pk
open Go.RowKit Go.Proofs.YtpnkifincadakaaGreatDoorW.PrintWords Go.Proofs.YtpnkifincadakaaGreatDoor.PPackSpecs
def symOk (x : S85) (nl nn : Nat) : Bool :=
  if x.f0 = 1 then decide (0 ≤ x.f1 ∧ x.f1 < (nl : Int)) else if x.f0 = 2 then decide (x.f1 = 0) else if x.f0 = 3 then decide (0 ≤ x.f1 ∧ x.f1 < (nn : Int)) else false
def rightLong (l : List S67) : Bool := l.any fun p => decide (16 < p.f1.length)
def lexErr : List S42 → Int
  | [] => 0
  | x :: r => if 64 < x.f0.size then 2 else if chk x.f2 = 0 then lexErr r else chk x.f2
def nameLong (l : List ByteArray) : Bool := l.any fun s => decide (64 < s.size)
def prodBad (nl nn : Nat) (p : S67) : Bool := decide (p.f0 < 0 ∨ (nn : Int) ≤ p.f0) || p.f1.any fun x => !symOk x nl nn
def specErr (lex : List S42) (names : List ByteArray) (start : Int) (prods : List S67) : Int :=
  if 64 < lex.length ∨ 128 < names.length ∨ 512 < prods.length then 2
  else if rightLong prods = true then 2
  else if lexErr lex = 0 then
    if nameLong names = true then 2
    else if start < 0 ∨ (names.length : Int) ≤ start then 70
    else if (prods.any (prodBad lex.length names.length)) = true then 70
    else 0
  else lexErr lex
theorem any_drop {α : Type} (f : α → Bool) {l : List α} {i : Nat} (h : i < l.length) : (l.drop i).any f = (f l[i] || (l.drop (i + 1)).any f) := by
  rw [List.drop_eq_getElem_cons h]; rfl
theorem lexErr_drop {l : List S42} {i : Nat} (h : i < l.length) : lexErr (l.drop i) = if 64 < l[i].f0.size then 2 else if chk l[i].f2 = 0 then lexErr (l.drop (i + 1)) else chk l[i].f2 := by
  rw [List.drop_eq_getElem_cons h]; rfl
end Go.Pk
end
section
namespace Go.Pk
open Go.RowKit Go.Proofs.YtpnkifincadakaaGreatDoorW.PrintWords Go.Proofs.YtpnkifincadakaaGreatDoor.PPackSpecs
theorem rd42 {l : List S42} {i : Nat} (h : i < l.length) : rd_T42 l (i : Int) = l[i] := by
  unfold rd_T42
  rw [Int.toNat_natCast, List.getD_eq_getElem?_getD, List.getElem?_eq_getElem h]
  rfl
theorem rd67 {l : List S67} {i : Nat} (h : i < l.length) : rd_T67 l (i : Int) = l[i] := by
  unfold rd_T67
  rw [Int.toNat_natCast, List.getD_eq_getElem?_getD, List.getElem?_eq_getElem h]
  rfl
theorem i_succ (i : Nat) (h : i < 9223372036854775807) : wrap64 ((i : Int) + 1) = ((i + 1 : Nat) : Int) := by rw [w64 (by omega) (by omega)]; omega
end Go.Pk
end
section
namespace Go.Proofs.YtpnkifincadakaaGreatDoor.PPackSpecs
open Go.RowKit Go.Proofs.YtpnkifincadakaaGreatDoorW.PrintWords Go.Proofs.YtpnkifincadakaaGreatDoorW.PrintLast Go.Proofs.YtpnkifincadakaaGreatDoorW.PrintMore
attribute [local go_sem] max2_int min2_int max_two min_two
def graftlaw18_same.l0 : Nat → List Int → List Int → Int → Option (Bool)
  | 0, _, _, _ => none
  | k + 1, x0, x1, x5 => if x5 < (x0.length : Int) then (if 0 ≤ x5 then (if x5 < (x1.length : Int) then (if (rd x0 x5) = (rd x1 x5) then (graftlaw18_same.l0 k x0 x1 (wrap64 (x5 + 1))) else (some false)) else (none)) else (none)) else (some true)
def graftlaw18_same.f (k : Nat) (l0 : List Int) (l1 : List Int) : Option (Bool) := if (l0.length : Int) = (l1.length : Int) then (graftlaw18_same.l0 k l0 l1 0) else (some false)
set_option maxHeartbeats 8000000 in
set_option maxRecDepth 100000 in
theorem graftlaw18_same.calls (k : Nat) (A0 : Option Addr) (c0 : Nat) (l0 : List Int) (A1 : Option Addr) (c1 : Nat) (l1 : List Int) (r : Bool) (w : World) (hr0 : Kd.C (Kd.int .u8) w A0 l0.length l0) (hc0 : l0.length ≤ c0) (hr1 : Kd.C (Kd.int .u8) w A1 l1.length l1) (hc1 : l1.length ≤ c1) (h : graftlaw18_same.f k l0 l1 = some r) :
    Calls Tryz.prog 10 #[.slice A0 l0.length c0, .slice A1 l1.length c1] w fun e w' => e = .returned (.bool r) ∧ Drawn0 w w' := by
  have HR0 := Aside0.mk hr0
  have HC0 := Aside0.mk hc0
  clear hr0 hc0
  have HR1 := Aside0.mk hr1
  have HC1 := Aside0.mk hc1
  clear hr1 hc1
  have H : (if (l0.length : Int) = (l1.length : Int) then (graftlaw18_same.l0 k l0 l1 0) else (some false)) = some r := h
  clear h
  by_cases c3 : (l0.length : Int) = (l1.length : Int)
  · rw [if_pos c3] at H
    have c3b0 : ((l0.length : Int) == (l1.length : Int)) = true := beq_iff_eq.mpr c3
    have c3b1 : ((l0.length : Int) != (l1.length : Int)) = false := bne_eq_false_iff_eq.mpr c3
    have c3b2 : (l0.length == l1.length) = true := by first | simpa using c3 | (simp at c3 ⊢; omega)
    clear c3
    have H' := Aside0.mk H
    clear H
    go_enter Tryz.func10, Tryz.ntmps10
    go_wp2
    repeat (go_quiet (fail); try go_wp2)
    go_loopg [5] k (fun kq v5 w' => ∃ (x5_1 : Int), v5 = .int .i64 x5_1 ∧ Aside0 (graftlaw18_same.l0 kq l0 l1 x5_1 = some r) ∧ Aside0 (kq ≤ k) ∧ Drawn0 w w')
    case atStart => exact ⟨(0), (by first | rfl | (simp; done) | (simp [*]; done)), H', ⟨Nat.le_refl _⟩, by repeat (first | exact Drawn0.refl _ | apply Drawn0.step)⟩
    case round =>
      clear H'
      try clear c1
      try clear p2
      try clear c3
      try clear c3b0
      try clear c3b1
      try clear c3b2
      obtain ⟨x5_1, rfl, HA, HK1, ⟨m1, rfl⟩⟩ := hrel
      cases gk with
      | zero => exact absurd HA.out (by simp [graftlaw18_same.l0])
      | succ k1 =>
        have H := HA.out
        clear HA
        simp only [graftlaw18_same.l0] at H
        by_cases c4 : x5_1 < (l0.length : Int)
        · rw [if_pos c4] at H
          have c4b0 : decide (x5_1 < (l0.length : Int)) = true := decide_eq_true c4
          clear c4
          by_cases c5 : 0 ≤ x5_1
          · rw [if_pos c5] at H
            have c5b0 : decide (0 ≤ x5_1) = true := decide_eq_true c5
            clear c5
            by_cases c6 : x5_1 < (l1.length : Int)
            · rw [if_pos c6] at H
              have c6b0 : decide (x5_1 < (l1.length : Int)) = true := decide_eq_true c6
              clear c6
              by_cases c7 : (rd l0 x5_1) = (rd l1 x5_1)
              · rw [if_pos c7] at H
                have c7b0 : ((rd l0 x5_1) == (rd l1 x5_1)) = true := beq_iff_eq.mpr c7
                have c7b1 : ((rd l0 x5_1) != (rd l1 x5_1)) = false := bne_eq_false_iff_eq.mpr c7
                clear c7
                have H' := Aside0.mk H
                clear H
                have p418 : 0 ≤ (x5_1 : Int) := of_decide_eq_true (by first | (with_reducible assumption) | assumption)
                have q418 : x5_1 < (l0.length : Int) := of_decide_eq_true (by first | (with_reducible assumption) | assumption)
                obtain ⟨ad418, e418, hx418_0⟩ := Kd.at_int HR0.out x5_1 p418 q418
                cases e418
                replace p418 := eq_true p418
                replace q418 := eq_true q418
                have p419 : 0 ≤ (x5_1 : Int) := of_decide_eq_true (by first | (with_reducible assumption) | assumption)
                have q419 : x5_1 < (l1.length : Int) := of_decide_eq_true (by first | (with_reducible assumption) | assumption)
                obtain ⟨ad419, e419, hx419_0⟩ := Kd.at_int HR1.out x5_1 p419 q419
                cases e419
                replace p419 := eq_true p419
                replace q419 := eq_true q419
                go_wp2
                repeat (go_quiet (fail); try go_wp2)
                go_roundg k1
                case measure => have := HK1.out; omega
                case rel => exact ⟨(wrap64 (x5_1 + 1)), (by first | rfl | (simp; done) | (simp [*]; done)), H', ⟨by have := HK1.out; omega⟩, by repeat (first | exact Drawn0.refl _ | apply Drawn0.step)⟩
              · rw [if_neg c7] at H
                have c7b0 : ((rd l0 x5_1) == (rd l1 x5_1)) = false := beq_eq_false_iff_ne.mpr c7
                have c7b1 : ((rd l0 x5_1) != (rd l1 x5_1)) = true := bne_iff_ne.mpr c7
                obtain rfl := Option.some.inj H
                have p418 : 0 ≤ (x5_1 : Int) := of_decide_eq_true (by first | (with_reducible assumption) | assumption)
                have q418 : x5_1 < (l0.length : Int) := of_decide_eq_true (by first | (with_reducible assumption) | assumption)
                obtain ⟨ad418, e418, hx418_0⟩ := Kd.at_int HR0.out x5_1 p418 q418
                cases e418
                replace p418 := eq_true p418
                replace q418 := eq_true q418
                have p419 : 0 ≤ (x5_1 : Int) := of_decide_eq_true (by first | (with_reducible assumption) | assumption)
                have q419 : x5_1 < (l1.length : Int) := of_decide_eq_true (by first | (with_reducible assumption) | assumption)
                obtain ⟨ad419, e419, hx419_0⟩ := Kd.at_int HR1.out x5_1 p419 q419
                cases e419
                replace p419 := eq_true p419
                replace q419 := eq_true q419
                go_wp2
                repeat (go_quiet (fail); try go_wp2)
                go_ret
                exact ⟨by first | rfl | (simp; done) | (simp [*]; done), by repeat (first | exact Drawn0.refl _ | apply Drawn0.step)⟩
            · rw [if_neg c6] at H
              exact absurd H (by simp)
          · rw [if_neg c5] at H
            exact absurd H (by simp)
        · rw [if_neg c4] at H
          have c4b0 : decide (x5_1 < (l0.length : Int)) = false := decide_eq_false c4
          clear c4
          obtain rfl := Option.some.inj H
          go_wp2
          repeat (go_quiet (fail); try go_wp2)
          go_ret
          exact ⟨by first | rfl | (simp; done) | (simp [*]; done), by repeat (first | exact Drawn0.refl _ | apply Drawn0.step)⟩
  · rw [if_neg c3] at H
    have c3b0 : ((l0.length : Int) == (l1.length : Int)) = false := beq_eq_false_iff_ne.mpr c3
    have c3b1 : ((l0.length : Int) != (l1.length : Int)) = true := bne_iff_ne.mpr c3
    have c3b2 : (l0.length == l1.length) = false := by first | simpa using c3 | (simp at c3 ⊢; omega)
    obtain rfl := Option.some.inj H
    go_enter Tryz.func10, Tryz.ntmps10
    go_wp2
    repeat (go_quiet (fail); try go_wp2)
    go_ret
    exact ⟨by first | rfl | (simp; done) | (simp [*]; done), by repeat (first | exact Drawn0.refl _ | apply Drawn0.step)⟩
end Go.Proofs.YtpnkifincadakaaGreatDoor.PPackSpecs
end
section
namespace Go.Proofs.YtpnkifincadakaaGreatDoor.Wr
open Go.RowKit Go.Pk Go.Proofs.YtpnkifincadakaaGreatDoorW.PrintWords Go.Proofs.YtpnkifincadakaaGreatDoor.PPackSpecs
abbrev Ob (w : World) (B : Nat) (v : Value) (bs : List Int) : Prop := w.ownsRow B 5 1 v bs.length (nums .u8 bs)
theorem Ob.form {w : World} {B : Nat} {v : Value} {bs : List Int} (h : Ob w B v bs) (hp : 0 < bs.length) : ∃ g cap, v = .slice (some ⟨g, 0, none⟩) bs.length cap ∧ B ≤ g ∧ g < w.heap.size ∧ (∀ j u, (nums .u8 bs)[j]? = some u → w.cell? ((⟨g, 0, none⟩ : Addr).add j) = some u) := by
  rcases h.2 with ⟨_, h0⟩ | ⟨g, cap, cur, hv, hB, hh, h3⟩
  · omega
  · have hg : v.ownBlock = some g := by rw [hv]; rfl
    exact ⟨g, cap, hv, hB, own_lt h g hg, h.cells hg⟩
theorem Ob.below {w w' : World} {B : Nat} {v : Value} {bs : List Int} (h : Ob w B v bs) (hb : Below w.heap.size w w') : Ob w' B v bs := pw_own_below h hb
theorem one_nums (l : List Int) : ∀ u ∈ nums .u8 l, u.oneCell' = true := by
  intro u hu
  obtain ⟨x, _, rfl⟩ := List.mem_map.1 hu
  rfl
end Go.Proofs.YtpnkifincadakaaGreatDoor.Wr
end
section
namespace Go.Proofs.YtpnkifincadakaaGreatDoor.Wr
open Go.RowKit Go.Pk Go.Proofs.YtpnkifincadakaaGreatDoorW.PrintWords Go.Proofs.YtpnkifincadakaaGreatDoor.PPackSpecs
def Box (w : World) (b : Nat) (cs : Array Value) (t : TypeId) (wr : World) : Prop := Below b w wr ∧ wr.heap[b]? = some (.cells cs t (0, 0))
theorem Box.start (w : World) (cs : Array Value) (t : TypeId) : Box w w.heap.size cs t (w.alloc (.cells cs t)) := ⟨below_alloc (Below.refl _ _) _, blk_new _ _⟩
theorem Box.alloc {w wr : World} {b : Nat} {cs : Array Value} {t : TypeId} (h : Box w b cs t wr) (o : Obj) : Box w b cs t (wr.alloc o) := ⟨h.1.alloc (Nat.le_of_lt (blk_lt h.2)) o, blk_alloc h.2 o⟩
theorem Box.then {w wr w' : World} {b : Nat} {cs : Array Value} {t : TypeId} (h : Box w b cs t wr) (k : Below wr.heap.size wr w') : Box w b cs t w' := ⟨h.1.trans (k.mono (Nat.le_of_lt (blk_lt h.2))), (k.block _ (blk_lt h.2)).trans h.2⟩
theorem Box.cell {w wr : World} {b : Nat} {cs : Array Value} {t : TypeId} (h : Box w b cs t wr) (j : Nat) : wr.cell? ⟨b, j, none⟩ = cs[j]? := blk_cell h.2 j
theorem C_at {α : Type} {d : Kd α} {w : World} {A : Option Addr} {n : Nat} {xs : List α} (h : d.C w A n xs) (k : Nat) (hk : k < xs.length) :
    ∃ ad c, A = some ad ∧ d.K w xs[k] c ∧ (∀ u, c[0]? = some u → w.cell? (ad.add (k * d.sz)) = some u) ∧ (∀ j u, 0 < j → c[j]? = some u → w.cell? ⟨(ad.add (k * d.sz)).block, (ad.add (k * d.sz)).off + j, none⟩ = some u) := by
  have hn := Kd.C_len h
  obtain ⟨ad, c, e, _, hK, hc⟩ := Kd.C_get h xs[k] (k : Int) (by omega) (by omega)
  simp only [Int.toNat_natCast] at hK hc
  rw [List.getD_eq_getElem?_getD, List.getElem?_eq_getElem hk] at hK
  refine ⟨ad, c, e, hK, fun u hu => ?_, fun j u hj hu => ?_⟩
  · have := hc 0 u hu
    simpa using this
  · have := hc j u hu
    rw [add_field _ _ _ hj] at this
    exact this
theorem ret_of {r n : Int} (h : r = n) : Ending.returned (.int .i64 n) = Ending.returned (.int .i64 r) := by rw [h]
theorem bf {x y : Int} (h : x ≠ y) : (x == y) = false ∧ (x != y) = true := ⟨by simpa using h, by simpa using h⟩
theorem bt {x y : Int} (h : x = y) : (x == y) = true ∧ (x != y) = false := ⟨by simpa using h, by simpa using h⟩
theorem df {p : Prop} [Decidable p] (h : ¬ p) : decide p = false ∧ True := ⟨decide_eq_false h, trivial⟩
def Bx (w : World) (A : Option Addr) (n c : Nat) (wr : World) : Prop := ∃ cs, Box w w.heap.size cs 40 wr ∧ cs[5]? = some (.slice A n c)
theorem Bx.below {w wr : World} {A : Option Addr} {n c : Nat} (h : Bx w A n c wr) : Below w.heap.size w wr := by obtain ⟨cs, h, _⟩ := h; exact h.1
theorem Bx.then {w wr w' : World} {A : Option Addr} {n c : Nat} (h : Bx w A n c wr) (k : Below wr.heap.size wr w') : Bx w A n c w' := by obtain ⟨cs, h, e⟩ := h; exact ⟨cs, h.then k, e⟩
theorem Bx.alloc {w wr : World} {A : Option Addr} {n c : Nat} (h : Bx w A n c wr) (o : Obj) : Bx w A n c (wr.alloc o) := by obtain ⟨cs, h, e⟩ := h; exact ⟨cs, h.alloc o, e⟩
theorem Bx.start (w : World) (a b d f g : Int) (A : Option Addr) (n c : Nat) : Bx w A n c (w.alloc (.cells #[.int .i64 a, .int .i64 b, .int .i64 d, .int .i64 f, .int .i64 g, .slice A n c] 40)) := ⟨_, Box.start w _ 40, rfl⟩
end Go.Proofs.YtpnkifincadakaaGreatDoor.Wr
end
section
namespace Go.Proofs.YtpnkifincadakaaGreatDoor.Wr
open Go.RowKit Go.Pk Go.Proofs.YtpnkifincadakaaGreatDoorW.PrintWords Go.Proofs.YtpnkifincadakaaGreatDoorW.PrintLast Go.Proofs.YtpnkifincadakaaGreatDoorW.PrintMore Go.Proofs.YtpnkifincadakaaGreatDoor.PPackSpecs
attribute [local go_sem] max2_int min2_int max_two min_two
def Wk (so deep n d : Int) (e : S40) : Prop := so + sizeE e ≤ 4096 ∧ n = so + sizeE e ∧ d = deep + depE e - 1 ∨ 4096 < so + sizeE e ∧ n = 4097
def Wl (so deep s m : Int) (l r : List S40) : Prop := s ≤ 4096 ∧ s + sizeL r = so + 1 + sizeL l ∧ deep ≤ m ∧ max m (deep + depL r) = deep + depL l ∨ s = 4097 ∧ 4096 < so + 1 + sizeL l
set_option maxHeartbeats 16000000 in
set_option maxRecDepth 100000 in
theorem walked142 (n : Nat) : ∀ (e : S40), sizeE e ≤ n → ∀ (deep so : Int), 0 ≤ so → so ≤ 4096 → 0 ≤ deep → deep ≤ so + 1 → ∀ (A : Option Addr) (c : Nat) (w : World), k40.C w A e.f5.length e.f5 →
    Calls Tryz.prog 142 #[.agg #[.int .i64 e.f0, .int .i64 e.f1, .int .i64 e.f2, .int .i64 e.f3, .int .i64 e.f4, .slice A e.f5.length c], .int .i64 deep, .int .i64 so] w fun r w' => ∃ n d, r = .returned (.tuple #[.int .i64 n, .int .i64 d]) ∧ Below w.heap.size w w' ∧ Aside0 (Wk so deep n d e) := by
  induction n with
  | zero => intro e h; have := sizeE_pos e; omega
  | succ n ih =>
    intro e hn deep so hs0 hs1 hd0 hd1 A c w hC
    have hW : ∀ n d, Wk so deep n d e ↔ (so + 1 + sizeL e.f5 ≤ 4096 ∧ n = so + 1 + sizeL e.f5 ∧ d = deep + depL e.f5 ∨ 4096 < so + 1 + sizeL e.f5 ∧ n = 4097) := fun n d => by
      unfold Wk
      rw [sizeE_eq, depE_eq]
      omega
    rw [sizeE_eq] at hn
    have HW := Aside0.mk hW
    clear hW
    obtain ⟨W, hW⟩ : ∃ W : Int → Int → Prop, W = fun n d => Wk so deep n d e := ⟨_, rfl⟩
    have HW2 : Aside0 (∀ n d, W n d ↔ (so + 1 + sizeL e.f5 ≤ 4096 ∧ n = so + 1 + sizeL e.f5 ∧ d = deep + depL e.f5 ∨ 4096 < so + 1 + sizeL e.f5 ∧ n = 4097)) := ⟨by rw [hW]; exact HW.out⟩
    refine (?_ : Calls _ _ _ _ fun r w' => ∃ n d, r = .returned (.tuple #[.int .i64 n, .int .i64 d]) ∧ Below w.heap.size w w' ∧ Aside0 (W n d)).mono (by rw [hW]; exact fun _ _ h => h)
    clear hW HW
    obtain ⟨a, b, x2, f, g, l⟩ := e
    dsimp only at hn hC HW2 ⊢
    have hm := Kd.C_max hC
    have HC := Aside0.mk hC
    have IH := Aside0.mk ih
    have HN := Aside0.mk hn
    clear hC ih hn
    have HB := Aside0.mk (Bx.start w a b x2 f g A l.length c)
    have HS : Aside0 (Wl so deep (so + 1) deep l l) := ⟨by unfold Wl; omega⟩
    go_enter Tryz.func142, Tryz.ntmps142
    go_wp2
    go_loopw [2, 8, 19] (fun v m i wr => ∃ (k : Nat) (s t : Int), k ≤ l.length ∧ v = .int .i64 s ∧ m = .int .i64 t ∧ i = .int .i64 k ∧ so + 1 ≤ s ∧ s ≤ 4097 ∧ Aside0 (Below w.heap.size w wr) ∧ Aside0 (Wl so deep s t l (l.drop k))) (fun _ _ i _ => l.length - (intOf i).toNat)
    case atStart => exact ⟨0, so + 1, deep, Nat.zero_le _, rfl, rfl, rfl, by omega, by omega, ⟨HB.out.below⟩, HS⟩
    case round =>
      obtain ⟨k, s, t, hk, rfl, rfl, rfl, hq0, hq1, hX, hI⟩ := hrel
      by_cases hlt : k < l.length
      · obtain ⟨ad, cs, rfl, hK, hc0, hc1⟩ := C_at (Kd.C_below HC.out hX.out) k hlt
        obtain ⟨A7, c7, rfl, l7, g7⟩ := k40_open hK
        have d0 : wr.cell? (ad.add (k * 6)) = some (.int .i64 l[k].f0) := hc0 _ rfl
        have d1 : wr.cell? ⟨(ad.add (k * 6)).block, (ad.add (k * 6)).off + 1, none⟩ = some (.int .i64 l[k].f1) := hc1 1 _ (by decide) rfl
        have d2 : wr.cell? ⟨(ad.add (k * 6)).block, (ad.add (k * 6)).off + 2, none⟩ = some (.int .i64 l[k].f2) := hc1 2 _ (by decide) rfl
        have d3 : wr.cell? ⟨(ad.add (k * 6)).block, (ad.add (k * 6)).off + 3, none⟩ = some (.int .i64 l[k].f3) := hc1 3 _ (by decide) rfl
        have d4 : wr.cell? ⟨(ad.add (k * 6)).block, (ad.add (k * 6)).off + 4, none⟩ = some (.int .i64 l[k].f4) := hc1 4 _ (by decide) rfl
        have d5 : wr.cell? ⟨(ad.add (k * 6)).block, (ad.add (k * 6)).off + 5, none⟩ = some (.slice A7 l[k].f5.length c7) := hc1 5 _ (by decide) rfl
        have hsz : sizeE l[k] ≤ n := by
          have := mem_size _ _ (List.getElem_mem hlt)
          have := HN.out
          omega
        have HSZ := Aside0.mk (sizeL_drop hlt)
        have HDP := Aside0.mk (depL_drop hlt)
        have HPO := Aside0.mk (sizeE_pos l[k])
        have HDO := Aside0.mk (depE_pos l[k])
        have HS := Aside0.mk fun (h : s ≤ 4096) o => IH.out l[k] hsz (deep + 1) s (by omega) h (by omega) (by omega) A7 c7 (wr.alloc o) (Kd.C_alloc g7 o)
        have HX2 := Aside0.mk fun o => below_alloc hX.out o
        clear hK hc0 hc1 g7 hsz
        generalize l[k] = x at *
        by_cases h4 : 4096 < s
        · have HR : Aside0 (W s t) := ⟨by
            rw [HW2.out]
            have := hI.out
            unfold Wl at this
            omega⟩
          go_wp2
          go_ret2
          exact ⟨_, _, rfl, HX2.out _, HR⟩
        · have h4' : decide (4096 < s) = false := decide_eq_false h4
          have HS2 := Aside0.mk (HS.out (by omega))
          clear HS
          go_wp2_with (go_at_call 142; refine (HS2.out _).mono ?_)
          first | rintro e w2 n' d' rfl k2 HQ | rintro e w2 ⟨n', d', rfl, k2, HQ⟩
          have hX2 := Aside0.mk ((HX2.out _).trans (k2.mono (Nat.le_trans hX.out.size (by simp))))
          have hR : s ≤ n' ∧ n' ≤ 4097 := by
            have := HQ.out
            have := HPO.out
            unfold Wk at *
            omega
          obtain ⟨hR0, hR1⟩ := hR
          clear k2
          go_wp2
          all_goals
            go_roundw
            case rel => exact ⟨k + 1, n', _, by omega, rfl, rfl, by go_num, by omega, by omega, hX2, ⟨by
              have h1 := hI.out
              have h2 := HQ.out
              have h3 := HSZ.out
              have h4 := HDP.out
              have h5 := HDO.out
              unfold Wl at h1 ⊢
              unfold Wk at h2
              omega⟩⟩
            case measure => simp [intOf]; omega
      · obtain rfl : k = l.length := by omega
        have HR : Aside0 (W s t) := ⟨by
          rw [HW2.out]
          have := hI.out
          unfold Wl at this
          rw [List.drop_length] at this
          simp only [sizeL, depL] at this
          omega⟩
        go_wp2
        go_ret2
        exact ⟨_, _, rfl, hX.out, HR⟩
end Go.Proofs.YtpnkifincadakaaGreatDoor.Wr
end
