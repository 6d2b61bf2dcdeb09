/- Proved: part 15 of the proof of PackSpecs (Wr5, Wr6, Wr7, Pl1). Conditions: each theorem states its own. -/
import Derived.ArgAppend
import Derived.Lib.SlBytesConst
import Derived.Test.YtpnkifincadakaaGreatDoorQ14
set_option linter.unusedVariables false
set_option linter.unusedSimpArgs false
section
namespace Go.Proofs.YtpnkifincadakaaGreatDoor.Wr
open Go.RowKit Go.Pk Go.Proofs.YtpnkifincadakaaGreatDoorW.PrintWords Go.Proofs.YtpnkifincadakaaGreatDoor.PPackSpecs
def encRule (x : S42) : List Int := [(if x.f1 = true then (1 : Int) else 0) % 256] ++ encName x.f0 ++ encE x.f2
def encProd (x : S67) : List Int := [x.f0 % 256] ++ [(x.f1.length : Int) % 256] ++ x.f1.flatMap encSym
set_option maxHeartbeats 4000000 in
set_option maxRecDepth 100000 in
theorem rule (B W : Nat) (bs : List Int) (x : S42) (A7 : Option Addr) (c7 : Nat) (w : World) (h : WB B W bs w) (hf : Fb k40 w B A7 x.f2.f5.length x.f2.f5) (hc : x.f2.f5.length ≤ c7) (hlen : bs.length + (encRule x).length ≤ 140737488355328) :
    Calls Tryz.prog 27 #[.pointer (some ⟨W, 0, none⟩), .agg #[.string x.f0, .bool x.f1, .int .i64 x.f2.f0, .int .i64 x.f2.f1, .int .i64 x.f2.f2, .int .i64 x.f2.f3, .int .i64 x.f2.f4, .slice A7 x.f2.f5.length c7]] w fun e w' => e = .returned (.tuple #[]) ∧ Wrote B W (bs ++ encRule x) w w' := by
  have HF := Aside0.mk hf
  clear hf
  have ha := (Wrote.refl h).alloc (.cells #[.string x.f0, .bool x.f1, .int .i64 x.f2.f0, .int .i64 x.f2.f1, .int .i64 x.f2.f2, .int .i64 x.f2.f3, .int .i64 x.f2.f4, .slice A7 x.f2.f5.length c7] 42)
  have hbox := blk_new w (.cells #[.string x.f0, .bool x.f1, .int .i64 x.f2.f0, .int .i64 x.f2.f1, .int .i64 x.f2.f2, .int .i64 x.f2.f3, .int .i64 x.f2.f4, .slice A7 x.f2.f5.length c7] 42)
  have hneW : w.heap.size ≠ W := by have := h.lt; omega
  cases e1 : x.f1
  · have HH : Hid (encRule x = [(0 : Int) % 256] ++ encName x.f0 ++ encE x.f2) := Lib.hid (by unfold encRule; rw [e1]; rfl)
    rw [HH.out] at hlen ⊢
    simp only [List.length_append, List.length_cons, List.length_nil, encName, bytesOf_length] at hlen
    rw [e1] at hbox ha
    clear e1
    go_enter Tryz.func27, Tryz.ntmps27
    go_wp2_with (go_at_call 25; refine (u1 B W bs 0 _ ha.wb (by omega)).mono ?_)
    rintro e w1 ⟨rfl, h1⟩
    have hb1 := h1.oth _ _ _ _ hbox (by decide) hneW
    have p0 : w1.cell? ⟨w.heap.size, 0, none⟩ = some (.string x.f0) := (blk_cell hb1 0).trans rfl
    go_wp2_with (go_at_call 29; refine (name B W _ x.f0 _ h1.wb (by simp only [List.length_append, List.length_cons, List.length_nil]; omega)).mono ?_)
    rintro e w2 ⟨rfl, h2⟩
    have hb2 := h2.oth _ _ _ _ hb1 (by decide) hneW
    have hall := (ha.trans h1).trans h2
    have p2 : w2.cell? ⟨w.heap.size, 2, none⟩ = some (.int .i64 x.f2.f0) := (blk_cell hb2 2).trans rfl
    have p3 : w2.cell? ⟨w.heap.size, 3, none⟩ = some (.int .i64 x.f2.f1) := (blk_cell hb2 3).trans rfl
    have p4 : w2.cell? ⟨w.heap.size, 4, none⟩ = some (.int .i64 x.f2.f2) := (blk_cell hb2 4).trans rfl
    have p5 : w2.cell? ⟨w.heap.size, 5, none⟩ = some (.int .i64 x.f2.f3) := (blk_cell hb2 5).trans rfl
    have p6 : w2.cell? ⟨w.heap.size, 6, none⟩ = some (.int .i64 x.f2.f4) := (blk_cell hb2 6).trans rfl
    have p7 : w2.cell? ⟨w.heap.size, 7, none⟩ = some (.slice A7 x.f2.f5.length c7) := (blk_cell hb2 7).trans rfl
    go_wp2_with (go_at_call 77; refine (pattern B W (sizeE x.f2) x.f2 _ A7 c7 _ (Nat.le_refl _) hall.wb (HF.out.below hall.below) hc (by simp only [List.length_append, List.length_cons, List.length_nil, bytesOf_length]; omega)).mono ?_)
    rintro e w3 ⟨rfl, h3⟩
    have hend := hall.trans h3
    go_wp2
    go_end0
    refine ⟨rfl, ?_⟩
    simpa [encName] using hend
  · have HH : Hid (encRule x = [(1 : Int) % 256] ++ encName x.f0 ++ encE x.f2) := Lib.hid (by unfold encRule; rw [e1]; rfl)
    rw [HH.out] at hlen ⊢
    simp only [List.length_append, List.length_cons, List.length_nil, encName, bytesOf_length] at hlen
    rw [e1] at hbox ha
    clear e1
    go_enter Tryz.func27, Tryz.ntmps27
    go_wp2_with (go_at_call 25; refine (u1 B W bs 1 _ ha.wb (by omega)).mono ?_)
    rintro e w1 ⟨rfl, h1⟩
    have hb1 := h1.oth _ _ _ _ hbox (by decide) hneW
    have p0 : w1.cell? ⟨w.heap.size, 0, none⟩ = some (.string x.f0) := (blk_cell hb1 0).trans rfl
    go_wp2_with (go_at_call 29; refine (name B W _ x.f0 _ h1.wb (by simp only [List.length_append, List.length_cons, List.length_nil]; omega)).mono ?_)
    rintro e w2 ⟨rfl, h2⟩
    have hb2 := h2.oth _ _ _ _ hb1 (by decide) hneW
    have hall := (ha.trans h1).trans h2
    have p2 : w2.cell? ⟨w.heap.size, 2, none⟩ = some (.int .i64 x.f2.f0) := (blk_cell hb2 2).trans rfl
    have p3 : w2.cell? ⟨w.heap.size, 3, none⟩ = some (.int .i64 x.f2.f1) := (blk_cell hb2 3).trans rfl
    have p4 : w2.cell? ⟨w.heap.size, 4, none⟩ = some (.int .i64 x.f2.f2) := (blk_cell hb2 4).trans rfl
    have p5 : w2.cell? ⟨w.heap.size, 5, none⟩ = some (.int .i64 x.f2.f3) := (blk_cell hb2 5).trans rfl
    have p6 : w2.cell? ⟨w.heap.size, 6, none⟩ = some (.int .i64 x.f2.f4) := (blk_cell hb2 6).trans rfl
    have p7 : w2.cell? ⟨w.heap.size, 7, none⟩ = some (.slice A7 x.f2.f5.length c7) := (blk_cell hb2 7).trans rfl
    go_wp2_with (go_at_call 77; refine (pattern B W (sizeE x.f2) x.f2 _ A7 c7 _ (Nat.le_refl _) hall.wb (HF.out.below hall.below) hc (by simp only [List.length_append, List.length_cons, List.length_nil, bytesOf_length]; omega)).mono ?_)
    rintro e w3 ⟨rfl, h3⟩
    have hend := hall.trans h3
    go_wp2
    go_end0
    refine ⟨rfl, ?_⟩
    simpa [encName] using hend
set_option maxHeartbeats 4000000 in
set_option maxRecDepth 100000 in
theorem eachRule (B W : Nat) (bs : List Int) (A : Option Addr) (n c : Nat) (xs : List S42) (w : World) (h : WB B W bs w) (hf : Fb k42 w B A n xs) (hlen : bs.length + (xs.flatMap encRule).length ≤ 140737488355328) :
    Calls Tryz.prog 26 #[.slice A n c, .func (.func 27) #[.pointer (some ⟨W, 0, none⟩)] #[]] w fun e w' => e = .returned (.tuple #[]) ∧ Wrote B W (bs ++ xs.flatMap encRule) w w' := by
  obtain rfl := Kd.F_len hf
  have hm := Kd.F_max hf
  have HF := Aside0.mk hf
  clear hf
  have H0 := Aside0.mk (Wrote.refl h)
  clear h
  go_enter Tryz.func26, Tryz.ntmps26
  go_wp2
  go_loopw [8] (fun i wr => ∃ k : Nat, k ≤ xs.length ∧ i = .int .i64 k ∧ Aside0 (Wrote B W (bs ++ (xs.take k).flatMap encRule) w wr)) (fun i _ => xs.length - (intOf i).toNat)
  case atStart => exact ⟨0, Nat.zero_le _, rfl, ⟨by simpa using H0.out⟩⟩
  case round =>
    obtain ⟨k, hk, rfl, hR⟩ := hrel
    by_cases hlt : k < xs.length
    · obtain ⟨ad, cs, rfl, hK, hc0, hc1⟩ := F_at (HF.out.below hR.out.below) k hlt
      have hmem := List.getElem_mem hlt
      obtain ⟨A7, c7, rfl, l7, g7⟩ := k42_openF hK
      clear hK
      have d0 : wr.cell? (ad.add (k * 8)) = some (.string xs[k].f0) := hc0 _ rfl
      have d1 : wr.cell? ⟨(ad.add (k * 8)).block, (ad.add (k * 8)).off + 1, none⟩ = some (.bool xs[k].f1) := hc1 1 _ (by decide) rfl
      have d2 : wr.cell? ⟨(ad.add (k * 8)).block, (ad.add (k * 8)).off + 2, none⟩ = some (.int .i64 xs[k].f2.f0) := hc1 2 _ (by decide) rfl
      have d3 : wr.cell? ⟨(ad.add (k * 8)).block, (ad.add (k * 8)).off + 3, none⟩ = some (.int .i64 xs[k].f2.f1) := hc1 3 _ (by decide) rfl
      have d4 : wr.cell? ⟨(ad.add (k * 8)).block, (ad.add (k * 8)).off + 4, none⟩ = some (.int .i64 xs[k].f2.f2) := hc1 4 _ (by decide) rfl
      have d5 : wr.cell? ⟨(ad.add (k * 8)).block, (ad.add (k * 8)).off + 5, none⟩ = some (.int .i64 xs[k].f2.f3) := hc1 5 _ (by decide) rfl
      have d6 : wr.cell? ⟨(ad.add (k * 8)).block, (ad.add (k * 8)).off + 6, none⟩ = some (.int .i64 xs[k].f2.f4) := hc1 6 _ (by decide) rfl
      have d7 : wr.cell? ⟨(ad.add (k * 8)).block, (ad.add (k * 8)).off + 7, none⟩ = some (.slice A7 xs[k].f2.f5.length c7) := hc1 7 _ (by decide) rfl
      clear hc0 hc1
      have HS : Hid ((xs.take (k + 1)).flatMap encRule = (xs.take k).flatMap encRule ++ encRule xs[k]) := Lib.hid (flat_snoc encRule xs k hlt)
      have hl := flat_le encRule xs (k + 1)
      rw [HS.out, List.length_append] at hl
      generalize xs[k] = x at *
      go_wp2_with fail
      refine (rule B W _ x A7 c7 _ (hR.out.alloc _).wb (Kd.F_alloc g7 _) l7 (by rw [List.length_append]; omega)).mono ?_
      rintro e w2 ⟨rfl, h2⟩
      have h3 := (hR.out.alloc _).trans h2
      rw [List.append_assoc] at h3
      go_wp2
      go_roundw
      case rel => exact ⟨k + 1, by omega, by go_num, ⟨by rw [HS.out]; exact h3⟩⟩
      case measure => simp [intOf]; omega
    · obtain rfl : k = xs.length := by omega
      rw [List.take_length] at hR
      have hR := Aside0.mk hR.out
      go_wp2
      go_end0
      exact ⟨rfl, hR.out⟩
set_option maxHeartbeats 4000000 in
set_option maxRecDepth 100000 in
theorem production (B W : Nat) (bs : List Int) (x : S67) (A1 : Option Addr) (c1 : Nat) (w : World) (h : WB B W bs w) (hf : Fb k85 w B A1 x.f1.length x.f1) (hc : x.f1.length ≤ c1) (hlen : bs.length + (encProd x).length ≤ 140737488355328) :
    Calls Tryz.prog 32 #[.pointer (some ⟨W, 0, none⟩), .agg #[.int .i64 x.f0, .slice A1 x.f1.length c1]] w fun e w' => e = .returned (.tuple #[]) ∧ Wrote B W (bs ++ encProd x) w w' := by
  have HF := Aside0.mk hf
  clear hf
  have ha := (Wrote.refl h).alloc (.cells #[.int .i64 x.f0, .slice A1 x.f1.length c1] 67)
  have hbox := blk_new w (.cells #[.int .i64 x.f0, .slice A1 x.f1.length c1] 67)
  have hneW : w.heap.size ≠ W := by have := h.lt; omega
  have hpos : x.f1.length ≤ 9223372036854775807 := Kd.F_max HF.out
  simp only [encProd, List.length_append, List.length_cons, List.length_nil] at hlen
  go_enter Tryz.func32, Tryz.ntmps32
  go_wp2_with (go_at_call 25; refine (u1 B W bs x.f0 _ ha.wb (by omega)).mono ?_)
  rintro e w1 ⟨rfl, h1⟩
  have hb1 := h1.oth _ _ _ _ hbox (by decide) hneW
  have p1 : w1.cell? ⟨w.heap.size, 1, none⟩ = some (.slice A1 x.f1.length c1) := (blk_cell hb1 1).trans rfl
  go_wp2_with (go_at_call 25; refine (u1 B W _ x.f1.length _ h1.wb (by simp only [List.length_append, List.length_cons, List.length_nil]; omega)).mono ?_)
  rintro e w2 ⟨rfl, h2⟩
  have hb2 := h2.oth _ _ _ _ hb1 (by decide) hneW
  have q1 : w2.cell? ⟨w.heap.size, 1, none⟩ = some (.slice A1 x.f1.length c1) := (blk_cell hb2 1).trans rfl
  have hall := (ha.trans h1).trans h2
  go_wp2_with (go_at_call 78; refine (eachSym B W _ A1 _ c1 x.f1 _ hall.wb (HF.out.below hall.below) (by simp only [List.length_append, List.length_cons, List.length_nil]; omega)).mono ?_)
  rintro e w3 ⟨rfl, h3⟩
  have hend := hall.trans h3
  go_wp2
  go_end0
  refine ⟨rfl, ?_⟩
  simpa [encProd] using hend
set_option maxHeartbeats 4000000 in
set_option maxRecDepth 100000 in
theorem eachProd (B W : Nat) (bs : List Int) (A : Option Addr) (n c : Nat) (xs : List S67) (w : World) (h : WB B W bs w) (hf : Fb k67 w B A n xs) (hlen : bs.length + (xs.flatMap encProd).length ≤ 140737488355328) :
    Calls Tryz.prog 31 #[.slice A n c, .func (.func 32) #[.pointer (some ⟨W, 0, none⟩)] #[]] w fun e w' => e = .returned (.tuple #[]) ∧ Wrote B W (bs ++ xs.flatMap encProd) w w' := by
  obtain rfl := Kd.F_len hf
  have hm := Kd.F_max hf
  have HF := Aside0.mk hf
  clear hf
  have H0 := Aside0.mk (Wrote.refl h)
  clear h
  go_enter Tryz.func31, Tryz.ntmps31
  go_wp2
  go_loopw [8] (fun i wr => ∃ k : Nat, k ≤ xs.length ∧ i = .int .i64 k ∧ Aside0 (Wrote B W (bs ++ (xs.take k).flatMap encProd) w wr)) (fun i _ => xs.length - (intOf i).toNat)
  case atStart => exact ⟨0, Nat.zero_le _, rfl, ⟨by simpa using H0.out⟩⟩
  case round =>
    obtain ⟨k, hk, rfl, hR⟩ := hrel
    by_cases hlt : k < xs.length
    · obtain ⟨ad, cs, rfl, hK, hc0, hc1⟩ := F_at (HF.out.below hR.out.below) k hlt
      have hmem := List.getElem_mem hlt
      obtain ⟨A1, c1, rfl, l1, g1⟩ := k67_openF hK
      clear hK
      have d0 : wr.cell? (ad.add (k * 2)) = some (.int .i64 xs[k].f0) := hc0 _ rfl
      have d1 : wr.cell? ⟨(ad.add (k * 2)).block, (ad.add (k * 2)).off + 1, none⟩ = some (.slice A1 xs[k].f1.length c1) := hc1 1 _ (by decide) rfl
      clear hc0 hc1
      have HS : Hid ((xs.take (k + 1)).flatMap encProd = (xs.take k).flatMap encProd ++ encProd xs[k]) := Lib.hid (flat_snoc encProd xs k hlt)
      have hl := flat_le encProd xs (k + 1)
      rw [HS.out, List.length_append] at hl
      generalize xs[k] = x at *
      go_wp2_with fail
      refine (production B W _ x A1 c1 _ (hR.out.alloc _).wb (Kd.F_alloc g1 _) l1 (by rw [List.length_append]; omega)).mono ?_
      rintro e w2 ⟨rfl, h2⟩
      have h3 := (hR.out.alloc _).trans h2
      rw [List.append_assoc] at h3
      go_wp2
      go_roundw
      case rel => exact ⟨k + 1, by omega, by go_num, ⟨by rw [HS.out]; exact h3⟩⟩
      case measure => simp [intOf]; omega
    · obtain rfl : k = xs.length := by omega
      rw [List.take_length] at hR
      have hR := Aside0.mk hR.out
      go_wp2
      go_end0
      exact ⟨rfl, hR.out⟩
end Go.Proofs.YtpnkifincadakaaGreatDoor.Wr
end
section
namespace Go.Proofs.YtpnkifincadakaaGreatDoor.Wr
open Go.RowKit Go.Pk Go.Proofs.YtpnkifincadakaaGreatDoorW.PrintWords Go.Proofs.YtpnkifincadakaaGreatDoor.PPackSpecs
open Go.Am (TabVar sum_any)
theorem mod_byte (n : Int) : 0 ≤ n % 256 ∧ n % 256 < 256 := ⟨by omega, by omega⟩
theorem bytes_cons {x : Int} {xs : List Int} (h : 0 ≤ x ∧ x < 256) (hs : Bytes xs) : Bytes (x :: xs) := fun y hy => by
  rcases List.mem_cons.1 hy with rfl | hy
  · exact h
  · exact hs y hy
theorem bytes_flat {α : Type} (f : α → List Int) (h : ∀ x, Bytes (f x)) (l : List α) : Bytes (l.flatMap f) := fun y hy => by
  obtain ⟨x, _, hx⟩ := List.mem_flatMap.1 hy
  exact h x y hx
theorem bytes_of (s : ByteArray) : Bytes (bytesOf s) := fun y hy => by
  obtain ⟨b, _, rfl⟩ := List.mem_map.1 hy
  have := b.toNat_lt
  omega
theorem bytes_b1 (n : Int) : Bytes (b1 n) := bytes_cons (mod_byte n) Bytes.nil
theorem bytes_b2 (n : Int) : Bytes (b2 n) := bytes_cons (mod_byte n) (bytes_cons (mod_byte _) Bytes.nil)
theorem bytes_head (e : S40) : Bytes (headE e) := by
  unfold headE
  split
  · exact (bytes_b1 _).append ((bytes_b1 _).append (bytes_b1 _))
  · split
    · exact (bytes_b1 _).append ((bytes_b2 _).append (bytes_b2 _))
    · exact (bytes_b1 _).append (bytes_b2 _)
theorem bytes_encE (e : S40) : Bytes (encE e) := by
  have h : ∀ n, ∀ e, sizeE e ≤ n → Bytes (encE e) := by
    intro n
    induction n with
    | zero => intro e h; have := sizeE_pos e; omega
    | succ n ih =>
      intro e h
      rw [encE_eq, encL_flat]
      refine (bytes_head e).append fun y hy => ?_
      obtain ⟨x, hx, hxy⟩ := List.mem_flatMap.1 hy
      have := mem_size _ _ hx
      rw [sizeE_eq] at h
      exact ih x (by omega) y hxy
  exact h _ e (Nat.le_refl _)
theorem bytes_name (s : ByteArray) : Bytes (encName s) := bytes_cons (mod_byte _) (bytes_of s)
theorem bytes_rule (x : S42) : Bytes (encRule x) := ((bytes_cons (mod_byte _) Bytes.nil).append (bytes_name _)).append (bytes_encE _)
theorem bytes_sym (x : S85) : Bytes (encSym x) := bytes_cons (mod_byte _) (bytes_cons (mod_byte _) Bytes.nil)
theorem bytes_prod (x : S67) : Bytes (encProd x) := ((bytes_cons (mod_byte _) Bytes.nil).append (bytes_cons (mod_byte _) Bytes.nil)).append (bytes_flat _ bytes_sym _)
def magic : List Int := [103, 114, 97, 102, 116, 115, 112, 101]
def encSpec (lex : List S42) (names : List ByteArray) (start : Int) (prods : List S67) : List Int :=
  magic ++ [(lex.length : Int) % 256] ++ lex.flatMap encRule ++ [(names.length : Int) % 256] ++ names.flatMap encName ++ [start % 256] ++ b2 prods.length ++ prods.flatMap encProd
theorem bytes_magic : Bytes magic := fun y hy => by
  simp only [magic, List.mem_cons, List.mem_nil_iff, or_false] at hy
  omega
theorem bytes_spec (lex : List S42) (names : List ByteArray) (start : Int) (prods : List S67) : Bytes (encSpec lex names start prods) :=
  ((((((bytes_magic.append (bytes_b1 _)).append (bytes_flat _ bytes_rule _)).append (bytes_b1 _)).append (bytes_flat _ bytes_name _)).append (bytes_b1 _)).append (bytes_b2 _)).append (bytes_flat _ bytes_prod _)
def summed (bs : List Int) : List Int := bs ++ b4 (crc bs : Nat)
theorem tab_below {w w' : World} {B : Nat} (h : TabVar w) (hB : 0 < B) (hb : Below B w w') : TabVar w' := fun j v hj => by
  rw [hb.cell (p := ⟨0, j, none⟩) hB]
  exact h j v hj
set_option maxHeartbeats 4000000 in
set_option maxRecDepth 100000 in
theorem sealed (B W : Nat) (bs : List Int) (w : World) (h : WB B W bs w) (hT : TabVar w) (hB : 0 < B) (hby : Bytes bs) (hlen : bs.length + 4 ≤ 67108864) :
    Calls Tryz.prog 33 #[.pointer (some ⟨W, 0, none⟩)] w fun e w' => ∃ v, e = .returned (.tuple #[v, .int .i64 0]) ∧ w'.ownsRow B 5 1 v (summed bs).length (nums .u8 (summed bs)) ∧ Below B w w' := by
  obtain ⟨hle, v, hbk, hown, hne⟩ := h
  have c0 : w.cell? ⟨W, 0, none⟩ = some v := (blk_cell hbk 0).trans rfl
  obtain ⟨A, c, rfl, hrd⟩ := own_reads hown
  have hr : ∀ (j : Nat) x, bs[j]? = some x → ∃ ad, A = some ad ∧ w.cell? (ad.add j) = some (.int .u8 x) := fun j x hj => by
    have hjl := (List.getElem?_eq_some_iff.1 hj).1
    obtain ⟨ad, e, hc⟩ := hrd.at_ (j : Int) (by omega) (by omega)
    refine ⟨ad, e, ?_⟩
    rw [Int.toNat_natCast] at hc
    rw [hc, rd, Int.toNat_natCast, List.getD_eq_getElem?_getD, hj]
    rfl
  have HR := Aside0.mk hr
  clear hr hrd
  have hcl := crc_lt bs
  have hS := sum_any A bs.length c bs w hT rfl (by omega) hby HR.out
  have HC : Hid (b4 (crc bs : Nat) = [(crc bs : Int) % 256, (crc bs : Int) / 256 % 256, (crc bs : Int) / 65536 % 256, (crc bs : Int) / 16777216 % 256]) := Lib.hid rfl
  generalize hq : crc bs = q at *
  have HQ := Lib.hid hq
  clear hq
  go_enter Tryz.func33, Tryz.ntmps33
  go_wp2_with (go_at_call 80; refine hS.mono ?_)
  rintro e w1 ⟨rfl, rfl⟩
  go_wp2_with (go_at_call 73; refine (u4 B W bs q _ ⟨hle, _, hbk, hown, hne⟩ (by omega)).mono ?_)
  rintro e w1 ⟨rfl, h1⟩
  have hsl : (summed bs).length = bs.length + 4 := by unfold summed; rw [List.length_append]; rfl
  have HSU : Hid (summed bs = bs ++ [(q : Int) % 256, (q : Int) / 256 % 256, (q : Int) / 65536 % 256, (q : Int) / 16777216 % 256]) := Lib.hid (by unfold summed; rw [HQ.out, HC.out])
  obtain ⟨v1, hbk1, hown1, hne1⟩ := h1.wb.blk
  have hown2 : w1.ownsRow B 5 1 v1 (summed bs).length (nums .u8 (summed bs)) := by rw [HSU.out]; exact hown1
  rw [hsl] at hown2
  have d0 : w1.cell? ⟨W, 0, none⟩ = some v1 := (blk_cell hbk1 0).trans rfl
  obtain ⟨A1, c1, rfl⟩ := own_slice hown2
  have hb := h1.below
  clear hown1 h1
  have hd : decide ((67108864 : Int) < ((bs.length + 4 : Nat) : Int)) = false := decide_eq_false (by omega)
  clear hlen
  generalize bs.length + 4 = N at *
  have HSL := Lib.hid hsl
  clear hsl
  go_wp2
  go_ret2
  rw [HSL.out]
  exact ⟨_, rfl, hown2, hb⟩
end Go.Proofs.YtpnkifincadakaaGreatDoor.Wr
end
section
namespace Go.Proofs.YtpnkifincadakaaGreatDoor.Wr
open Go.RowKit Go.Pk Go.Proofs.YtpnkifincadakaaGreatDoorW.PrintWords Go.Proofs.YtpnkifincadakaaGreatDoor.PPackSpecs
open Go.Am (TabVar sum_any)
theorem Fb.at {α : Type} {d : Kd α} {w w' : World} {B B' : Nat} {A : Option Addr} {n : Nat} {xs : List α} (h : Fb d w B A n xs) (hb : Below B w w') (hB : B ≤ B') : Fb d w' B' A n xs := Kd.F_mono (h.below hb) fun k hk => Nat.lt_of_lt_of_le hk hB
set_option maxHeartbeats 4000000 in
set_option maxRecDepth 100000 in
theorem spec_err (v0 v1 v3 : Value) (start r : Int) (A0 A1 A3 : Option Addr) (n0 n1 n3 c0 c1 c3 : Nat) (w : World) (hr : r ≠ 0)
    (HR : ∀ w' : World, Below w.heap.size w w' → Calls Tryz.prog 24 #[.agg #[.slice A0 n0 c0, .slice A1 n1 c1, .int .i64 start, .slice A3 n3 c3]] w' fun e w'' => e = .returned (.int .i64 r) ∧ Below w'.heap.size w' w'') :
    Calls Tryz.prog 8 #[.agg #[.slice A0 n0 c0, .slice A1 n1 c1, .int .i64 start, .slice A3 n3 c3]] w fun e w' => e = .returned (.tuple #[.slice none 0 0, .int .i64 r]) ∧ Below w.heap.size w w' := by
  have hr0 : (r == 0) = false := by simpa using hr
  have hr1 : (r != 0) = true := by simpa using hr
  clear hr
  have hb0 := below_alloc (Below.refl w.heap.size w) (.cells #[.slice A0 n0 c0, .slice A1 n1 c1, .int .i64 start, .slice A3 n3 c3] 28)
  have HC := HR _ hb0
  clear HR
  go_enter Tryz.func8, Tryz.ntmps8
  go_wp2_with (go_at_call 24; refine HC.mono ?_)
  rintro e w1 ⟨rfl, h1⟩
  have hb1 := below_then hb0 (by simp) h1
  clear h1 hb0
  go_wp2
  go_ret2
  exact ⟨rfl, hb1⟩
set_option maxHeartbeats 2000000 in
set_option maxRecDepth 100000 in
theorem u1_first (B W g : Nat) (fz : Nat × Nat) (n : Int) (w : World) (hle : B ≤ W) (hbk : w.heap[W]? = some (.cells #[.slice (some ⟨g, 0, none⟩) 8 8] 71 (0, 0))) (hg : w.heap[g]? = some (.cells (nums .u8 magic).toArray 5 fz)) (hgB : B ≤ g) :
    Calls Tryz.prog 25 #[.pointer (some ⟨W, 0, none⟩), .int .i64 n] w fun e w' => e = .returned (.tuple #[]) ∧ Wrote B W (magic ++ [n % 256]) w w' := by
  obtain ⟨i0, hi, hz0, hz1, hz2⟩ := info_parts infoB
  have hBw : B ≤ w.heap.size := Nat.le_trans hle (Nat.le_of_lt (blk_lt hbk))
  have c0 : w.cell? ⟨W, 0, none⟩ = some (.slice (some ⟨g, 0, none⟩) 8 8) := (blk_cell hbk 0).trans rfl
  have hcv0 : IntKind.u8.wrap n = n % 256 := IntKind.wrap_u8' _
  have hg1 := blk_alloc hg (.cells #[.int .u8 (n % 256)] 5)
  have hold : ∀ j u, (nums .u8 magic)[j]? = some u → (w.alloc (.cells #[.int .u8 (n % 256)] 5)).cell? ((⟨g, 0, none⟩ : Addr).add j) = some u := fun j u hj => by
    rw [add_plain]
    show (match (w.alloc (.cells #[.int .u8 (n % 256)] 5)).heap[g]? with
      | some (.cells c _ _) => c[j]?
      | _ => none) = some u
    rw [hg1]
    simpa using hj
  have HO := Aside0.mk hold
  clear hold
  go_enter Tryz.func25, Tryz.ntmps25
  go_wp2_with (at_builtin; refine wpList_append_grows _ rfl _ _ 30 rfl 5 i0 (.int .u8 0) 1 1 Tryz.underlying30 hi hz0 hz1 hz2 rfl (by decide) (some ⟨g, 0, none⟩) 8 8 (nums .u8 magic) rfl (fun h => by cases h) rfl (fun b hb => by cases hb; exact HO.out) ⟨w.heap.size, 0, none⟩ 1 1 [.int .u8 (n % 256)] rfl rfl ?c1 ?c2 (by decide) (by decide) (by decide) ?_)
  case c1 =>
    intro j u hj
    match j, hj with
    | 0, hj => simp at hj; subst hj; simp [Addr.add]
  case c2 => intro u hu; simp at hu; subst hu; rfl
  intro v' w2 hown' hgrow
  have hb1 := blk_alloc hbk (.cells #[.int .u8 (n % 256)] 5)
  have hb2 : w2.heap[W]? = some (.cells #[.slice (some ⟨g, 0, none⟩) 8 8] 71 (0, 0)) := by rw [hgrow.block W (blk_lt hb1) (fun e => by cases e)]; exact hb1
  have c1 : w2.cell? ⟨W, 0, none⟩ = some (.slice (some ⟨g, 0, none⟩) 8 8) := (blk_cell hb2 0).trans rfl
  have f1 : w2.frozen? ⟨W, 0, none⟩ = false := blk_frozen hb2 0
  obtain ⟨ao, co, rfl⟩ := own_slice hown'
  have hlt := blk_lt hb1
  have hltw := blk_lt hbk
  have hB2 : B ≤ (w.alloc (.cells #[.int .u8 (n % 256)] 5)).heap.size := by simp; omega
  have hne' : (Value.slice ao (8 + 1) co).ownBlock ≠ some W := fun e => by
    have := own_base hown' W e
    omega
  have hall : Wrote B W (magic ++ [n % 256]) w (w2.setCell ⟨W, 0, none⟩ (.slice ao (8 + 1) co)) := by
    refine ⟨⟨hle, _, (blk_set hb2 0 _).trans rfl, ?_, hne'⟩, ?_, ?_⟩
    · exact own_weaken (own_setCell hown' (p := ⟨W, 0, none⟩) (fun e => hne' e.symm) _) (show B ≤ w.heap.size + 1 by omega)
    · exact ((((Below.refl B w).alloc hBw _).grown hgrow (by simp; omega) (fun k hk => by cases hk))).setCell (p := ⟨W, 0, none⟩) hle _
    · refine Oth.setCell (fun i x t fr hi ht hne => ?_) 0 _
      have h1 := (Oth.refl W w).alloc (.cells #[.int .u8 (n % 256)] 5) i x t fr hi ht hne
      rw [hgrow.block i (blk_lt h1) (fun e => by cases e)]
      exact h1
  go_wp2
  go_end0
  exact ⟨rfl, hall⟩
set_option maxHeartbeats 8000000 in
set_option maxRecDepth 100000 in
theorem spec_ok (lex : List S42) (names : List ByteArray) (start : Int) (prods : List S67) (A0 A1 A3 : Option Addr) (c0 c1 c3 : Nat) (w : World)
    (h0 : Fb k42 w w.heap.size A0 lex.length lex) (h1 : Fb Kd.string w w.heap.size A1 names.length names) (h3 : Fb k67 w w.heap.size A3 prods.length prods)
    (hT : TabVar w) (hw : 0 < w.heap.size) (hlen : (encSpec lex names start prods).length + 4 ≤ 67108864)
    (HR : ∀ w' : World, Below w.heap.size w w' → Calls Tryz.prog 24 #[.agg #[.slice A0 lex.length c0, .slice A1 names.length c1, .int .i64 start, .slice A3 prods.length c3]] w' fun e w'' => e = .returned (.int .i64 0) ∧ Below w'.heap.size w' w'') :
    Calls Tryz.prog 8 #[.agg #[.slice A0 lex.length c0, .slice A1 names.length c1, .int .i64 start, .slice A3 prods.length c3]] w fun e w' => ∃ v, e = .returned (.tuple #[v, .int .i64 0]) ∧
      w'.ownsRow w.heap.size 5 1 v (summed (encSpec lex names start prods)).length (nums .u8 (summed (encSpec lex names start prods))) ∧ Below w.heap.size w w' := by
  have hm0 := Kd.F_max h0
  have hm1 := Kd.F_max h1
  have hm3 := Kd.F_max h3
  have H0 := Aside0.mk h0
  have H1 := Aside0.mk h1
  have H3 := Aside0.mk h3
  clear h0 h1 h3
  have HT := Aside0.mk hT
  clear hT
  have hb0 := below_alloc (Below.refl w.heap.size w) (.cells #[.slice A0 lex.length c0, .slice A1 names.length c1, .int .i64 start, .slice A3 prods.length c3] 28)
  have hbox0 := blk_new w (.cells #[.slice A0 lex.length c0, .slice A1 names.length c1, .int .i64 start, .slice A3 prods.length c3] 28)
  have HC := HR _ hb0
  clear HR
  have HL : Hid ((encSpec lex names start prods).length + 4 ≤ 67108864) := Lib.hid hlen
  clear hlen
  have hl : 8 + 1 + (lex.flatMap encRule).length + 1 + (names.flatMap encName).length + 1 + 2 + (prods.flatMap encProd).length + 4 ≤ 67108864 := by
    have := HL.out
    unfold encSpec at this
    simp only [List.length_append, List.length_cons, List.length_nil, b2, magic] at this
    omega
  have hl : 8 + 1 + (lex.flatMap encRule).length + 1 + (names.flatMap encName).length + 1 + 2 + (prods.flatMap encProd).length + 4 ≤ 140737488355328 := by omega
  go_enter Tryz.func8, Tryz.ntmps8
  go_wp2_with (go_at_call 24; refine HC.mono ?_)
  rintro e w1 ⟨rfl, hk1⟩
  have hb1 := below_then hb0 (by simp) hk1
  have hbox1 : w1.heap[w.heap.size]? = some (.cells #[.slice A0 lex.length c0, .slice A1 names.length c1, .int .i64 start, .slice A3 prods.length c3] 28 (0, 0)) := (hk1.block _ (by simp)).trans hbox0
  have hsz : w.heap.size < w1.heap.size := blk_lt hbox1
  clear hk1 hb0 hbox0 HC
  have kc := fun (w : World) (C : Array Value) (n c : Nat) => Lib.run_convert_bytes_const (P := Tryz.prog) w 30 5 C n c Tryz.underlying30 Tryz.underlying5
  obtain ⟨wm, hWm⟩ : ∃ wm, (w1.alloc (.cells #[.int .u8 103, .int .u8 114, .int .u8 97, .int .u8 102, .int .u8 116, .int .u8 115, .int .u8 112, .int .u8 101] 5 (8, 9))).alloc (.cells #[.slice (some ⟨w1.heap.size, 0, none⟩) 8 8] 71) = wm := ⟨_, rfl⟩
  have hbm : Below w1.heap.size w1 wm := by rw [← hWm]; exact ((Below.refl _ w1).alloc (Nat.le_refl _) _).alloc (by simp) _
  have hbw : wm.heap[w1.heap.size + 1]? = some (.cells #[.slice (some ⟨w1.heap.size, 0, none⟩) 8 8] 71 (0, 0)) := by
    rw [← hWm]
    have := blk_new (w1.alloc (.cells #[.int .u8 103, .int .u8 114, .int .u8 97, .int .u8 102, .int .u8 116, .int .u8 115, .int .u8 112, .int .u8 101] 5 (8, 9))) (.cells #[.slice (some ⟨w1.heap.size, 0, none⟩) 8 8] 71)
    rw [World.size_alloc] at this
    exact this
  have hbg : wm.heap[w1.heap.size]? = some (.cells (nums .u8 magic).toArray 5 (8, 9)) := by
    rw [← hWm]
    exact blk_alloc (blk_new w1 _) _
  have hboxm := (hbm.block _ hsz).trans hbox1
  have p0 : wm.cell? ⟨w.heap.size, 0, none⟩ = some (.slice A0 lex.length c0) := (blk_cell hboxm 0).trans rfl
  have hin : ∀ {wx : World}, Below w1.heap.size wm wx → Below w.heap.size w wx := fun h => (hb1.trans (hbm.mono (Nat.le_of_lt hsz))).trans (h.mono (Nat.le_of_lt hsz))
  have HIN := Aside0.mk @hin
  clear hin
  have K1 := Aside0.mk (u1_first w1.heap.size (w1.heap.size + 1) w1.heap.size (8, 9) lex.length wm (by omega) hbw hbg (Nat.le_refl _))
  have HBX := Aside0.mk hboxm
  clear hbm hbw hbg hboxm
  subst hWm
  go_wp2_with (go_at_call 25; refine K1.out.mono ?_)
  rintro e w2 ⟨rfl, k2⟩
  have hboxm := HBX.out
  have s2 := k2
  have f2 := (s2.below.block _ hsz).trans hboxm
  have p1 : w2.cell? ⟨w.heap.size, 0, none⟩ = some (.slice A0 lex.length c0) := (blk_cell f2 0).trans rfl
  go_wp2_with (go_at_call 26; refine (eachRule w1.heap.size (w1.heap.size + 1) _ A0 _ c0 lex _ k2.wb (H0.out.at (HIN.out s2.below) (Nat.le_of_lt hsz)) (by simp only [List.length_append, List.length_cons, List.length_nil, magic]; omega)).mono ?_)
  rintro e w3 ⟨rfl, k3⟩
  have s3 := s2.trans k3
  have f3 := (s3.below.block _ hsz).trans hboxm
  have p2 : w3.cell? ⟨w.heap.size, 1, none⟩ = some (.slice A1 names.length c1) := (blk_cell f3 1).trans rfl
  go_wp2_with (go_at_call 25; refine (u1 w1.heap.size (w1.heap.size + 1) _ names.length _ k3.wb (by simp only [List.length_append, List.length_cons, List.length_nil, magic]; omega)).mono ?_)
  rintro e w4 ⟨rfl, k4⟩
  have s4 := s3.trans k4
  have f4 := (s4.below.block _ hsz).trans hboxm
  have p3 : w4.cell? ⟨w.heap.size, 1, none⟩ = some (.slice A1 names.length c1) := (blk_cell f4 1).trans rfl
  go_wp2_with (go_at_call 28; refine (eachName w1.heap.size (w1.heap.size + 1) _ A1 _ c1 names _ k4.wb (H1.out.at (HIN.out s4.below) (Nat.le_of_lt hsz)) (by simp only [List.length_append, List.length_cons, List.length_nil, magic]; omega)).mono ?_)
  rintro e w5 ⟨rfl, k5⟩
  have s5 := s4.trans k5
  have f5 := (s5.below.block _ hsz).trans hboxm
  have p4 : w5.cell? ⟨w.heap.size, 2, none⟩ = some (.int .i64 start) := (blk_cell f5 2).trans rfl
  go_wp2_with (go_at_call 25; refine (u1 w1.heap.size (w1.heap.size + 1) _ start _ k5.wb (by simp only [List.length_append, List.length_cons, List.length_nil, magic]; omega)).mono ?_)
  rintro e w6 ⟨rfl, k6⟩
  have s6 := s5.trans k6
  have f6 := (s6.below.block _ hsz).trans hboxm
  have p5 : w6.cell? ⟨w.heap.size, 3, none⟩ = some (.slice A3 prods.length c3) := (blk_cell f6 3).trans rfl
  go_wp2_with (go_at_call 30; refine (u2 w1.heap.size (w1.heap.size + 1) _ prods.length _ k6.wb (by simp only [List.length_append, List.length_cons, List.length_nil, magic]; omega)).mono ?_)
  rintro e w7 ⟨rfl, k7⟩
  have s7 := s6.trans k7
  have f7 := (s7.below.block _ hsz).trans hboxm
  have p6 : w7.cell? ⟨w.heap.size, 3, none⟩ = some (.slice A3 prods.length c3) := (blk_cell f7 3).trans rfl
  go_wp2_with (go_at_call 31; refine (eachProd w1.heap.size (w1.heap.size + 1) _ A3 _ c3 prods _ k7.wb (H3.out.at (HIN.out s7.below) (Nat.le_of_lt hsz)) (by simp only [List.length_append, List.length_cons, List.length_nil, magic]; omega)).mono ?_)
  rintro e w8 ⟨rfl, k8⟩
  have s8 := s7.trans k8
  have hwb8 : WB w1.heap.size (w1.heap.size + 1) (encSpec lex names start prods) w8 := by
    have := k8.wb
    unfold encSpec b2
    simpa using this
  have HW8 := Aside0.mk hwb8
  have hb8 := HIN.out s8.below
  clear hwb8 k2 k3 k4 k5 k6 k7 k8 s2 s3 s4 s5 s6 s7
  go_wp2_with (go_at_call 33; refine (sealed w1.heap.size (w1.heap.size + 1) _ _ HW8.out (tab_below HT.out hw hb8) (by omega) (bytes_spec _ _ _ _) HL.out).mono ?_)
  rintro e w9 ⟨v9, rfl, k9, k10⟩
  have hend := hb8.trans (k10.mono (Nat.le_of_lt hsz))
  have hown := own_weaken k9 (Nat.le_of_lt hsz)
  clear k9 k10 s8 hb8
  obtain ⟨a9, c9, rfl⟩ := own_slice hown
  go_wp2
  go_ret2
  exact ⟨_, rfl, hown, hend⟩
end Go.Proofs.YtpnkifincadakaaGreatDoor.Wr
end
section
namespace Go.Pk
open Go.RowKit Go.Proofs.YtpnkifincadakaaGreatDoorW.PrintWords Go.Proofs.YtpnkifincadakaaGreatDoor.PPackSpecs
theorem w64 {n : Int} (h0 : -9223372036854775808 ≤ n) (h1 : n ≤ 9223372036854775807) : wrap64 n = n := by
  unfold wrap64
  omega
theorem drop_at {α : Type} {l : List α} {i : Nat} (h : i < l.length) : l.drop i = l[i] :: l.drop (i + 1) := List.drop_eq_getElem_cons h
theorem rd40 {l : List S40} {i : Nat} (h : i < l.length) : rd_T40 l (i : Int) = l[i] := by
  unfold rd_T40
  rw [Int.toNat_natCast, List.getD_eq_getElem?_getD, List.getElem?_eq_getElem h]
  rfl
theorem sizeL_drop {l : List S40} {i : Nat} (h : i < l.length) : sizeL (l.drop i) = sizeE l[i] + sizeL (l.drop (i + 1)) := by rw [drop_at h]; simp [sizeL]
theorem depL_drop {l : List S40} {i : Nat} (h : i < l.length) : depL (l.drop i) = max (depE l[i]) (depL (l.drop (i + 1))) := by rw [drop_at h]; simp [depL]
theorem rightL_drop {l : List S40} {i : Nat} (h : i < l.length) : rightL (l.drop i) = (rightE l[i] && rightL (l.drop (i + 1))) := by rw [drop_at h]; simp [rightL]
theorem posL_drop {l : List S40} {i : Nat} (h : i < l.length) : posL (l.drop i) = posE l[i] + posL (l.drop (i + 1)) := by rw [drop_at h]; simp [posL]
theorem pos_bound (n : Nat) : (∀ e, sizeE e ≤ n → rightE e = true → 0 ≤ posE e ∧ posE e ≤ 4097) ∧ ∀ l, sizeL l ≤ n → rightL l = true → 0 ≤ posL l ∧ posL l ≤ 4097 * l.length := by
  induction n with
  | zero =>
    refine ⟨fun e h => by have := sizeE_pos e; omega, fun l h _ => ?_⟩
    cases l with
    | nil => simp [posL]
    | cons x r => have := sizeE_pos x; simp [sizeL] at h; omega
  | succ n ih =>
    have hE : ∀ e, sizeE e ≤ n + 1 → rightE e = true → 0 ≤ posE e ∧ posE e ≤ 4097 := fun e h hr => (posL_nonneg_E e).resolve_right (by rw [hr]; simp)
    refine ⟨hE, fun l => ?_⟩
    induction l with
    | nil => intro _ _; simp [posL]
    | cons x r ihr =>
      intro h hr
      simp only [sizeL] at h
      simp only [rightL, Bool.and_eq_true] at hr
      have h1 := hE x (by omega) hr.1
      have h2 := ihr (by omega) hr.2
      simp only [posL, List.length_cons]
      omega
theorem copies_bound {e : S40} (h : rightE e = true) (h4 : e.f0 = 4) : 0 ≤ copiesOf e ∧ copiesOf e ≤ 1000 ∧ e.f5.length = 1 := by
  rw [rightE_eq, Bool.and_eq_true] at h
  have h0 := h.1
  unfold ownOk at h0
  rw [if_neg (by omega), if_neg (by omega), if_neg (by omega), if_pos h4] at h0
  simp only [decide_eq_true_eq] at h0
  refine ⟨?_, ?_, h0.2.2.1⟩ <;> (unfold copiesOf; split <;> omega)
end Go.Pk
end
