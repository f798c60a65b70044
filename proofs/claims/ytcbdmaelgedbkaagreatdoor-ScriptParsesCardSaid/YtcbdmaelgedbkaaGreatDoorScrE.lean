/- The walk of script.line. -/
import Derived.Test.YtcbdmaelgedbkaaGreatDoorScrD
import Derived.Lib.OthersKept
namespace Go.Proofs.YtcbdmaelgedbkaaGreatDoor
open Go.RowKit Go.Shelf

theorem cut_kind : ∀ x ∈ kindsT, Lib.cut (kindText x) [32] = (x.1, x.2, !x.2.isEmpty) := by decide +kernel
theorem kinds_letters : ∀ x ∈ kindsT, ∀ c ∈ x.2, 65 ≤ c.toNat ∧ c.toNat < 91 := by decide +kernel
theorem kinds_len : ∀ x ∈ kindsT, x.1.length ≤ 10 ∧ x.2.length ≤ 3 := by decide +kernel
def zeroD : RDeed := ⟨0, 0, 0, 0, ⟨#[]⟩, ⟨#[]⟩, .slice none 0 0, .slice none 0 0, [], []⟩
theorem zeroD_in (w : World) : zeroD.In w := by
  refine ⟨.inl ⟨rfl, rfl⟩, .inl ⟨rfl, rfl⟩, ?_, ?_, ?_, ?_, by decide, by decide, by decide, by decide, by simp [zeroD]⟩ <;> (unfold I64 zeroD; simp)
def lettersAll : List UInt8 := [80, 65, 66, 76, 78, 77, 75]
/-- Does a deed have something under a letter that its kind has not? -/
def viol (d : RDeed) (letters : List UInt8) (c : UInt8) : Bool := !letters.contains c && (partL d c.toNat != partL zeroD c.toNat)
def lineOut (d : RDeed) (x : List UInt8 × List UInt8) : List UInt8 := Lib.join (x.1 :: x.2.map fun c => partL d c.toNat) [32]
/-- A deed's line: the error, the text. -/
def lineR (d : RDeed) : Int × List UInt8 :=
  if d.kind < 0 then (2, []) else match kindsT[d.kind.toNat]? with
  | none => (2, [])
  | some x => if lettersAll.any (viol d x.2) then (2, []) else if 4096 < (lineOut d x).length then (15, []) else (0, lineOut d x)
def errV (n : Int) : Value := if n = 0 then .nilIface else .iface 24 (.int .i64 n)

theorem box_cells {w : World} {b : Nat} {d : RDeed} {t : TypeId} (h : w.heap[b]? = some (.cells #[.int .i64 d.kind, .int .i64 d.n, .int .i64 d.m, .int .i64 d.k, .string d.path, .string d.as_, d.bv, d.kv] t (0, 0))) :
    w.cell? ⟨b, 0, none⟩ = some (.int .i64 d.kind) ∧ w.cell? ⟨b, 1, none⟩ = some (.int .i64 d.n) ∧ w.cell? ⟨b, 2, none⟩ = some (.int .i64 d.m) ∧ w.cell? ⟨b, 3, none⟩ = some (.int .i64 d.k)
      ∧ w.cell? ⟨b, 4, none⟩ = some (.string d.path) ∧ w.cell? ⟨b, 5, none⟩ = some (.string d.as_) ∧ w.cell? ⟨b, 6, none⟩ = some d.bv ∧ w.cell? ⟨b, 7, none⟩ = some d.kv := by
  simp [World.cell?, h]

set_option maxRecDepth 100000 in
set_option maxHeartbeats 2000000 in
theorem line_kind (d : RDeed) (w : World) (hk : d.kind < 0 ∨ 26 ≤ d.kind) :
    Calls Tryz.prog 28 #[d.val] w fun e w' => e = .returned (.tuple #[.string ⟨#[]⟩, .iface 24 (.int .i64 2)]) ∧ Below w.heap.size w w' := by
  unfold RDeed.val
  rcases hk with hk | hk
  · go_enter Tryz.func28, Tryz.ntmps28
    go_wp2_with fail
    refine (names_any _).mono ?_
    rintro e w1 ⟨rfl, hb1, hs1, hc1⟩
    have H := Lib.hid hc1; clear hc1
    have HS := Lib.hid hs1; clear hs1
    have hb2 : Below w.heap.size w w1 := ((Below.refl _ _).alloc (Nat.le_refl _) _).trans (hb1.mono (by simp))
    obtain ⟨hc0, -⟩ := box_cells (w := w1) (b := w.heap.size) (d := d) (t := 44) ((hb1.block w.heap.size (by simp)).trans (heap_alloc_new w _))
    go_wp2_with fail
    go_ret2
    exact ⟨rfl, hb2⟩
  · have hk' : ¬ d.kind < 0 := by omega
    go_enter Tryz.func28, Tryz.ntmps28
    go_wp2_with fail
    refine (names_any _).mono ?_
    rintro e w1 ⟨rfl, hb1, hs1, hc1⟩
    have H := Lib.hid hc1; clear hc1
    have HS := Lib.hid hs1; clear hs1
    have hb2 : Below w.heap.size w w1 := ((Below.refl _ _).alloc (Nat.le_refl _) _).trans (hb1.mono (by simp))
    obtain ⟨hc0, -⟩ := box_cells (w := w1) (b := w.heap.size) (d := d) (t := 44) ((hb1.block w.heap.size (by simp)).trans (heap_alloc_new w _))
    go_wp2_with fail
    go_ret2
    exact ⟨rfl, hb2⟩

theorem idx_not {l : List UInt8} {c : UInt8} (h : l.contains c = false) : Lib.indexByte l c = -1 := by
  rcases Int.lt_or_le (Lib.indexByte l c) 0 with h1 | h1
  · have := Lib.indexByte_ge l c; omega
  · obtain ⟨o, ho⟩ := Int.eq_ofNat_of_zero_le h1
    have := (Lib.indexByte_some ho).1
    have := List.mem_of_getElem? this
    rw [← List.contains_iff_mem, h] at this; cases this
theorem idx_has {l : List UInt8} {c : UInt8} (h : l.contains c = true) : 0 ≤ Lib.indexByte l c := by
  rcases Int.lt_or_le (Lib.indexByte l c) 0 with h1 | h1
  · have h2 : Lib.indexByte l c = -1 := by have := Lib.indexByte_ge l c; omega
    have := List.contains_iff_mem.1 h
    obtain ⟨j, hj, hjc⟩ := List.getElem_of_mem this
    exact absurd (by simp [hj, hjc]) (Lib.indexByte_none h2 j)
  · exact h1

theorem wordL_len (l : List UInt8) : (wordL l).length ≤ 3 * l.length + 1 := by
  unfold wordL
  split
  · simp
  · have := wordL_le l; omega
theorem listL_len (l : List Int) (h : ∀ z ∈ l, I64 z) : (listL l).length ≤ 22 * l.length + 1 := by
  unfold listL
  split
  · simp
  · have := join_le [44] 21 (l.map Lib.itoa) (by
      intro y hy
      obtain ⟨z, hz, rfl⟩ := List.mem_map.1 hy
      exact Lib.itoa_length_le z (h z hz).1 (h z hz).2)
    simp at this; omega
theorem partL_len {w : World} {d : RDeed} (h : d.In w) (c : Int) : (partL d c).length ≤ 400000 := by
  have h1 := h.path; have h2 := h.as_; have h3 := h.b; have h4 := h.keepN
  have e1 := Lib.itoa_length_le d.n h.n.1 h.n.2
  have e2 := Lib.itoa_length_le d.m h.m.1 h.m.2
  have e3 := Lib.itoa_length_le d.k h.k.1 h.k.2
  have e4 := listL_len d.keep h.keep
  have e5 := wordL_len d.path.data.toList
  have e6 := wordL_len d.as_.data.toList
  have e7 := wordL_len d.b
  rw [← Lib.size_eq] at e5 e6
  unfold partL
  repeat' split
  all_goals omega

/-- In the loops of script.line: the iterator, the deed's box, the words so far. -/
structure LineI (d : RDeed) (w : World) (ib : Nat) (s : ByteArray) (pos : Nat) (v : Value) (ts : List (List UInt8)) (wr : World) : Prop where
  it : wr.heap[ib]? = some (.stringIter s pos)
  box : wr.heap[w.heap.size]? = some (.cells #[.int .i64 d.kind, .int .i64 d.n, .int .i64 d.m, .int .i64 d.k, .string d.path, .string d.as_, d.bv, d.kv] 44 (0, 0))
  own : wr.ownsRow w.heap.size 9 1 v ts.length (ts.map encStr)
  bel : Below w.heap.size w wr
  le : w.heap.size ≤ ib
theorem owns_block {w : World} {base : Nat} {e : TypeId} {size : Nat} {v : Value} {n : Nat} {xs : List Value} (h : w.ownsRow base e size v n xs) {k : Nat} (hk : v.ownBlock = some k) : ∃ cur, w.heap[k]? = some (.cells cur e (0, 0)) := by
  rcases h.2 with ⟨rfl, -⟩ | ⟨g, cap, cur, rfl, h2, h3, -⟩
  · simp [Value.ownBlock] at hk
  · simp [Value.ownBlock] at hk; subst hk; exact ⟨cur, h3⟩
theorem grown_iterAt {w : World} {k : Nat} {s : ByteArray} {pos pos' : Nat} (hk : w.heap[k]? = some (.stringIter s pos)) : w.grownBy (w.iterAt k s pos') (some k) :=
  ⟨rfl, rfl, rfl, by rw [Lib.iterAt_size]; exact Nat.le_refl _, fun j _ hj => Lib.iterAt_other w k j s pos' (fun e => hj (by rw [e]))⟩
theorem owns_ne_iter {w : World} {base : Nat} {e : TypeId} {size : Nat} {v : Value} {n : Nat} {xs : List Value} (h : w.ownsRow base e size v n xs) {k : Nat} {s : ByteArray} {p : Nat} (hk : w.heap[k]? = some (.stringIter s p)) : v.ownBlock ≠ some k := by
  intro e
  obtain ⟨cur, h2⟩ := owns_block h e
  rw [h2] at hk; cases hk
theorem owns_ne_type {w : World} {base : Nat} {e e' : TypeId} {size : Nat} {v : Value} {n : Nat} {xs : List Value} (h : w.ownsRow base e size v n xs) {k : Nat} {cs : Array Value} {fz : Nat × Nat} (hk : w.heap[k]? = some (.cells cs e' fz)) (hne : e ≠ e') : v.ownBlock ≠ some k := by
  intro e
  obtain ⟨cur, h2⟩ := owns_block h e
  rw [h2] at hk; cases hk; exact hne rfl
theorem LineI.next {d : RDeed} {w : World} {ib : Nat} {s : ByteArray} {pos : Nat} {v : Value} {ts : List (List UInt8)} {wr : World} (h : LineI d w ib s pos v ts wr) (p : Nat) : LineI d w ib s p v ts (wr.iterAt ib s p) where
  it := Lib.iterAt_heap wr ib s pos p h.it
  box := (Lib.iterAt_other wr ib w.heap.size s p (fun e => by have h1 := h.box; have h2 := h.it; rw [e, h2] at h1; cases h1)).trans h.box
  own := h.own.kept (grown_iterAt h.it) (.inr (owns_ne_iter h.own h.it))
  bel := Lib.below_iterAt h.bel h.le s p
  le := h.le
theorem heap_lt {w : World} {k : Nat} {o : Obj} (h : w.heap[k]? = some o) : k < w.heap.size := (Array.getElem?_eq_some_iff.1 h).1
theorem LineI.below {d : RDeed} {w : World} {ib : Nat} {s : ByteArray} {pos : Nat} {v : Value} {ts : List (List UInt8)} {wr w' : World} (h : LineI d w ib s pos v ts wr) (hb : Below wr.heap.size wr w') : LineI d w ib s pos v ts w' where
  it := (hb.block _ (heap_lt h.it)).trans h.it
  box := (hb.block _ (heap_lt h.box)).trans h.box
  own := owns_below h.own hb
  bel := h.bel.trans (hb.mono h.bel.size)
  le := h.le
theorem LineI.put {d : RDeed} {w : World} {ib : Nat} {s : ByteArray} {pos : Nat} {v v' : Value} {ts : List (List UInt8)} {wr w' : World} {t : List UInt8} (h : LineI d w ib s pos v ts wr) (hown : w'.ownsRow w.heap.size 9 1 v' (ts.length + 1) (ts.map encStr ++ [encStr t])) (hg : wr.grownBy w' v.ownBlock) : LineI d w ib s pos v' (ts ++ [t]) w' where
  it := (hg.block _ (heap_lt h.it) (fun e => owns_ne_iter h.own h.it e.symm)).trans h.it
  box := (hg.block _ (heap_lt h.box) (fun e => owns_ne_type h.own h.box (by decide) e.symm)).trans h.box
  own := by simpa using hown
  bel := h.bel.grown hg h.bel.size (fun q hq => (h.own.lt q hq).1)
  le := h.le

set_option maxRecDepth 100000 in
set_option maxHeartbeats 4000000 in
theorem line_main (d : RDeed) (x : List UInt8 × List UInt8) (w : World) (h0 : 0 ≤ d.kind) (hx : kindsT[d.kind.toNat]? = some x) (hd : d.In w) (he : Env w) :
    Calls Tryz.prog 28 #[d.val] w fun e w' => e = .returned (.tuple #[.string ⟨(lineR d).2.toArray⟩, errV (lineR d).1]) ∧ Below w.heap.size w w' := by
  have hlt : d.kind.toNat < 26 := (List.getElem?_eq_some_iff.1 hx).1
  have hk2 : d.kind < 26 := by omega
  have hmem := List.mem_of_getElem? hx
  have HR : Hid (lineR d = if lettersAll.any (viol d x.2) then (2, []) else if 4096 < (lineOut d x).length then (15, []) else (0, lineOut d x)) := by
    unfold Hid lineR; rw [if_neg (by omega), hx]
  have hcut := cut_kind x hmem
  have hlet := kinds_letters x hmem
  have hlens := kinds_len x hmem
  have HX := Lib.hid hx; have HM := Lib.hid hmem; have HC := Lib.hid hcut; have HL := Lib.hid hlet; have HLN := Lib.hid hlens
  have HD := Lib.hid hd; have HE := Lib.hid he
  clear hx hmem hcut hlet hlens hd he
  obtain ⟨i0, hi, hz0, hz1, hz2⟩ := info_parts info_str
  have HI0 := Lib.hid hi; have HZ0 := Lib.hid hz0; have HZ1 := Lib.hid hz1; have HZ2 := Lib.hid hz2; clear hi hz0 hz1 hz2
  unfold RDeed.val
  go_enter Tryz.func28, Tryz.ntmps28
  go_wp2_with fail
  refine (names_any _).mono ?_
  rintro e w1 ⟨rfl, hb1, hs1, hc1⟩
  have hbox : w1.heap[w.heap.size]? = some (.cells #[.int .i64 d.kind, .int .i64 d.n, .int .i64 d.m, .int .i64 d.k, .string d.path, .string d.as_, d.bv, d.kv] 44 (0, 0)) := (hb1.block w.heap.size (by simp)).trans (heap_alloc_new w _)
  obtain ⟨hc0, -⟩ := box_cells hbox
  have hcx := hc1 _ x HX.out
  have hb2 : Below w.heap.size w w1 := ((Below.refl _ _).alloc (Nat.le_refl _) _).trans (hb1.mono (by simp))
  have HB := Lib.hid hbox; clear hbox
  have HS := Lib.hid hs1; clear hs1 hc1
  simp only [World.size_alloc] at hcx HS
  obtain ⟨mm, hmm⟩ := (HE.out.below hb2).maxLen
  go_wp2_with fail
  have hszt : (kindText x).length < 20 := by
    have := HLN.out
    unfold kindText
    split <;> simp <;> omega
  refine (Tryz.strings_Cut ⟨(kindText x).toArray⟩ ⟨#[32]⟩ mm w1 (by simp [ByteArray.size]; omega) hmm).mono ?_
  rintro e w2 ⟨rfl, n2, rfl⟩
  have e1 : Lib.cut ((⟨(kindText x).toArray⟩ : ByteArray)).data.toList ((⟨#[32]⟩ : ByteArray)).data.toList = (x.1, x.2, !x.2.isEmpty) := HC.out
  rw [e1]
  clear e1 hszt hcx
  go_wp2_with fail
  have HSZ := hb2.size
  have hI0 : LineI d w (w1.heap.size + 1) ⟨x.2.toArray⟩ 0 (.slice (some ⟨w1.heap.size, 0, none⟩) 1 1) [x.1] (((w1.drewN n2).alloc (.cells #[.string ⟨x.1.toArray⟩] 9)).iter ⟨x.2.toArray⟩ 0) := by
    have hb3 : Below w1.heap.size w1 ((w1.drewN n2).alloc (.cells #[.string ⟨x.1.toArray⟩] 9)) := (below_drewN (Below.refl _ _) n2).alloc (by simp) _
    refine ⟨?_, ?_, ?_, ?_, by omega⟩
    · have := World.iter_heap ((w1.drewN n2).alloc (.cells #[.string ⟨x.1.toArray⟩] 9)) ⟨x.2.toArray⟩ 0
      simpa using this
    · rw [World.iter, Below.heap_alloc _ _ _ (by simp; omega)]
      exact (hb3.block _ (heap_lt HB.out)).trans HB.out
    · refine World.ownsRow.alloc ?_ _
      refine ⟨rfl, .inr ⟨w1.heap.size, 1, _, rfl, HSZ, heap_alloc_new (w1.drewN n2) _, Nat.le_refl 1, by unfold maxLen; omega, rfl, rfl⟩⟩
    · exact (hb2.trans (hb3.mono HSZ)).alloc (by simp; omega) _
  obtain ⟨W0, hW0⟩ : ∃ W0, ((w1.drewN n2).alloc (.cells #[.string ⟨x.1.toArray⟩] 9)).iter ⟨x.2.toArray⟩ 0 = W0 := ⟨_, rfl⟩
  obtain ⟨ib, hib⟩ : ∃ ib, w1.heap.size + 1 = ib := ⟨_, rfl⟩
  obtain ⟨v0, hv0⟩ : ∃ v0, Value.slice (some ⟨w1.heap.size, 0, none⟩) 1 1 = v0 := ⟨_, rfl⟩
  rw [hW0, hib, hv0] at hI0 ⊢
  clear hW0 hib hv0 HB HS hc0 hb1 hmm HSZ hb2
  go_loopw [8] (fun v wr => ∃ k : Nat, k ≤ x.2.length ∧ LineI d w ib ⟨x.2.toArray⟩ k v (x.1 :: (x.2.take k).map fun c => partL d c.toNat) wr) (fun _ wr => x.2.length - wr.iterPos ib)
  case atStart => exact ⟨0, Nat.zero_le _, hI0⟩
  case round =>
    clear hI0
    obtain ⟨k, hk, hI⟩ := hrel
    by_cases hlt : k < x.2.length
    · have hp : k < (⟨x.2.toArray⟩ : ByteArray).size := by simpa [ByteArray.size] using hlt
      have hget : (⟨x.2.toArray⟩ : ByteArray)[k] = x.2[k] := by simp [ByteArray.getElem_eq_getElem_data]
      have hasc := HL.out _ (List.getElem_mem hlt)
      have hnx : ∀ ty, (Instr.next (.pointer (some ⟨ib, 0, none⟩)) true ty).run Tryz.prog wr = _ := fun ty => Lib.run_next_ascii_at wr ib ⟨x.2.toArray⟩ k ty hI.it hp (by rw [hget]; omega)
      rw [hget] at hnx
      have hI1 := hI.next (k + 1)
      obtain ⟨q0, q1, q2, q3, q4, q5, q6, q7⟩ := box_cells hI1.box
      go_wp2_with fail
      have HI1 := Lib.hid hI1
      have HW1 : Hid (Below w.heap.size w (wr.iterAt ib ⟨x.2.toArray⟩ (k + 1))) := hI1.bel
      clear hI1 q0 q1 q2 q3 q4 q5 q6 q7 hnx
      refine (part_any d x.2[k].toNat _ (HD.out.below HW1.out) (HE.out.below HW1.out)).mono ?_
      rintro e w3 ⟨rfl, hb3⟩
      have hI3 := HI1.out.below hb3
      have hown3 := hI3.own
      have hsz3 : w.heap.size ≤ w3.heap.size := hI3.bel.size
      have hl3 : (x.1 :: (x.2.take k).map fun c => partL d c.toNat).length = k + 1 := by simp; omega
      rw [hl3] at hown3
      have HL3 := Lib.hid hl3
      clear hl3
      have HIt := Lib.hid hI.it
      have HI3 := Lib.hid hI3; clear hI3 HI1 HW1 hI hb3
      go_wp2_with (at_builtin; refine wpList_append_own _ rfl _ _ 25 rfl w.heap.size 9 i0 _ 1 16 Tryz.underlying25 HI0.out HZ0.out HZ1.out HZ2.out rfl (by decide) _ _ _ rfl (hown3.alloc _) ⟨w3.heap.size, 0, none⟩ 1 1 [encStr (partL d x.2[k].toNat)] rfl rfl (cell_one_new _ _ _) (by simp [Value.oneCell', encStr]) (by unfold maxLen; have := HLN.out; omega) (by have := HLN.out; omega) (by simp; omega) ?_; intro v' w4 hown4 hgrow4 _)
      have hown5 : w4.ownsRow w.heap.size 9 1 v' ((x.1 :: (x.2.take k).map fun c => partL d c.toNat).length + 1) ((x.1 :: (x.2.take k).map fun c => partL d c.toNat).map encStr ++ [encStr (partL d x.2[k].toNat)]) := by
        rw [HL3.out]; exact hown4
      have hgrow5 : (w3.alloc (.cells #[encStr (partL d x.2[k].toNat)] 9)).grownBy w4 u8.ownBlock := hgrow4
      have hI4 := (HI3.out.below ((Below.refl _ _).alloc (Nat.le_refl _) (.cells #[encStr (partL d x.2[k].toNat)] 9))).put hown5 hgrow5
      have hl4 : (x.1 :: (x.2.take (k + 1)).map fun c => partL d c.toNat) = (x.1 :: (x.2.take k).map fun c => partL d c.toNat) ++ [partL d x.2[k].toNat] := by
        rw [List.take_succ_eq_append_getElem hlt, List.map_append]; rfl
      rw [← hl4] at hI4
      clear hown4 hgrow4 hown3 hl4 HI3 hown5 hgrow5
      go_wp2_with fail
      go_roundw
      case rel => exact ⟨k + 1, by omega, hI4⟩
      case measure =>
        simp only [World.iterPos, hI4.it, HIt.out]
        omega
    · obtain rfl : k = x.2.length := by omega
      rw [List.take_length] at hI
      have hp : ¬ x.2.length < (⟨x.2.toArray⟩ : ByteArray).size := by simp [ByteArray.size]
      have hnx : ∀ ty, (Instr.next (.pointer (some ⟨ib, 0, none⟩)) true ty).run Tryz.prog wr = _ := fun ty => Lib.run_next_end_at wr ib ⟨x.2.toArray⟩ x.2.length ty hI.it hp
      have HI := Lib.hid hI; clear hI hp
      go_wp2_with fail
      clear hnx
      have hJ0 : LineI d w wr.heap.size ⟨#[80, 65, 66, 76, 78, 77, 75]⟩ 0 u8 (x.1 :: x.2.map fun c => partL d c.toNat) (wr.iter ⟨#[80, 65, 66, 76, 78, 77, 75]⟩ 0) := by
        have hI := HI.out
        have hb := (Below.refl wr.heap.size wr).alloc (Nat.le_refl _) (.stringIter ⟨#[80, 65, 66, 76, 78, 77, 75]⟩ 0)
        exact ⟨World.iter_heap _ _ _, (hb.block _ (heap_lt hI.box)).trans hI.box, owns_below hI.own hb, hI.bel.trans (hb.mono hI.bel.size), hI.bel.size⟩
      clear HI
      obtain ⟨W2, hW2⟩ : ∃ W2, wr.iter ⟨#[80, 65, 66, 76, 78, 77, 75]⟩ 0 = W2 := ⟨_, rfl⟩
      obtain ⟨jb, hjb⟩ : ∃ jb, wr.heap.size = jb := ⟨_, rfl⟩
      rw [hW2, hjb] at hJ0 ⊢
      clear hW2 hjb
      go_loopw [] (fun wr2 => ∃ k : Nat, k ≤ 7 ∧ Hid ((lettersAll.take k).any (viol d x.2) = false) ∧ LineI d w jb ⟨#[80, 65, 66, 76, 78, 77, 75]⟩ k u8 (x.1 :: x.2.map fun c => partL d c.toNat) wr2) (fun wr2 => 7 - wr2.iterPos jb)
      case atStart => exact ⟨0, by omega, rfl, hJ0⟩
      case round =>
        clear hJ0
        obtain ⟨k, hk, hv, hJ⟩ := hrel
        by_cases hlt : k < 7
        · have hp : k < (⟨#[80, 65, 66, 76, 78, 77, 75]⟩ : ByteArray).size := hlt
          obtain ⟨c, hc, hcl, hcu⟩ : ∃ c : UInt8, lettersAll[k]? = some c ∧ 65 ≤ c.toNat ∧ c.toNat < 91 := by
            have : ∀ j : Fin 7, ∃ c : UInt8, lettersAll[j.val]? = some c ∧ 65 ≤ c.toNat ∧ c.toNat < 91 := by decide
            exact this ⟨k, hlt⟩
          have hget : (⟨#[80, 65, 66, 76, 78, 77, 75]⟩ : ByteArray)[k]'hp = c := by
            have : lettersAll[k]? = some ((⟨#[80, 65, 66, 76, 78, 77, 75]⟩ : ByteArray)[k]'hp) := by simp [ByteArray.getElem_eq_getElem_data, lettersAll, hlt]
            rw [this] at hc; exact Option.some.inj hc
          have hnx : ∀ ty, (Instr.next (.pointer (some ⟨jb, 0, none⟩)) true ty).run Tryz.prog wr = _ := fun ty => Lib.run_next_ascii_at wr jb ⟨#[80, 65, 66, 76, 78, 77, 75]⟩ k ty hJ.it hp (by rw [hget]; omega)
          rw [hget] at hnx
          have hJ1 := hJ.next (k + 1)
          obtain ⟨q0, q1, q2, q3, q4, q5, q6, q7⟩ := box_cells hJ1.box
          have HJ := Lib.hid hJ; have HCC := Lib.hid hc; have HG := Lib.hid hget
          clear hJ hc hget
          have HJ1 := Lib.hid hJ1; clear hJ1
          go_wp2_with fail
          refine (part_any d c.toNat _ (HD.out.below HJ1.out.bel) (HE.out.below HJ1.out.bel)).mono ?_
          rintro e w3 ⟨rfl, hb3⟩
          have hJ3 := HJ1.out.below hb3
          clear q0 q1 q2 q3 q4 q5 q6 q7 hnx
          have HJ3 := Lib.hid hJ3; clear hJ3
          go_wp2_with fail
          have hidx := Tryz.strings_IndexByte ⟨x.2.toArray⟩ c.toNat w3
          rw [show ((c.toNat : Nat) : Int).toNat.toUInt8 = c from by simp] at hidx
          have hsnoc : (lettersAll.take (k + 1)).any (viol d x.2) = ((lettersAll.take k).any (viol d x.2) || viol d x.2 c) := by
            rw [List.take_add_one, HCC.out]; simp
          have HSN := Lib.hid hsnoc; clear hsnoc
          by_cases hcon : x.2.contains c
          · have h0i := idx_has hcon
            have HV : Hid (viol d x.2 c = false) := by unfold Hid viol; rw [hcon]; rfl
            clear hcon
            obtain ⟨ix, hix⟩ : ∃ ix, Lib.indexByte x.2 c = ix := ⟨_, rfl⟩
            simp only [hix] at hidx h0i
            clear hix
            refine hidx.mono ?_
            rintro e w4 ⟨rfl, rfl⟩
            clear hidx
            go_wp2_with fail
            go_roundw
            case rel => exact ⟨k + 1, by omega, by unfold Hid; rw [HSN.out, hv.out, HV.out]; rfl, HJ3.out⟩
            case measure =>
              simp only [World.iterPos, HJ3.out.it, HJ.out.it]
              omega
          · have hcon' : x.2.contains c = false := by simpa using hcon
            have h0i := idx_not hcon'
            have HV : Hid (viol d x.2 c = (partL d c.toNat != partL zeroD c.toNat)) := by unfold Hid viol; rw [hcon']; rfl
            clear hcon hcon'
            simp only [h0i] at hidx
            clear h0i
            refine hidx.mono ?_
            rintro e w4 ⟨rfl, rfl⟩
            clear hidx
            go_wp2_with fail
            refine (part_any zeroD c.toNat _ (zeroD_in _) (HE.out.below HJ3.out.bel)).mono ?_
            rintro e w5 ⟨rfl, hb5⟩
            have HJ5 := Lib.hid (HJ3.out.below hb5)
            clear hb5
            go_wp2_with fail
            · have hne : (!partL d c.toNat == partL zeroD c.toNat) = true := by assumption
              have hany : lettersAll.any (viol d x.2) = true := List.any_eq_true.2 ⟨c, List.mem_of_getElem? HCC.out, by rw [HV.out]; exact hne⟩
              go_ret2
              refine ⟨?_, HJ5.out.bel⟩
              rw [HR.out, hany]
              rfl
            · have heq : (!partL d c.toNat == partL zeroD c.toNat) = false := by assumption
              go_roundw
              case rel => exact ⟨k + 1, by omega, by unfold Hid; rw [HSN.out, hv.out, HV.out]; exact heq, HJ5.out⟩
              case measure =>
                simp only [World.iterPos, HJ5.out.it, HJ.out.it]
                omega
        · obtain rfl : k = 7 := by omega
          have hp : ¬ 7 < (⟨#[80, 65, 66, 76, 78, 77, 75]⟩ : ByteArray).size := by decide
          have hnx : ∀ ty, (Instr.next (.pointer (some ⟨jb, 0, none⟩)) true ty).run Tryz.prog wr = _ := fun ty => Lib.run_next_end_at wr jb ⟨#[80, 65, 66, 76, 78, 77, 75]⟩ 7 ty hJ.it hp
          have hany : Hid (lettersAll.any (viol d x.2) = false) := hv
          have hown := hJ.own
          have HBel : Hid (Below w.heap.size w wr) := hJ.bel
          clear hJ hp hv
          obtain ⟨g, cap, rfl, hcells, hgl, hcl⟩ : ∃ g cap, u8 = Value.slice (some ⟨g, 0, none⟩) (x.1 :: x.2.map fun c => partL d c.toNat).length cap ∧ (∀ (j : Nat) y, ((x.1 :: x.2.map fun c => partL d c.toNat).map fun l => (⟨l.toArray⟩ : ByteArray))[j]? = some y → wr.cell? ⟨g, 0 + j, none⟩ = some (.string y)) ∧ g < wr.heap.size ∧ (x.1 :: x.2.map fun c => partL d c.toNat).length ≤ cap := by
            have hown' : wr.ownsRow w.heap.size 9 1 u8 ((x.1 :: x.2.map fun c => partL d c.toNat).map fun l => (⟨l.toArray⟩ : ByteArray)).length (((x.1 :: x.2.map fun c => partL d c.toNat).map fun l => (⟨l.toArray⟩ : ByteArray)).map Value.string) := by
              rw [List.length_map, List.map_map]; exact hown
            rcases hown.2 with ⟨h5, h6⟩ | ⟨g, cap, cur, h5, -⟩
            · simp at h6
            · rcases rdS_of_owns hown' with ⟨h1, h2⟩ | ⟨-, -, -, h2⟩ | ⟨b', off', c', h1, h2, h3, h4⟩
              · simp at h2
              · simp at h2
              · rw [h5] at h1
                simp only [Value.slice.injEq, Option.some.injEq, Addr.mk.injEq, and_true] at h1
                obtain ⟨⟨rfl, rfl⟩, -, rfl⟩ := h1
                exact ⟨g, cap, h5, h4, h2, by simpa using h3⟩
          have HO := Lib.hid hown; clear hown
          have hjl : (lineOut d x).length ≤ 400001 * 4 := by
            have := join_le [32] 400000 (x.1 :: x.2.map fun c => partL d c.toNat) (by
              intro y hy
              rcases List.mem_cons.1 hy with rfl | hy
              · have := HLN.out; omega
              · obtain ⟨z, hz, rfl⟩ := List.mem_map.1 hy
                exact partL_len HD.out _)
            have h2 := HLN.out
            simp only [List.length_cons, List.length_map, List.length_nil] at this
            have h3 : (400000 + (0 + 1)) * (x.2.length + 1) ≤ 400001 * 4 := Nat.mul_le_mul_left _ (by omega)
            unfold lineOut
            omega
          have HJL := Lib.hid hjl; clear hjl
          have hjoin : Lib.join (((x.1 :: x.2.map fun c => partL d c.toNat).map fun l => (⟨l.toArray⟩ : ByteArray)).map (·.data.toList)) ((⟨#[32]⟩ : ByteArray)).data.toList = lineOut d x := by
            rw [List.map_map]
            show Lib.join (List.map id _) [32] = _
            rw [List.map_id]; rfl
          have hj := Tryz.strings_Join g 0 cap ((x.1 :: x.2.map fun c => partL d c.toNat).map fun l => (⟨l.toArray⟩ : ByteArray)) ⟨#[32]⟩ wr hcells hgl (by have := HLN.out; simp; omega) (by rw [List.length_map]; exact hcl) (by rw [hjoin]; have := HJL.out; omega)
          rw [hjoin, List.length_map] at hj
          clear hjoin hcells
          have HJ := Lib.hid hj; clear hj
          have hN : (x.1 :: x.2.map fun c => partL d c.toNat).length = x.2.length + 1 := by simp
          obtain ⟨N, hNN⟩ : ∃ N, (x.1 :: x.2.map fun c => partL d c.toNat).length = N := ⟨_, rfl⟩
          rw [hNN] at HJ hcl ⊢
          clear hNN hN HO
          have hszL : (⟨(lineOut d x).toArray⟩ : ByteArray).size = (lineOut d x).length := by simp [ByteArray.size]
          by_cases hbig : 4096 < (lineOut d x).length
          · have HRR : Hid (lineR d = (15, [])) := by unfold Hid; rw [HR.out, hany.out, if_neg (by decide), if_pos hbig]
            go_wp2_with fail
            refine HJ.out.mono ?_
            rintro e w6 ⟨rfl, hb6⟩
            go_wp2_with fail
            go_ret2
            refine ⟨?_, HBel.out.trans (hb6.mono HBel.out.size)⟩
            rw [HRR.out]; rfl
          · have HRR : Hid (lineR d = (0, lineOut d x)) := by unfold Hid; rw [HR.out, hany.out, if_neg (by decide), if_neg hbig]
            have hbig' : (lineOut d x).length ≤ 4096 := by omega
            go_wp2_with fail
            refine HJ.out.mono ?_
            rintro e w6 ⟨rfl, hb6⟩
            go_wp2_with fail
            go_ret2
            refine ⟨?_, HBel.out.trans (hb6.mono HBel.out.size)⟩
            rw [HRR.out]; rfl

theorem line_any (d : RDeed) (w : World) (hd : d.In w) (he : Env w) :
    Calls Tryz.prog 28 #[d.val] w fun e w' => e = .returned (.tuple #[.string ⟨(lineR d).2.toArray⟩, errV (lineR d).1]) ∧ Below w.heap.size w w' := by
  by_cases h0 : d.kind < 0
  · have h : lineR d = (2, []) := by unfold lineR; rw [if_pos h0]
    rw [h]
    exact line_kind d w (.inl h0)
  · cases hx : kindsT[d.kind.toNat]? with
    | none =>
      have h : lineR d = (2, []) := by unfold lineR; rw [if_neg h0, hx]
      rw [h]
      have h26 : 26 ≤ d.kind.toNat := by simpa [kindsT] using List.getElem?_eq_none_iff.1 hx
      exact line_kind d w (.inr (by omega))
    | some x => exact line_main d x w (by omega) hx hd he
theorem lineR_len (d : RDeed) : (lineR d).2.length ≤ 4096 := by
  unfold lineR
  repeat' split
  all_goals first | (simp; done) | (simp; omega)
theorem lineR_code (d : RDeed) : (lineR d).1 = 0 ∨ (lineR d).1 = 2 ∨ (lineR d).1 = 15 := by
  unfold lineR
  repeat' split
  all_goals simp
end Go.Proofs.YtcbdmaelgedbkaaGreatDoor
