/- The walk of script.Tell. -/
import Derived.Test.YtcbdmaelgedbkaaGreatDoorScrTA
namespace Go.Proofs.YtcbdmaelgedbkaaGreatDoor
open Go.RowKit Go.Shelf

/-- The slice v reads as outcomes. -/
def RdOuts (w : World) (v : Value) (rs : List (POut × Value)) : Prop :=
  (v = .slice none 0 0 ∧ rs = []) ∨ (∃ a c, v = .slice (some a) 0 c ∧ rs = []) ∨ ∃ b off c, v = .slice (some ⟨b, off, none⟩) rs.length c ∧ b < w.heap.size ∧ rs.length ≤ c ∧ ∀ j r, rs[j]? = some r → ∀ i u, (oCells4 r)[i]? = some u → w.cell? ⟨b, off + j * 4 + i, none⟩ = some u
theorem RdOuts.below {w w' : World} {v : Value} {rs : List (POut × Value)} (h : RdOuts w v rs) (hb : Below w.heap.size w w') : RdOuts w' v rs := by
  rcases h with h | h | ⟨b, off, c, h1, h2, h3, h4⟩
  · exact .inl h
  · exact .inr (.inl h)
  · exact .inr <| .inr ⟨b, off, c, h1, Nat.lt_of_lt_of_le h2 hb.size, h3, fun j d hd i u hu => (hb.cell (p := ⟨b, off + j * 4 + i, none⟩) h2).trans (h4 j d hd i u hu)⟩
theorem rdOuts_open {w : World} {v : Value} {rs : List (POut × Value)} (hr : RdOuts w v rs) : ∃ (av : Option Addr) (cv : Nat), v = .slice av rs.length cv ∧ ∀ k r, rs[k]? = some r → ∃ b off, av = some ⟨b, off, none⟩ ∧ b < w.heap.size ∧ ∀ i u, (oCells4 r)[i]? = some u → w.cell? ⟨b, off + k * 4 + i, none⟩ = some u := by
  rcases hr with ⟨rfl, rfl⟩ | ⟨a, c, rfl, rfl⟩ | ⟨b, off, c, h1, h2, h3, h4⟩
  · exact ⟨none, 0, rfl, fun k d hk => by simp at hk⟩
  · exact ⟨some a, c, rfl, fun k d hk => by simp at hk⟩
  · exact ⟨_, _, h1, fun k d hk => ⟨b, off, rfl, h2, h4 k d hk⟩⟩
theorem toldL_len {w : World} {r : POut × Value} (h : OutIn w r) : (toldL r.1).length ≤ 50000000 := by
  have i0 := Lib.itoa_length_le r.1.err h.err.1 h.err.2
  have i1 := Lib.itoa_length_le r.1.n h.n.1 h.n.2
  have hn := h.namesN
  have i2 := Lib.itoa_length_le (r.1.names.length : Int) (by omega) (by omega)
  have i3 := wordL_len r.1.text
  have ht := h.text
  unfold toldL
  split
  · simp [errorL]; omega
  · have hts : (okL :: Lib.itoa r.1.n :: wordL r.1.text :: Lib.itoa r.1.names.length :: r.1.names.map wordL).length = 4 + r.1.names.length := by simp; omega
    have := join_le [32] 12001 (okL :: Lib.itoa r.1.n :: wordL r.1.text :: Lib.itoa r.1.names.length :: r.1.names.map wordL) (by
      intro y hy
      simp only [List.mem_cons] at hy
      rcases hy with rfl | rfl | rfl | rfl | hy
      · decide
      · omega
      · omega
      · omega
      · obtain ⟨z, hz, rfl⟩ := List.mem_map.1 hy
        have := wordL_len z
        have := h.name z hz
        omega)
    rw [hts] at this
    exact Nat.le_trans this (Nat.le_trans (Nat.mul_le_mul_left _ (by omega : 4 + r.1.names.length ≤ 4004)) (by decide))
theorem tellL_len {w : World} {rs : List (POut × Value)} (h : ∀ r ∈ rs, OutIn w r) : (tellL (rs.map (·.1))).length ≤ 50000001 * rs.length := by
  induction rs with
  | nil => simp [tellL]
  | cons r rs ih =>
    have h1 := toldL_len (h r (by simp))
    have h2 := ih (fun x hx => h x (List.mem_cons_of_mem _ hx))
    unfold tellL at *
    simp only [List.map_cons, List.flatMap_cons, List.length_append, List.length_cons, List.length_nil] at *
    omega

set_option maxRecDepth 100000 in
set_option maxHeartbeats 4000000 in
theorem tell_any (v : Value) (rs : List (POut × Value)) (w : World) (hr : RdOuts w v rs) (hl : rs.length ≤ 1000) (hin : ∀ r ∈ rs, OutIn w r) (he : Env w) :
    Calls Tryz.prog 6 #[v] w fun e w' => e = .returned (.string ⟨(tellL (rs.map (·.1))).toArray⟩) ∧ Below w.heap.size w w' := by
  obtain ⟨av, cv, rfl, hcells⟩ := rdOuts_open hr
  have HD := Lib.hid hin; have HE := Lib.hid he; have HC := Lib.hid hcells; clear hin he hr hcells
  go_enter Tryz.func6, Tryz.ntmps6
  go_wp2_with fail
  go_loopw [8] (fun i wr => ∃ k : Nat, k ≤ rs.length ∧ i = .int .i64 k ∧ Lib.IsBuilder 47 5 w.heap.size w.heap.size (Lib.byteCells (tellL ((rs.take k).map (·.1)))) wr ∧ Below w.heap.size w wr) (fun i _ => rs.length - (intOf i).toNat)
  case atStart =>
    refine ⟨0, Nat.zero_le _, rfl, .inl ⟨Nat.le_refl _, _, heap_alloc_new w _, ?_, ?_⟩, (Below.refl _ _).alloc (Nat.le_refl _) _⟩
    · exact World.ownsRow_nil _ _ _ _
    · simp [Value.ownBlock]
  case round =>
    obtain ⟨k, hk, rfl, hB, hbel⟩ := hrel
    by_cases hlt : k < rs.length
    · obtain ⟨r, hrk⟩ : ∃ r, rs[k]? = some r := ⟨rs[k], by simp [hlt]⟩
      obtain ⟨b, off, rfl, hbw, hc⟩ := HC.out k r hrk
      have hcell : ∀ i u, (oCells4 r)[i]? = some u → wr.cell? ⟨b, off + k * 4 + i, none⟩ = some u := fun i u hu => (hbel.cell (p := ⟨b, off + k * 4 + i, none⟩) hbw).trans (hc i u hu)
      have q0 := hcell 0 _ rfl; have q1 := hcell 1 _ rfl; have q2 := hcell 2 _ rfl; have q3 := hcell 3 _ rfl
      simp only [Nat.add_zero] at q0
      have hri := HD.out r (List.mem_of_getElem? hrk)
      obtain ⟨A, c, hv⟩ := rdS_len hri.names
      have htk : (tellL ((rs.take (k + 1)).map (·.1))) = tellL ((rs.take k).map (·.1)) ++ (toldL r.1 ++ [10]) := by
        rw [List.take_add_one, hrk]; simp [tellL]
      have htl := tellL_len (w := w) (rs := rs.take k) (fun x hx => HD.out x (List.mem_of_mem_take hx))
      have htk2 : (rs.take k).length = k := by simp; omega
      rw [htk2] at htl
      have hr1 := toldL_len hri
      rw [hv] at q3
      have HK := Lib.hid hrk; have HV := Lib.hid hv; have HTK := Lib.hid htk
      have HL : Hid ((tellL ((rs.take k).map (·.1))).length + (toldL r.1).length + 1 ≤ 100000000000) := by
        unfold Hid
        have : 50000001 * k ≤ 50000001 * 1000 := Nat.mul_le_mul_left _ (by omega)
        omega
      clear hrk hc hcell hv hri htk htl htk2
      go_wp2_with fail
      have hb1 : Below wr.heap.size wr (wr.alloc (.cells #[.int .i64 r.1.err, .int .i64 r.1.n, .string ⟨r.1.text.toArray⟩, .slice A r.1.names.length c] 27)) := (Below.refl _ _).alloc (Nat.le_refl _) _
      have hb2 := hbel.trans (hb1.mono hbel.size)
      have hl := told_any r _ ((HD.out r (List.mem_of_getElem? HK.out)).below hb2) (HE.out.below hb2)
      rw [HV.out] at hl
      have HB1 := Lib.hid hb1; have HB2 := Lib.hid hb2
      clear q0 q1 q2 q3 hb1 hb2
      refine hl.mono ?_
      clear hl
      rintro e w3 ⟨rfl, hb3⟩
      have HB3 := Lib.hid (HB1.out.trans (hb3.mono (by simp)))
      have HB4 := Lib.hid (hbel.trans (HB3.out.mono hbel.size))
      clear hb3
      go_wp2_with fail
      refine (Tryz.Builder_WriteString _ _ _ _ _ (isBuilder_below hB HB3.out) (by
        rw [byteCells_length, Lib.size_eq, data_app]
        have := HL.out
        simp only [List.length_append, List.length_cons, List.length_nil]
        omega) HB4.out.size).mono ?_
      rintro e w4 ⟨rfl, hB4, hb4⟩
      have hbel5 := HB4.out.trans hb4
      clear hB hbel hb4
      go_wp2_with fail
      go_roundw
      case rel =>
        refine ⟨k + 1, by omega, by go_num, .inr ?_, hbel5⟩
        rw [HTK.out, byteCells_append]
        have e1 : Lib.strCells (⟨(toldL r.1).toArray⟩ ++ ⟨#[10]⟩) = Lib.byteCells (toldL r.1 ++ [10]) := by
          rw [Lib.strCells, Lib.byteCells, data_app]
        rw [e1] at hB4
        exact hB4
      case measure => simp [intOf]; omega
    · obtain rfl : k = rs.length := by omega
      rw [List.take_length] at hB
      go_wp2_with fail
      refine (Tryz.Builder_String_any _ _ _ _ hB hbel.size).mono ?_
      rintro e w1 ⟨rfl, hbel1⟩
      go_wp2_with fail
      go_ret
      exact ⟨rfl, hbel.trans hbel1⟩
end Go.Proofs.YtcbdmaelgedbkaaGreatDoor
