/- From a reading of an argument to memory: slices of octets, of ints, of deeds. -/
import Derived.Test.YtcbdmaelgedbkaaGreatDoorScrGA
import Derived.ProofKit
import Derived.OpenShut
import Derived.Deep.Slices
import Derived.Deep.Fields
namespace Go.Proofs.YtcbdmaelgedbkaaGreatDoor
open Go.ChangeShapes Go.WideShapes Go.ChangeAt Go.RowKit Go.Deep
open Go.ChangeMaps (open_string)

theorem list_choose {α : Type} {P : Nat → α → Prop} : ∀ n, (∀ i, i < n → ∃ a, P i a) → ∃ l : List α, l.length = n ∧ ∀ (i : Nat) a, l[i]? = some a → P i a
  | 0, _ => ⟨[], rfl, fun i a h => by simp at h⟩
  | n + 1, h => by
    obtain ⟨l, hl, hp⟩ := list_choose n (fun i hi => h i (by omega))
    obtain ⟨a, ha⟩ := h n (by omega)
    refine ⟨l ++ [a], by simp [hl], fun i b hb => ?_⟩
    rw [List.getElem?_append] at hb
    split at hb
    · exact hp i b hb
    · have : i = n := by
        rcases Nat.lt_or_ge i (n + 1) with h1 | h1
        · omega
        · rw [List.getElem?_eq_none (by simp; omega)] at hb; cases hb
      subst this
      simp [hl] at hb; subst hb; exact ha
theorem cell_lt {w : World} {a : Addr} {v : Value} (h : w.cell? a = some v) : a.block < w.heap.size ∧ a.spot = none := by
  unfold World.cell? at h
  split at h
  · rename_i hb
    refine ⟨(Array.getElem?_eq_some_iff.1 hb).1, ?_⟩
    split at h
    · cases h
    · rename_i hs; simpa using hs
  · cases h
theorem add_plain {a : Addr} (h : a.spot = none) (n : Nat) : a.add n = ⟨a.block, a.off + n, none⟩ := by
  obtain ⟨b, o, s⟩ := a
  simp only at h
  subst h
  unfold Addr.add
  split <;> simp_all

section
variable {H : Type} {enc : TypeId × Value → H} {W : World} {fuel : Nat}
/-- A slice of whole numbers as it is read. -/
theorem rdS_of_trod {t e : TypeId} {k : IntKind} {v : Value} {x : DataW H × List MemPlace} (ht : Tryz.prog.underlying t = some (.slice e)) (he : Tryz.prog.underlying e = some (.int k)) (hc : Tryz.prog.cellsOf e = 1)
    (h : DataW.trod enc Tryz.prog W 0 (fun _ => true) true fuel t [v] = some x) : ∃ zs : List Int, RdS (fun n => Value.int k n) W v zs ∧ ∀ n ∈ zs, (Lit.int k n).wf = true := by
  rcases open_ints ht he hc h with ⟨hv, -⟩ | ⟨a, len, cap, zs, hv, -, hl, -, hz, -, hcell, hwf⟩
  · simp at hv
    exact ⟨[], .inl ⟨hv, rfl⟩, fun n hn => by simp at hn⟩
  · simp at hv hz
    refine ⟨zs.take len, ?_, fun n hn => hwf n (List.mem_of_mem_take hn)⟩
    have hlen : (zs.take len).length = len := by simp; omega
    cases len with
    | zero => exact .inr (.inl ⟨a, cap, hv, by simp⟩)
    | succ m =>
      have h0 := hcell 0 (by omega)
      have hsp := cell_lt h0
      rw [Addr.add, if_pos rfl] at hsp
      have ha : a = ⟨a.block, a.off, none⟩ := by obtain ⟨b, o, s⟩ := a; simp at hsp; simp [hsp.2]
      refine .inr (.inr ⟨a.block, a.off, cap, ?_, hsp.1, by rw [hlen]; exact hl, fun j y hy => ?_⟩)
      · rw [hlen, ← ha]; exact hv
      · rw [← add_plain hsp.2]
        have hj : j < m + 1 := by have := (List.getElem?_eq_some_iff.1 hy).1; omega
        rw [hcell j (by omega)]
        rw [List.getElem?_take, if_pos hj] at hy
        simp [List.getD, hy]
theorem i64_of_wf {n : Int} (h : (Lit.int .i64 n).wf = true) : I64 n := by
  have : -9223372036854775808 ≤ n ∧ n ≤ 9223372036854775807 := by simpa [Lit.wf, IntKind.min, IntKind.max, IntKind.signed, IntKind.bits] using h
  exact this
theorem u8_of_wf {n : Int} (h : (Lit.int .u8 n).wf = true) : 0 ≤ n ∧ n ≤ 255 := by
  simpa [Lit.wf, IntKind.min, IntKind.max, IntKind.signed, IntKind.bits] using h
theorem rdS_bytes {v : Value} {zs : List Int} (h : RdS (fun n => Value.int .u8 n) W v zs) (hb : ∀ n ∈ zs, 0 ≤ n ∧ n ≤ 255) : RdS encB W v (zs.map fun n => n.toNat.toUInt8) := by
  rcases h with ⟨h, rfl⟩ | ⟨a, c, h, rfl⟩ | ⟨b, off, c, h1, h2, h3, h4⟩
  · exact .inl ⟨h, rfl⟩
  · exact .inr (.inl ⟨a, c, h, rfl⟩)
  · refine .inr (.inr ⟨b, off, c, by simpa using h1, h2, by simpa using h3, fun j y hy => ?_⟩)
    rw [List.getElem?_map, Option.map_eq_some_iff] at hy
    obtain ⟨n, hn, rfl⟩ := hy
    rw [h4 j n hn]
    have := hb n (List.mem_of_getElem? hn)
    simp only [encB, Option.some.injEq, Value.int.injEq, true_and]
    rw [UInt8.toNat_ofNat_of_lt' (by show n.toNat < 256; omega)]
    omega
set_option maxRecDepth 100000 in
theorem deed_of_trod {cs : List Value} {y : DataW H × List MemPlace} (h : DataW.trod enc Tryz.prog W 0 (fun _ => true) true fuel 44 cs = some y) : ∃ d : RDeed, cs = d.cells ∧ d.Raw W := by
  obtain ⟨xs, n, hn, hy, hlen, hyl, hf⟩ := DataW.trod_struct Tryz.underlying44 h
  have hc8 : cs.length = 8 := hlen.trans (show Tryz.prog.cellsOf 44 = 8 by kernel_rfl)
  match cs, hc8 with
  | [c0, c1, c2, c3, c4, c5, c6, c7], _ =>
    match xs, hyl with
    | [y0, y1, y2, y3, y4, y5, y6, y7], _ =>
      have z1 : Tryz.prog.cellsOf 3 = 1 := by kernel_rfl
      have z2 : Tryz.prog.cellsOf 9 = 1 := by kernel_rfl
      have z3 : Tryz.prog.cellsOf 41 = 1 := by kernel_rfl
      have z4 : Tryz.prog.cellsOf 42 = 1 := by kernel_rfl
      have z5 : Tryz.prog.cellsOf 5 = 1 := by kernel_rfl
      have g0 : DataW.trod enc Tryz.prog W 0 (fun _ => true) true n 3 [c0] = some y0 := by simpa [z1] using hf 0 _ rfl
      have g1 : DataW.trod enc Tryz.prog W 0 (fun _ => true) true n 3 [c1] = some y1 := by simpa [z1] using hf 1 _ rfl
      have g2 : DataW.trod enc Tryz.prog W 0 (fun _ => true) true n 3 [c2] = some y2 := by simpa [z1] using hf 2 _ rfl
      have g3 : DataW.trod enc Tryz.prog W 0 (fun _ => true) true n 3 [c3] = some y3 := by simpa [z1] using hf 3 _ rfl
      have g4 : DataW.trod enc Tryz.prog W 0 (fun _ => true) true n 9 [c4] = some y4 := by simpa [z2] using hf 4 _ rfl
      have g5 : DataW.trod enc Tryz.prog W 0 (fun _ => true) true n 9 [c5] = some y5 := by simpa [z2] using hf 5 _ rfl
      have g6 : DataW.trod enc Tryz.prog W 0 (fun _ => true) true n 41 [c6] = some y6 := by simpa [z3] using hf 6 _ rfl
      have g7 : DataW.trod enc Tryz.prog W 0 (fun _ => true) true n 42 [c7] = some y7 := by simpa [z4] using hf 7 _ rfl
      obtain ⟨n0, e0, -, w0⟩ := DataW.trod_int Tryz.underlying3 g0
      obtain ⟨n1, e1, -, w1⟩ := DataW.trod_int Tryz.underlying3 g1
      obtain ⟨n2, e2, -, w2⟩ := DataW.trod_int Tryz.underlying3 g2
      obtain ⟨n3, e3, -, w3⟩ := DataW.trod_int Tryz.underlying3 g3
      obtain ⟨s4, e4, -, w4⟩ := DataW.trod_string Tryz.underlying9 g4
      obtain ⟨s5, e5, -, w5⟩ := DataW.trod_string Tryz.underlying9 g5
      obtain ⟨zb, r6, w6⟩ := rdS_of_trod Tryz.underlying41 Tryz.underlying5 z5 g6
      obtain ⟨zk, r7, w7⟩ := rdS_of_trod Tryz.underlying42 Tryz.underlying3 z1 g7
      simp only [List.cons.injEq, and_true] at e0 e1 e2 e3 e4 e5
      subst e0 e1 e2 e3 e4 e5
      refine ⟨⟨n0, n1, n2, n3, s4, s5, c6, c7, zb.map fun n => n.toNat.toUInt8, zk⟩, rfl, rdS_bytes r6 (fun n hn => u8_of_wf (w6 n hn)), r7, i64_of_wf w0, i64_of_wf w1, i64_of_wf w2, i64_of_wf w3, ?_, ?_, fun x hx => i64_of_wf (w7 x hx)⟩
      · unfold maxLen at w4; simpa using w4
      · unfold maxLen at w5; simpa using w5
set_option maxRecDepth 100000 in
theorem deeds_of_trod {v : Value} {x : DataW H × List MemPlace} (h : DataW.trod enc Tryz.prog W 0 (fun _ => true) true fuel 33 [v] = some x) : ∃ ds : List RDeed, RdDeeds W v ds ∧ ∀ d ∈ ds, d.Raw W := by
  have z8 : Tryz.prog.cellsOf 44 = 8 := by kernel_rfl
  rcases open_slice Tryz.underlying33 h with ⟨hv, -⟩ | ⟨a, len, cap, m, n, D, Pl, hv, -, hl, -, hm, -, hi⟩
  · simp at hv
    exact ⟨[], .inl ⟨hv, rfl⟩, fun n hn => by simp at hn⟩
  · simp at hv hm
    subst hm
    obtain ⟨ds, hdl, hds⟩ := list_choose (P := fun i (d : RDeed) => d.Raw W ∧ ∀ j u, d.cells[j]? = some u → W.cell? (a.add (i * 8 + j)) = some u) len (fun i hilt => by
      obtain ⟨cs', hcs, ht⟩ := hi i (by omega)
      rw [z8] at hcs
      obtain ⟨d, rfl, hraw⟩ := deed_of_trod ht
      obtain ⟨-, hcl, hat⟩ := World.cells?_some hcs
      refine ⟨d, hraw, fun j u hu => ?_⟩
      have hj : j < 8 := (List.getElem?_eq_some_iff.1 hu).1
      rw [← Go.Deep.add_add, hat j hj, hu])
    have hraw : ∀ d ∈ ds, d.Raw W := fun d hd => by
      obtain ⟨i, hilt, he⟩ := List.getElem_of_mem hd
      exact (hds i d (by simp [hilt, he])).1
    refine ⟨ds, ?_, hraw⟩
    cases len with
    | zero => exact .inr (.inl ⟨a, m, hv, List.eq_nil_of_length_eq_zero hdl⟩)
    | succ l =>
      obtain ⟨d0, hd0⟩ : ∃ d, ds[0]? = some d := ⟨ds[0]'(by omega), by simp [hdl]⟩
      have h0 := (hds 0 d0 hd0).2 0 _ rfl
      have hsp := cell_lt h0
      rw [show 0 * 8 + 0 = 0 from rfl, Addr.add, if_pos rfl] at hsp
      have ha : a = ⟨a.block, a.off, none⟩ := by obtain ⟨b, o, s⟩ := a; simp at hsp; simp [hsp.2]
      refine .inr (.inr ⟨a.block, a.off, m, by rw [hdl, ← ha]; exact hv, hsp.1, by omega, fun j d hd i u hu => ?_⟩)
      have := (hds j d hd).2 i u hu
      rw [add_plain hsp.2] at this
      rw [Nat.add_assoc]; exact this
end
end Go.Proofs.YtcbdmaelgedbkaaGreatDoor
