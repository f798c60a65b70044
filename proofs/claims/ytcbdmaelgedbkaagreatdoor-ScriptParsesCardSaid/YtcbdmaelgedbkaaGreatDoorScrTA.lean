/- Walks: script.told, script.Tell. -/
import Derived.Test.YtcbdmaelgedbkaaGreatDoorScrZ
import Derived.Deep.RegionHeld3
namespace Go.Proofs.YtcbdmaelgedbkaaGreatDoor
open Go.RowKit Go.Shelf

/-- An outcome's line. -/
def toldL (p : POut) : List UInt8 := if p.err ≠ 0 then errorL ++ 32 :: Lib.itoa p.err else Lib.join (okL :: Lib.itoa p.n :: wordL p.text :: Lib.itoa p.names.length :: p.names.map wordL) [32]
def tellL (ps : List POut) : List UInt8 := ps.flatMap fun p => toldL p ++ [10]
/-- An outcome of a call: what it reads as, within bounds. -/
structure OutIn (w : World) (r : POut × Value) : Prop where
  names : RdS encStr w r.2 r.1.names
  err : I64 r.1.err
  n : I64 r.1.n
  text : r.1.text.length ≤ 4000
  namesN : r.1.names.length ≤ 4000
  name : ∀ x ∈ r.1.names, x.length ≤ 4000
theorem OutIn.below {w w' : World} {r : POut × Value} (h : OutIn w r) (hb : Below w.heap.size w w') : OutIn w' r := { h with names := h.names.below hb }

theorem join_any {w : World} {base : Nat} {v : Value} {ts : List (List UInt8)} (hown : w.ownsRow base 9 1 v ts.length (ts.map encStr)) (h0 : ts ≠ []) (hl : (Lib.join ts [32]).length ≤ 1000000000) (hn : ts.length ≤ 1000000) :
    Calls Tryz.prog 32 #[v, .string ⟨#[32]⟩] w fun e w' => e = .returned (.string ⟨(Lib.join ts [32]).toArray⟩) ∧ Below w.heap.size w w' := by
  have hown' : w.ownsRow base 9 1 v (ts.map fun l => (⟨l.toArray⟩ : ByteArray)).length ((ts.map fun l => (⟨l.toArray⟩ : ByteArray)).map Value.string) := by
    rw [List.length_map, List.map_map]; exact hown
  obtain ⟨g, cap, rfl, hcells, hgl, hcl⟩ : ∃ g cap, v = Value.slice (some ⟨g, 0, none⟩) ts.length cap ∧ (∀ (j : Nat) y, (ts.map fun l => (⟨l.toArray⟩ : ByteArray))[j]? = some y → w.cell? ⟨g, 0 + j, none⟩ = some (.string y)) ∧ g < w.heap.size ∧ ts.length ≤ cap := by
    have hpos := List.length_pos_iff.2 h0
    rcases hown.2 with ⟨h5, h6⟩ | ⟨g, cap, cur, h5, -⟩
    · omega
    · rcases rdS_of_owns hown' with ⟨h1, h2⟩ | ⟨-, -, -, h2⟩ | ⟨b', off', c', h1, h2, h3, h4⟩
      · have := congrArg List.length h2; simp at this; exact absurd this h0
      · have := congrArg List.length h2; simp at this; exact absurd this h0
      · rw [h5] at h1
        simp only [Value.slice.injEq, Option.some.injEq, Addr.mk.injEq, and_true] at h1
        obtain ⟨⟨rfl, rfl⟩, -, rfl⟩ := h1
        exact ⟨g, cap, h5, h4, h2, by simpa using h3⟩
  have hjoin : Lib.join ((ts.map fun l => (⟨l.toArray⟩ : ByteArray)).map (·.data.toList)) ((⟨#[32]⟩ : ByteArray)).data.toList = Lib.join ts [32] := by
    rw [List.map_map]
    show Lib.join (List.map id _) [32] = _
    rw [List.map_id]
  have hj := Tryz.strings_Join g 0 cap (ts.map fun l => (⟨l.toArray⟩ : ByteArray)) ⟨#[32]⟩ w hcells hgl (by simp; omega) (by rw [List.length_map]; exact hcl) (by rw [hjoin]; omega)
  rw [hjoin, List.length_map] at hj
  exact hj
set_option maxRecDepth 100000 in
set_option maxHeartbeats 4000000 in
theorem told_any (r : POut × Value) (w : World) (hr : OutIn w r) (he : Env w) :
    Calls Tryz.prog 13 #[.agg #[.int .i64 r.1.err, .int .i64 r.1.n, .string ⟨r.1.text.toArray⟩, r.2]] w fun e w' => e = .returned (.string ⟨(toldL r.1).toArray⟩) ∧ Below w.heap.size w w' := by
  obtain ⟨⟨er, n, tx, ns⟩, nv⟩ := r
  obtain ⟨A, c, hv⟩ := rdS_len hr.names
  simp only at hv
  subst hv
  obtain ⟨hnames, herr, hn, htx, hnl, hnm⟩ := hr
  simp only at hnames herr hn htx hnl hnm ⊢
  obtain ⟨i0, hi, hz0, hz1, hz2⟩ := info_parts info_str
  have HI := Lib.hid hi; have HZ0 := Lib.hid hz0; have HZ1 := Lib.hid hz1; have HZ2 := Lib.hid hz2; clear hi hz0 hz1 hz2
  have HNA := Lib.hid hnames; have HE := Lib.hid he; have HNM := Lib.hid hnm
  obtain ⟨R, hR⟩ : ∃ R, toldL ⟨er, n, tx, ns⟩ = R := ⟨_, rfl⟩
  rw [hR]
  have HR := Lib.hid hR
  clear hnames he hnm hR
  have hbx : Below w.heap.size w (w.alloc (.cells #[.int .i64 er, .int .i64 n, .string ⟨tx.toArray⟩, .slice A ns.length c] 27)) := (Below.refl _ _).alloc (Nat.le_refl _) _
  have HBX := Lib.hid hbx; clear hbx
  by_cases h0 : er = 0
  case neg =>
    have hRR : Hid (R = errorL ++ 32 :: Lib.itoa er) := by unfold Hid; rw [← HR.out]; unfold toldL; rw [if_pos h0]
    have hb : (er != 0) = true := by simp [h0]
    obtain ⟨e1, e2⟩ := herr
    have hil := Lib.itoa_length_le er e1 e2
    clear h0
    go_enter Tryz.func13, Tryz.ntmps13
    go_wp2_with fail
    refine (itoa_any er e1 e2 _ (HE.out.below HBX.out)).mono ?_
    rintro e w1 ⟨rfl, hb1⟩
    go_wp2_with fail
    go_ret
    refine ⟨?_, HBX.out.trans (hb1.mono (by simp))⟩
    rw [hRR.out]
    congr 1
  have hRR : Hid (R = Lib.join (okL :: Lib.itoa n :: wordL tx :: Lib.itoa ns.length :: ns.map wordL) [32]) := by unfold Hid; rw [← HR.out]; unfold toldL; rw [if_neg (by simpa using h0)]
  subst h0
  obtain ⟨e1, e2⟩ := hn
  have l1 : (-9223372036854775808 : Int) ≤ (ns.length : Int) := by omega
  have l2 : (ns.length : Int) ≤ 9223372036854775807 := by omega
  have htxs : (⟨tx.toArray⟩ : ByteArray).size ≤ 1000000000 := by simp [ByteArray.size]; omega
  go_enter Tryz.func13, Tryz.ntmps13
  go_wp2_with fail
  obtain ⟨W0, hW0⟩ : ∃ W0, w.alloc (.cells #[.int .i64 0, .int .i64 n, .string ⟨tx.toArray⟩, .slice A ns.length c] 27) = W0 := ⟨_, rfl⟩
  have hbox : W0.heap[w.heap.size]? = some (.cells #[.int .i64 0, .int .i64 n, .string ⟨tx.toArray⟩, .slice A ns.length c] 27 (0, 0)) := by rw [← hW0]; exact heap_alloc_new _ _
  have HB0 : Hid (Below w.heap.size w W0) := by unfold Hid; rw [← hW0]; exact HBX.out
  have HE0 : Hid (Env W0) := HE.out.below HB0.out
  have hlt0 : w.heap.size < W0.heap.size := heap_lt hbox
  have KS : Hid (∀ W, Below W0.heap.size W0 W → Hid (Below W0.heap.size W0 W) ∧ W.cell? ⟨w.heap.size, 1, none⟩ = some (.int .i64 n) ∧ W.cell? ⟨w.heap.size, 2, none⟩ = some (.string ⟨tx.toArray⟩) ∧ W.cell? ⟨w.heap.size, 3, none⟩ = some (.slice A ns.length c)) := by
    intro W hW
    obtain ⟨⟨-, c1, c2, c3⟩, -⟩ := box4 ((hW.block _ hlt0).trans hbox)
    exact ⟨hW, c1, c2, c3⟩
  have HBO := Lib.hid hbox
  rw [hW0]
  clear hW0 HBX hbox
  obtain ⟨-, c1, c2, c3⟩ := KS.out W0 (Below.refl _ _)
  go_region_held3 (fun w' => Hid (Below W0.heap.size W0 w') ∧ w'.cell? ⟨w.heap.size, 1, none⟩ = some (.int .i64 n) ∧ w'.cell? ⟨w.heap.size, 2, none⟩ = some (.string ⟨tx.toArray⟩) ∧ w'.cell? ⟨w.heap.size, 3, none⟩ = some (.slice A ns.length c)) (
      (refine KS.out _ ?_
       first | exact Hid.out (by assumption) | exact Below.drew (Below.refl _ _) | exact Below.alloc hB3.out hB3.out.size _))
    (first
      | (go_at_call_of 30 (Value.int .i64 n)
         refine (itoa_any n e1 e2 _ (HE0.out.below (Below.drew (Below.refl _ _)))).mono ?_
         rintro e w1 ⟨rfl, hb1⟩
         have hB1 : Hid (Below W0.heap.size W0 w1) := (Below.drew (Below.refl W0.heap.size W0)).trans hb1)
      | (go_at_call 31
         refine (word_any _ _ htxs).mono ?_
         rintro e w2 ⟨rfl, hb2⟩
         have hB2 : Hid (Below W0.heap.size W0 w2) := hB1.out.trans (hb2.mono hB1.out.size))
      | (go_at_call 30
         refine (itoa_any ns.length l1 l2 _ (HE0.out.below hB2.out)).mono ?_
         rintro e w3 ⟨rfl, hb3⟩
         have hB3 : Hid (Below W0.heap.size W0 w3) := hB2.out.trans (hb3.mono hB2.out.size)))
  have hB4 : Below W0.heap.size W0 (w3.alloc (.cells #[.string ⟨#[111, 107]⟩, .string ⟨(Lib.itoa n).toArray⟩, .string ⟨(wordL tx).toArray⟩, .string ⟨(Lib.itoa (ns.length : Int)).toArray⟩] 9)) := hB3.out.alloc hB3.out.size _
  have hbase : W0.heap.size ≤ w3.heap.size := hB3.out.size
  have hown0 : (w3.alloc (.cells #[.string ⟨#[111, 107]⟩, .string ⟨(Lib.itoa n).toArray⟩, .string ⟨(wordL tx).toArray⟩, .string ⟨(Lib.itoa (ns.length : Int)).toArray⟩] 9)).ownsRow W0.heap.size 9 1 (.slice (some ⟨w3.heap.size, 0, none⟩) 4 4) 4 ([okL, Lib.itoa n, wordL tx, Lib.itoa (ns.length : Int)].map encStr) :=
    ⟨rfl, .inr ⟨w3.heap.size, 4, _, rfl, hbase, heap_alloc_new w3 _, Nat.le_refl 4, by unfold maxLen; omega, rfl, rfl⟩⟩
  obtain ⟨W4, hW4⟩ : ∃ W4, w3.alloc (.cells #[.string ⟨#[111, 107]⟩, .string ⟨(Lib.itoa n).toArray⟩, .string ⟨(wordL tx).toArray⟩, .string ⟨(Lib.itoa (ns.length : Int)).toArray⟩] 9) = W4 := ⟨_, rfl⟩
  obtain ⟨v0, hv0⟩ : ∃ v0, Value.slice (some ⟨w3.heap.size, 0, none⟩) 4 4 = v0 := ⟨_, rfl⟩
  rw [hW4] at hB4 hown0
  rw [hv0] at hown0
  have HB4 := Lib.hid hB4; have HOWN0 := Lib.hid hown0
  clear c1 c2 c3
  obtain ⟨-, c1, c2, c3⟩ := KS.out _ hB4
  rw [hW4, hv0]
  clear hB4 hown0 hW4 hv0 hb1 hb2 hb3 hB1 hB2 hB3 hbase
  go_wp2_with fail
  go_loopw [3, 27] (fun v i wr => ∃ k : Nat, k ≤ ns.length ∧ i = .int .i64 k ∧ wr.ownsRow W0.heap.size 9 1 v (4 + k) (([okL, Lib.itoa n, wordL tx, Lib.itoa (ns.length : Int)] ++ (ns.take k).map wordL).map encStr) ∧ Hid (Below W0.heap.size W0 wr)) (fun _ i _ => ns.length - (intOf i).toNat)
  case atStart => exact ⟨0, Nat.zero_le _, rfl, HOWN0.out, HB4⟩
  case round =>
    clear HB4 HOWN0 c1 c2 c3
    obtain ⟨k, hk, rfl, hown, hbel⟩ := hrel
    by_cases hlt : k < ns.length
    · obtain ⟨x, hx⟩ : ∃ x, ns[k]? = some x := ⟨ns[k], by simp [hlt]⟩
      obtain ⟨b1, o1, rfl, hcell⟩ := rdS_at (HNA.out.below (HB0.out.trans (hbel.out.mono HB0.out.size))) hx
      simp only [encStr] at hcell
      have hxl := HNM.out x (List.mem_of_getElem? hx)
      have HX := Lib.hid hx
      have hxs : (⟨x.toArray⟩ : ByteArray).size ≤ 1000000000 := by simp [ByteArray.size]; omega
      clear hx
      go_wp2_with fail
      refine (word_any _ _ hxs).mono ?_
      rw [show (⟨x.toArray⟩ : ByteArray).data.toList = x from rfl]
      rintro e w5 ⟨rfl, hb5⟩
      have hown1 := owns_below hown hb5
      have hbel1 : Below W0.heap.size W0 w5 := hbel.out.trans (hb5.mono hbel.out.size)
      clear hown hbel hb5 hcell hxs
      go_wp2_with (at_builtin; refine wpList_append_own _ rfl _ _ 25 rfl W0.heap.size 9 i0 _ 1 16 Tryz.underlying25 HI.out HZ0.out HZ1.out HZ2.out rfl (by decide) _ _ _ rfl (hown1.alloc _) ⟨w5.heap.size, 0, none⟩ 1 1 [encStr (wordL x)] rfl rfl (cell_one_new _ _ _) (by simp [Value.oneCell', encStr]) (by unfold maxLen; omega) (by omega) (by have := hbel1.size; simp; omega) ?_; intro v' w6 hown2 hgrow2 _)
      have hk2 : ([okL, Lib.itoa n, wordL tx, Lib.itoa (ns.length : Int)] ++ (ns.take (k + 1)).map wordL).map encStr = ([okL, Lib.itoa n, wordL tx, Lib.itoa (ns.length : Int)] ++ (ns.take k).map wordL).map encStr ++ [encStr (wordL x)] := by
        rw [List.take_add_one, HX.out]; simp
      have hbel2 : Below W0.heap.size W0 w6 := (hbel1.alloc (by have := hbel1.size; omega) _).grown hgrow2 (by have := hbel1.size; simp; omega) (fun q hq => (hown1.lt q hq).1)
      rw [← hk2] at hown2
      clear hk2 hgrow2 hown1 hbel1
      have HBL2 := Lib.hid hbel2; clear hbel2
      go_wp2_with fail
      go_roundw
      case rel => exact ⟨k + 1, by omega, by go_num, hown2, HBL2⟩
      case measure => simp [intOf]; omega
    · obtain rfl : k = ns.length := by omega
      rw [List.take_length] at hown
      have hts : ([okL, Lib.itoa n, wordL tx, Lib.itoa (ns.length : Int)] ++ ns.map wordL).length = 4 + ns.length := by simp; omega
      have hjl : (Lib.join ([okL, Lib.itoa n, wordL tx, Lib.itoa (ns.length : Int)] ++ ns.map wordL) [32]).length ≤ (12001 + 1) * (4 + ns.length) := by
        have := join_le [32] 12001 ([okL, Lib.itoa n, wordL tx, Lib.itoa (ns.length : Int)] ++ ns.map wordL) (by
          intro y hy
          have i1 := Lib.itoa_length_le n e1 e2
          have i2 := Lib.itoa_length_le (ns.length : Int) l1 l2
          have i3 := wordL_len tx
          rcases List.mem_append.1 hy with hy | hy
          · simp only [List.mem_cons, List.not_mem_nil, or_false] at hy
            rcases hy with rfl | rfl | rfl | rfl
            · decide
            · omega
            · omega
            · omega
          · obtain ⟨z, hz, rfl⟩ := List.mem_map.1 hy
            have := wordL_len z
            have := HNM.out z hz
            omega)
        rw [hts] at this
        exact this
      have hcall := join_any (w := wr) (base := W0.heap.size) (v := u3) (by rw [hts]; exact hown) (by simp) (Nat.le_trans hjl (Nat.le_trans (Nat.mul_le_mul_left _ (by omega : 4 + ns.length ≤ 4004)) (by decide))) (by rw [hts]; omega)
      have HC := Lib.hid hcall
      clear hcall hjl hts hown
      go_wp2_with fail
      refine HC.out.mono ?_
      rintro e w5 ⟨rfl, hb5⟩
      go_wp2_with fail
      go_ret
      refine ⟨?_, HB0.out.trans ((hbel.out.trans (hb5.mono hbel.out.size)).mono HB0.out.size)⟩
      rw [hRR.out]
      rfl
end Go.Proofs.YtcbdmaelgedbkaaGreatDoor
