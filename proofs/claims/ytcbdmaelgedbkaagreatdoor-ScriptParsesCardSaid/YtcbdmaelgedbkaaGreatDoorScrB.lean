/- Walks of package script: list, names, part. -/
import Derived.Test.YtcbdmaelgedbkaaGreatDoorScrA
namespace Go.Proofs.YtcbdmaelgedbkaaGreatDoor
open Go.RowKit Go.Shelf

def listL (xs : List Int) : List UInt8 := if xs = [] then [45] else Lib.join (xs.map Lib.itoa) [44]
theorem info_str : (Tryz.prog.info? 9).map (fun i => (i.zero, i.size, i.bytes)) = some (some (.string ⟨#[]⟩), 1, 16) := by kernel_rfl

def encStr (l : List UInt8) : Value := .string ⟨l.toArray⟩
set_option maxRecDepth 100000 in
set_option maxHeartbeats 1000000 in
theorem list_any (v : Value) (xs : List Int) (w : World) (hr : RdS encI w v xs) (hl : xs.length ≤ 100000) (hb : ∀ x ∈ xs, -9223372036854775808 ≤ x ∧ x ≤ 9223372036854775807) (he : Env w) :
    Calls Tryz.prog 62 #[v] w fun e w' => e = .returned (.string ⟨(listL xs).toArray⟩) ∧ Below w.heap.size w w' := by
  obtain ⟨i0, hi, hz0, hz1, hz2⟩ := info_parts info_str
  by_cases h0 : xs = []
  · subst h0
    rcases hr with ⟨rfl, -⟩ | ⟨a, c, rfl, -⟩ | ⟨b, off, c, rfl, -⟩
    all_goals
      go_enter Tryz.func62, Tryz.ntmps62
      go_wp2_with fail
      go_ret
      exact ⟨rfl, Below.refl _ _⟩
  have hpos : 0 < xs.length := List.length_pos_iff.2 h0
  rcases hr with ⟨-, rfl⟩ | ⟨-, -, -, rfl⟩ | ⟨b, off, c, rfl, hbw, hcap, hc⟩
  · exact absurd rfl h0
  · exact absurd rfl h0
  have HL : Hid (listL xs = Lib.join (xs.map Lib.itoa) [44]) := by unfold Hid listL; rw [if_neg h0]
  have hne : (((xs.length : Nat) : Int) == 0) = false := by simp; omega
  have HC := Lib.hid hc; clear hc h0
  have HE := Lib.hid he; clear he
  have HBd := Lib.hid hb; clear hb
  have HI := Lib.hid hi; have HZ0 := Lib.hid hz0; have HZ1 := Lib.hid hz1; have HZ2 := Lib.hid hz2; clear hi hz0 hz1 hz2
  go_enter Tryz.func62, Tryz.ntmps62
  go_wp2_with fail
  go_loopw [3, 11] (fun v i wr => ∃ k : Nat, k ≤ xs.length ∧ i = .int .i64 k ∧ wr.ownsRow w.heap.size 9 1 v k ((xs.take k).map fun x => encStr (Lib.itoa x)) ∧ Below w.heap.size w wr) (fun _ i _ => xs.length - (intOf i).toNat)
  case atStart =>
    exact ⟨0, Nat.zero_le _, rfl, World.ownsRow_nil _ _ _ _, Below.refl _ _⟩
  case round =>
    obtain ⟨k, hk, rfl, hown, hbel⟩ := hrel
    by_cases hlt : k < xs.length
    · obtain ⟨u, hu⟩ : ∃ u, xs[k]? = some u := ⟨xs[k], by simp [hlt]⟩
      have hcell : wr.cell? ⟨b, off + k, none⟩ = some (.int .i64 u) := (hbel.cell (p := ⟨b, off + k, none⟩) hbw).trans (HC.out k u hu)
      have hub := HBd.out u (List.mem_of_getElem? hu)
      have HU := Lib.hid hu; clear hu
      go_wp2_with fail
      refine (itoa_any u hub.1 hub.2 _ (HE.out.below hbel)).mono ?_
      rintro e w1 ⟨rfl, hb1⟩
      have hown1 := owns_below hown hb1
      have hbel1 := hbel.trans (hb1.mono hbel.size)
      clear hown hbel hb1 hcell
      go_wp2_with (at_builtin; refine wpList_append_own _ rfl _ _ 25 rfl w.heap.size 9 i0 _ 1 16 Tryz.underlying25 HI.out HZ0.out HZ1.out HZ2.out rfl (by decide) _ _ _ rfl (hown1.alloc _) ⟨w1.heap.size, 0, none⟩ 1 1 [encStr (Lib.itoa u)] rfl rfl (cell_one_new _ _ _) (by simp [Value.oneCell', encStr]) (by unfold maxLen; omega) (by omega) (by have := hbel1.size; simp; omega) ?_; intro v' w2 hown2 hgrow2 _)
      have hk2 : (xs.take (k + 1)).map (fun x => encStr (Lib.itoa x)) = (xs.take k).map (fun x => encStr (Lib.itoa x)) ++ [encStr (Lib.itoa u)] := by
        rw [List.take_add_one, HU.out]; simp
      have hbel2 : Below w.heap.size w w2 := (hbel1.alloc (by have := hbel1.size; omega) _).grown hgrow2 (by have := hbel1.size; simp; omega) (fun q hq => (hown1.lt q hq).1)
      rw [← hk2] at hown2
      clear hk2 hgrow2 hown1 hbel1
      go_wp2_with fail
      go_roundw
      case rel => exact ⟨k + 1, by omega, by go_num, hown2, hbel2⟩
      case measure => simp [intOf]; omega
    · obtain rfl : k = xs.length := by omega
      rw [List.take_length] at hown
      obtain ⟨g, cap, rfl, hcells, hgl, hcl⟩ : ∃ g cap, u3 = Value.slice (some ⟨g, 0, none⟩) xs.length cap ∧ (∀ (j : Nat) x, (xs.map fun x => (⟨(Lib.itoa x).toArray⟩ : ByteArray))[j]? = some x → wr.cell? ⟨g, 0 + j, none⟩ = some (.string x)) ∧ g < wr.heap.size ∧ xs.length ≤ cap := by
        have hown' : wr.ownsRow w.heap.size 9 1 u3 (xs.map fun x => (⟨(Lib.itoa x).toArray⟩ : ByteArray)).length ((xs.map fun x => (⟨(Lib.itoa x).toArray⟩ : ByteArray)).map Value.string) := by
          simpa [encStr, Function.comp_def] using hown
        rcases rdS_of_owns hown' with ⟨-, h2⟩ | ⟨-, -, -, h2⟩ | ⟨b', off', c', h1, h2, h3, h4⟩
        · have := congrArg List.length h2; simp at this; subst this; simp at hpos
        · have := congrArg List.length h2; simp at this; subst this; simp at hpos
        · rcases hown.2 with ⟨h5, h6⟩ | ⟨g, cap, cur, h5, -⟩
          · omega
          · rw [h5] at h1
            simp at h1
            obtain ⟨⟨rfl, rfl⟩, rfl⟩ := h1
            exact ⟨g, cap, h5, h4, h2, by simpa using h3⟩
      have hjl : (Lib.join ((xs.map fun x => (⟨(Lib.itoa x).toArray⟩ : ByteArray)).map (·.data.toList)) [44]).length ≤ (21 + 1) * xs.length := by
        have := join_le [44] 21 ((xs.map fun x => (⟨(Lib.itoa x).toArray⟩ : ByteArray)).map (·.data.toList)) (by
          intro y hy
          simp at hy
          obtain ⟨z, hz, rfl⟩ := hy
          exact Lib.itoa_length_le z (HBd.out z hz).1 (HBd.out z hz).2)
        simpa using this
      have HJ := Lib.hid hjl; clear hjl
      go_wp2_with fail
      have hj := Tryz.strings_Join g 0 cap (xs.map fun x => (⟨(Lib.itoa x).toArray⟩ : ByteArray)) ⟨#[44]⟩ wr hcells hgl (by simp; omega) (by simpa using hcl) (by have := HJ.out; simp at *; omega)
      rw [List.length_map] at hj
      refine hj.mono ?_
      rintro e w1 ⟨rfl, hbel1⟩
      go_wp2_with fail
      go_ret
      refine ⟨?_, hbel.trans (hbel1.mono hbel.size)⟩
      rw [HL.out]
      simp [Function.comp_def]

/-- A deed, as it lies in eight cells. -/
structure RDeed where
  kind : Int
  n : Int
  m : Int
  k : Int
  path : ByteArray
  as_ : ByteArray
  bv : Value
  kv : Value
  b : List UInt8
  keep : List Int
def I64 (x : Int) : Prop := -9223372036854775808 ≤ x ∧ x ≤ 9223372036854775807
def RDeed.cells (d : RDeed) : List Value := [.int .i64 d.kind, .int .i64 d.n, .int .i64 d.m, .int .i64 d.k, .string d.path, .string d.as_, d.bv, d.kv]
def RDeed.val (d : RDeed) : Value := .agg #[.int .i64 d.kind, .int .i64 d.n, .int .i64 d.m, .int .i64 d.k, .string d.path, .string d.as_, d.bv, d.kv]
/-- .. in a world: its two slices read as its lists; all within bounds. -/
structure RDeed.In (w : World) (d : RDeed) : Prop where
  rb : RdS encB w d.bv d.b
  rk : RdS encI w d.kv d.keep
  kind : I64 d.kind
  n : I64 d.n
  m : I64 d.m
  k : I64 d.k
  path : d.path.size ≤ 100000
  as_ : d.as_.size ≤ 100000
  b : d.b.length ≤ 100000
  keepN : d.keep.length ≤ 2000
  keep : ∀ x ∈ d.keep, I64 x
theorem RDeed.In.below {w w' : World} {d : RDeed} (h : d.In w) (hb : Below w.heap.size w w') : d.In w' := { h with rb := h.rb.below hb, rk := h.rk.below hb }
/-- What a deed has under a letter. -/
def partL (d : RDeed) (c : Int) : List UInt8 :=
  if c = 80 then wordL d.path.data.toList else if c = 65 then wordL d.as_.data.toList else if c = 66 then wordL d.b else if c = 76 then listL d.keep
  else if c = 78 then Lib.itoa d.n else if c = 77 then Lib.itoa d.m else Lib.itoa d.k

set_option maxRecDepth 100000 in
set_option maxHeartbeats 2000000 in
theorem part_any (d : RDeed) (c : Int) (w : World) (hd : d.In w) (he : Env w) :
    Calls Tryz.prog 44 #[d.val, .int .i32 c] w fun e w' => e = .returned (.string ⟨(partL d c).toArray⟩) ∧ Below w.heap.size w w' := by
  have HD := Lib.hid hd; clear hd
  have HE := Lib.hid he; clear he
  have hB1 : Below w.heap.size w (w.alloc (.cells #[.int .i64 d.kind, .int .i64 d.n, .int .i64 d.m, .int .i64 d.k, .string d.path, .string d.as_, d.bv, d.kv] 44)) := (Below.refl _ _).alloc (Nat.le_refl _) _
  have HB1 := Lib.hid hB1; clear hB1
  by_cases c1 : c = 80
  · have c1' : (c == 80) = true := by simp [c1]
    have HP : Hid (partL d c = wordL d.path.data.toList) := by unfold Hid partL; rw [if_pos c1]
    clear c1
    unfold RDeed.val
    go_enter Tryz.func44, Tryz.ntmps44
    go_wp2_with fail
    refine (word_any d.path _ (by have := HD.out.path; omega)).mono ?_
    rintro e w1 ⟨rfl, hb1⟩
    go_wp2_with fail
    go_ret
    exact ⟨by rw [HP.out]; rfl, HB1.out.trans (hb1.mono (by simp))⟩
  have c1' : (c == 80) = false := by simp [c1]
  by_cases c2 : c = 65
  · have c2' : (c == 65) = true := by simp [c2]
    have HP : Hid (partL d c = wordL d.as_.data.toList) := by unfold Hid partL; rw [if_neg c1, if_pos c2]
    clear c1 c2
    unfold RDeed.val
    go_enter Tryz.func44, Tryz.ntmps44
    go_wp2_with fail
    refine (word_any d.as_ _ (by have := HD.out.as_; omega)).mono ?_
    rintro e w1 ⟨rfl, hb1⟩
    go_wp2_with fail
    go_ret
    exact ⟨by rw [HP.out]; rfl, HB1.out.trans (hb1.mono (by simp))⟩
  have c2' : (c == 65) = false := by simp [c2]
  by_cases c3 : c = 66
  · have c3' : (c == 66) = true := by simp [c3]
    have HP : Hid (partL d c = wordL d.b) := by unfold Hid partL; rw [if_neg c1, if_neg c2, if_pos c3]
    clear c1 c2 c3
    have hconv := run_string_of (src := 41) Tryz.underlying41 Tryz.underlying5 Tryz.underlying9 (HD.out.rb.below HB1.out)
    unfold RDeed.val
    go_enter Tryz.func44, Tryz.ntmps44
    go_wp2_with fail
    refine (word_any ⟨d.b.toArray⟩ _ (by have := HD.out.b; simp [ByteArray.size]; omega)).mono ?_
    rintro e w1 ⟨rfl, hb1⟩
    go_wp2_with fail
    go_ret
    exact ⟨by rw [HP.out]; rfl, HB1.out.trans (hb1.mono (by simp))⟩
  have c3' : (c == 66) = false := by simp [c3]
  by_cases c4 : c = 76
  · have c4' : (c == 76) = true := by simp [c4]
    have HP : Hid (partL d c = listL d.keep) := by unfold Hid partL; rw [if_neg c1, if_neg c2, if_neg c3, if_pos c4]
    clear c1 c2 c3 c4
    unfold RDeed.val
    go_enter Tryz.func44, Tryz.ntmps44
    go_wp2_with fail
    refine (list_any _ d.keep _ (HD.out.rk.below HB1.out) (by have := HD.out.keepN; omega) HD.out.keep (HE.out.below HB1.out)).mono ?_
    rintro e w1 ⟨rfl, hb1⟩
    go_wp2_with fail
    go_ret
    exact ⟨by rw [HP.out]; rfl, HB1.out.trans (hb1.mono (by simp))⟩
  have c4' : (c == 76) = false := by simp [c4]
  by_cases c5 : c = 78
  · have c5' : (c == 78) = true := by simp [c5]
    have HP : Hid (partL d c = Lib.itoa d.n) := by unfold Hid partL; rw [if_neg c1, if_neg c2, if_neg c3, if_neg c4, if_pos c5]
    clear c1 c2 c3 c4 c5
    unfold RDeed.val
    go_enter Tryz.func44, Tryz.ntmps44
    go_wp2_with fail
    refine (itoa_any d.n HD.out.n.1 HD.out.n.2 _ (HE.out.below HB1.out)).mono ?_
    rintro e w1 ⟨rfl, hb1⟩
    go_wp2_with fail
    go_ret
    exact ⟨by rw [HP.out]; rfl, HB1.out.trans (hb1.mono (by simp))⟩
  have c5' : (c == 78) = false := by simp [c5]
  by_cases c6 : c = 77
  · have c6' : (c == 77) = true := by simp [c6]
    have HP : Hid (partL d c = Lib.itoa d.m) := by unfold Hid partL; rw [if_neg c1, if_neg c2, if_neg c3, if_neg c4, if_neg c5, if_pos c6]
    clear c1 c2 c3 c4 c5 c6
    unfold RDeed.val
    go_enter Tryz.func44, Tryz.ntmps44
    go_wp2_with fail
    refine (itoa_any d.m HD.out.m.1 HD.out.m.2 _ (HE.out.below HB1.out)).mono ?_
    rintro e w1 ⟨rfl, hb1⟩
    go_wp2_with fail
    go_ret
    exact ⟨by rw [HP.out]; rfl, HB1.out.trans (hb1.mono (by simp))⟩
  have c6' : (c == 77) = false := by simp [c6]
  have HP : Hid (partL d c = Lib.itoa d.k) := by unfold Hid partL; rw [if_neg c1, if_neg c2, if_neg c3, if_neg c4, if_neg c5, if_neg c6]
  clear c1 c2 c3 c4 c5 c6
  unfold RDeed.val
  go_enter Tryz.func44, Tryz.ntmps44
  go_wp2_with fail
  refine (itoa_any d.k HD.out.k.1 HD.out.k.2 _ (HE.out.below HB1.out)).mono ?_
  rintro e w1 ⟨rfl, hb1⟩
  go_wp2_with fail
  go_ret
  exact ⟨by rw [HP.out]; rfl, HB1.out.trans (hb1.mono (by simp))⟩
end Go.Proofs.YtcbdmaelgedbkaaGreatDoor
