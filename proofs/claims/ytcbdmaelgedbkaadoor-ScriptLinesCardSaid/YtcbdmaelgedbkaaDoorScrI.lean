/- The walk of ScriptWhole. -/
import Derived.Test.YtcbdmaelgedbkaaDoorScrH
namespace Go.Proofs.YtcbdmaelgedbkaaDoor
open Go.RowKit Go.Shelf

theorem raw_slices {w : World} {ds : List RDeed} (h : ∀ d ∈ ds, d.Raw w) : ∀ d ∈ ds, (∃ a n c, d.bv = .slice a n c) ∧ ∃ a n c, d.kv = .slice a n c :=
  fun d hd => ⟨rdS_slice (h d hd).rb, rdS_slice (h d hd).rk⟩
theorem smallR_all {ds : List RDeed} (h : smallR ds = true) : ds.length ≤ 20 ∧ ∀ d ∈ ds, smallD d = true := by
  unfold smallR at h
  simp only [Bool.and_eq_true, decide_eq_true_eq, List.all_eq_true] at h
  exact h

set_option maxRecDepth 100000 in
set_option maxHeartbeats 4000000 in
theorem whole_main (va vb : Value) (a b : List RDeed) (w : World) (hra : RdDeeds w va a) (hrb : RdDeeds w vb b) (hda : ∀ d ∈ a, d.Raw w) (hdb : ∀ d ∈ b, d.Raw w) (he : Env w) (ha : smallR a = true) (hb : smallR b = true) :
    Calls Tryd.prog 3 #[va, vb] w fun e w' => e = .returned (.bool true) ∧ Below w.heap.size w w' := by
  obtain ⟨i0, hi, hz0, hz1, hz2⟩ := info_parts info_deed
  have HI0 := Lib.hid hi; have HZ0 := Lib.hid hz0; have HZ1 := Lib.hid hz1; have HZ2 := Lib.hid hz2; clear hi hz0 hz1 hz2
  obtain ⟨la, sa⟩ := smallR_all ha
  obtain ⟨lb, sb⟩ := smallR_all hb
  have HSA := Lib.hid sa; have HSB := Lib.hid sb; clear sa sb
  have HRA := Lib.hid hra; have HRB := Lib.hid hrb; have HDA := Lib.hid hda; have HDB := Lib.hid hdb; have HE := Lib.hid he
  clear hra hrb hda hdb he
  go_enter Tryd.func3, Tryd.ntmps3
  go_wp2_with fail
  refine (awake_any _ HE.out).mono ?_
  rintro e w1 ⟨rfl, hb1⟩
  have HB1 := Lib.hid hb1; clear hb1
  go_wp2_with fail
  refine (small_any va a w1 (HRA.out.below HB1.out) (fun d hd => (HDA.out d hd).below HB1.out)).mono ?_
  rintro e w2 ⟨rfl, rfl⟩
  go_wp2_with fail
  refine (small_any vb b w1 (HRB.out.below HB1.out) (fun d hd => (HDB.out d hd).below HB1.out)).mono ?_
  rintro e w2 ⟨rfl, rfl⟩
  go_wp2_with fail
  refine (print_any va a w1 (HRA.out.below HB1.out) (by omega) (fun d hd => ((HDA.out d hd).below HB1.out).in (HSA.out d hd)) (HE.out.below HB1.out)).mono ?_
  rintro e w3 ⟨rfl, hb3⟩
  have HB3 := Lib.hid (HB1.out.trans (hb3.mono HB1.out.size)); clear hb3
  go_wp2_with fail
  refine (print_any vb b w3 (HRB.out.below HB3.out) (by omega) (fun d hd => ((HDB.out d hd).below HB3.out).in (HSB.out d hd)) (HE.out.below HB3.out)).mono ?_
  rintro e w4 ⟨rfl, hb4⟩
  have HB4 := Lib.hid (HB3.out.trans (hb4.mono HB3.out.size)); clear hb4
  have hb5 : Below w.heap.size w (w4.alloc (.cells #[] 32)) := HB4.out.alloc HB4.out.size _
  have hown0 : (w4.alloc (.cells #[] 32)).ownsRow w.heap.size 32 8 (.slice (some ⟨w4.heap.size, 0, none⟩) 0 0) 0 [] := World.ownsRow_made w4 #[] 0 HB4.out.size (by unfold maxLen; omega) rfl
  have hsa : SrcS (w4.alloc (.cells #[] 32)) va a.length 8 (a.flatMap RDeed.cells) := srcS_deeds (HRA.out.below hb5)
  have hbase0 := hb5.size
  have HB5 := Lib.hid hb5; clear hb5
  go_wp2_with (first
    | (at_builtin
       refine wpList_append_src rfl (.tmp 35) (.tmp 36) 22 rfl w.heap.size 32 i0 _ 8 112 Tryd.underlying22 HI0.out HZ0.out HZ1.out HZ2.out rfl (by decide) _ _ _ rfl hown0 va _ _ rfl hsa (cells_one a (raw_slices HDA.out)) (by unfold maxLen; omega) (by omega) hbase0 ?_
       intro v1 w5 hown1 hg1
       have hb6 : Below w.heap.size w w5 := HB5.out.grown hg1 HB5.out.size (fun q hq => (hown0.lt q hq).1)
       have hsb : SrcS w5 vb b.length 8 (b.flatMap RDeed.cells) := srcS_deeds (HRB.out.below hb6)
       have hbase1 := hb6.size
       have HB6 := Lib.hid hb6
       clear hown0 hsa hg1 hbase0 hb6)
    | (at_builtin
       refine wpList_append_src rfl (.tmp 37) (.tmp 38) 22 rfl w.heap.size 32 i0 _ 8 112 Tryd.underlying22 HI0.out HZ0.out HZ1.out HZ2.out rfl (by decide) _ _ _ rfl hown1 vb _ _ rfl hsb (cells_one b (raw_slices HDB.out)) (by unfold maxLen; omega) (by omega) hbase1 ?_
       intro v2 w6 hown2 hg2))
  have hb7 : Below w.heap.size w w6 := HB6.out.grown hg2 HB6.out.size (fun q hq => (hown1.lt q hq).1)
  have HB7 := Lib.hid hb7
  have hrd : RdDeeds w6 v2 (a ++ b) := deeds_of_owns (by
    have e : (a ++ b).length = 0 + a.length + b.length := by simp
    rw [e, List.flatMap_append]
    exact hown2)
  clear hown1 hsb hg2 hbase1 hb7 hown2
  have HRD := Lib.hid hrd; clear hrd
  have hsab : (a ++ b).length ≤ 1000 := by simp; omega
  have hin : ∀ d ∈ a ++ b, d.In w6 := fun d hd => (List.mem_append.1 hd).elim (fun h => ((HDA.out d h).below HB7.out).in (HSA.out d h)) (fun h => ((HDB.out d h).below HB7.out).in (HSB.out d h))
  have HIN := Lib.hid hin; have HSAB := Lib.hid hsab
  clear hin hsab
  by_cases hpa : (printR a).1 = 0
  · by_cases hpb : (printR b).1 = 0
    · have HAB : Hid (printR (a ++ b) = (0, (printR a).2 ++ (printR b).2)) := printR_app a b hpa hpb
      have hlen : ¬ 9223372036854775807 < (printR a).2.length + (printR b).2.length := by
        rw [printR_ok (printR_find.1 hpa), printR_ok (printR_find.1 hpb)]
        have h1 := lineNL_len a
        have h2 := lineNL_len b
        simp only
        omega
      have hpa' : ((printR a).1 != 0) = false := by simp [hpa]
      have hpb' : ((printR b).1 != 0) = false := by simp [hpb]
      clear hpa hpb
      go_wp2_with fail
      refine (print_any v2 (a ++ b) w6 HRD.out HSAB.out HIN.out (HE.out.below HB7.out)).mono ?_
      rintro e w7 ⟨rfl, hb8⟩
      rw [HAB.out]
      have HB8 := Lib.hid (HB7.out.trans (hb8.mono HB7.out.size)); clear hb8
      go_wp2_with fail
      go_ret
      refine ⟨?_, HB8.out⟩
      show Ending.returned (.bool ((printR a).2 ++ (printR b).2 == (⟨(printR a).2.toArray⟩ ++ ⟨(printR b).2.toArray⟩ : ByteArray).toList)) = _
      rw [toList_eq, data_app]
      simp
    · have HAB := Lib.hid (printR_app_bad a b (.inr hpb))
      have hpa' : ((printR a).1 != 0) = false := by simp [hpa]
      have hpb' : ((printR b).1 != 0) = true := by simp [hpb]
      clear hpa hpb
      go_wp2_with fail
      refine (print_any v2 (a ++ b) w6 HRD.out HSAB.out HIN.out (HE.out.below HB7.out)).mono ?_
      rintro e w7 ⟨rfl, hb8⟩
      have HB8 := Lib.hid (HB7.out.trans (hb8.mono HB7.out.size)); clear hb8
      go_wp2_with fail
      go_ret
      refine ⟨?_, HB8.out⟩
      have := HAB.out
      simpa using this
  · have HAB := Lib.hid (printR_app_bad a b (.inl hpa))
    have hpa' : ((printR a).1 != 0) = true := by simp [hpa]
    clear hpa
    go_wp2_with fail
    refine (print_any v2 (a ++ b) w6 HRD.out HSAB.out HIN.out (HE.out.below HB7.out)).mono ?_
    rintro e w7 ⟨rfl, hb8⟩
    have HB8 := Lib.hid (HB7.out.trans (hb8.mono HB7.out.size)); clear hb8
    go_wp2_with fail
    go_ret
    refine ⟨?_, HB8.out⟩
    have := HAB.out
    simpa using this

set_option maxRecDepth 100000 in
set_option maxHeartbeats 4000000 in
theorem whole_walk (va vb : Value) (a b : List RDeed) (w : World) (hra : RdDeeds w va a) (hrb : RdDeeds w vb b) (hda : ∀ d ∈ a, d.Raw w) (hdb : ∀ d ∈ b, d.Raw w) (he : Env w) :
    Calls Tryd.prog 3 #[va, vb] w fun e w' => e = .returned (.bool true) ∧ Below w.heap.size w w' := by
  by_cases ha : smallR a = true
  · by_cases hb : smallR b = true
    · exact whole_main va vb a b w hra hrb hda hdb he ha hb
    · have hb' : smallR b = false := by simpa using hb
      have HRA := Lib.hid hra; have HRB := Lib.hid hrb; have HDA := Lib.hid hda; have HDB := Lib.hid hdb; have HE := Lib.hid he
      clear hb hra hrb hda hdb he
      go_enter Tryd.func3, Tryd.ntmps3
      go_wp2_with fail
      refine (awake_any _ HE.out).mono ?_
      rintro e w1 ⟨rfl, hb1⟩
      have HB1 := Lib.hid hb1; clear hb1
      go_wp2_with fail
      refine (small_any va a w1 (HRA.out.below HB1.out) (fun d hd => (HDA.out d hd).below HB1.out)).mono ?_
      rintro e w2 ⟨rfl, rfl⟩
      go_wp2_with fail
      refine (small_any vb b w1 (HRB.out.below HB1.out) (fun d hd => (HDB.out d hd).below HB1.out)).mono ?_
      rintro e w2 ⟨rfl, rfl⟩
      go_wp2_with fail
      refine (awake_any _ (HE.out.below HB1.out)).mono ?_
      rintro e w3 ⟨rfl, hb3⟩
      go_wp2_with fail
      go_ret
      exact ⟨rfl, HB1.out.trans (hb3.mono HB1.out.size)⟩
  · have ha' : smallR a = false := by simpa using ha
    have HRA := Lib.hid hra; have HRB := Lib.hid hrb; have HDA := Lib.hid hda; have HDB := Lib.hid hdb; have HE := Lib.hid he
    clear ha hra hrb hda hdb he
    go_enter Tryd.func3, Tryd.ntmps3
    go_wp2_with fail
    refine (awake_any _ HE.out).mono ?_
    rintro e w1 ⟨rfl, hb1⟩
    have HB1 := Lib.hid hb1; clear hb1
    go_wp2_with fail
    refine (small_any va a w1 (HRA.out.below HB1.out) (fun d hd => (HDA.out d hd).below HB1.out)).mono ?_
    rintro e w2 ⟨rfl, rfl⟩
    go_wp2_with fail
    refine (awake_any _ (HE.out.below HB1.out)).mono ?_
    rintro e w3 ⟨rfl, hb3⟩
    go_wp2_with fail
    go_ret
    exact ⟨rfl, HB1.out.trans (hb3.mono HB1.out.size)⟩
end Go.Proofs.YtcbdmaelgedbkaaDoor
