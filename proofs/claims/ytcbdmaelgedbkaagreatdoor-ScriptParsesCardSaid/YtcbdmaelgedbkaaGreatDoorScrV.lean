/- The walk of script.text. -/
import Derived.Test.YtcbdmaelgedbkaaGreatDoorScrU
namespace Go.Proofs.YtcbdmaelgedbkaaGreatDoor
open Go.RowKit Go.Shelf

set_option maxRecDepth 100000 in
set_option maxHeartbeats 4000000 in
theorem text_any (s : ByteArray) (w : World) (hs : s.size ≤ 1000000) :
    Calls Tryz.prog 37 #[.string s] w fun e w' => e = .returned (textV (textR s.data.toList)) ∧ Below w.heap.size w w' := by
  obtain ⟨i0, hi, hz0, hz1, hz2⟩ := info_parts info_u8
  have HI := Lib.hid hi; have HZ0 := Lib.hid hz0; have HZ1 := Lib.hid hz1; have HZ2 := Lib.hid hz2; clear hi hz0 hz1 hz2
  obtain ⟨R, hR⟩ : ∃ R, textR s.data.toList = R := ⟨_, rfl⟩
  rw [hR]
  by_cases h37 : s.data.toList = [37]
  · have HR : Hid (R = some []) := by unfold Hid; rw [← hR]; unfold textR; rw [if_pos h37]
    have hb : (s.toList == [37]) = true := by rw [toList_eq]; simp [h37]
    clear hR h37
    go_enter Tryz.func37, Tryz.ntmps37
    go_wp2_with fail
    go_ret2
    exact ⟨by rw [HR.out]; rfl, Below.refl _ _⟩
  have HR : Hid (R = textC s.data.toList (unesc s.data.toList)) := by unfold Hid; rw [← hR]; unfold textR; rw [if_neg h37]
  have hb : (s.toList == [37]) = false := by rw [toList_eq]; simpa using h37
  clear hR h37
  go_enter Tryz.func37, Tryz.ntmps37
  go_wp2_with fail
  go_loopw [4, 5] (fun v i wr => ∃ (k : Nat) (acc : List UInt8), k ≤ s.size ∧ i = .int .i64 k ∧ acc.length ≤ k ∧ wr.ownsRow w.heap.size 5 1 v acc.length (acc.map encB) ∧ Below w.heap.size w wr ∧ Hid (unesc s.data.toList = (unesc (s.data.toList.drop k)).map (acc ++ ·))) (fun _ i _ => s.size - (intOf i).toNat)
  case atStart => exact ⟨0, [], Nat.zero_le _, rfl, Nat.le_refl _, World.ownsRow_nil _ _ _ _, Below.refl _ _, by unfold Hid; simp⟩
  case round =>
    obtain ⟨k, acc, hk, rfl, hacc, hown, hbel, hue⟩ := hrel
    by_cases hlt : k < s.size
    · have hsd : s.data.toList.drop k = s[k] :: s.data.toList.drop (k + 1) := drop_at (by simpa using hlt)
      have hu256 : ((s[k].toNat : Nat) : Int) < 256 := by have := s[k].toNat_lt; omega
      by_cases hc : s[k] = 37
      · have hcb : (((s[k].toNat : Nat) : Int) != 37) = false := by rw [hc]; rfl
        obtain ⟨X, hX⟩ : ∃ X : ByteArray, s.extract (k + 1) (min ((k : Int) + 3) (s.size : Int)).toNat = X := ⟨_, rfl⟩
        have hmt : (min ((k : Int) + 3) (s.size : Int)).toNat = min (k + 3) s.size := by omega
        have hXs : X.size ≤ 2 := by rw [← hX, hmt]; simp; omega
        have hXd : X.data.toList = (s.data.toList.drop (k + 1)).take 2 := by
          rw [← hX, hmt, Lib.extract_data]
          by_cases h3 : k + 3 ≤ s.size
          · rw [show min (k + 3) s.size - (k + 1) = 2 from by omega]
          · rw [List.take_of_length_le (by simp; omega), List.take_of_length_le (by simp; omega)]
        have hXl : X.data.toList.length = min 2 (s.size - (k + 1)) := by rw [hXd]; simp
        rw [hsd, hc, unesc_hex, ← hXd] at hue
        have HXs := Lib.hid hXs; have HX := Lib.hid hX; have HXL := Lib.hid hXl
        clear hc hsd hXd hXs hX hmt hXl
        have hun := unhex_any X wr HXs.out
        have HU := Lib.hid hun; clear hun
        go_wp2_with fail
        rw [HX.out]
        refine HU.out.mono ?_
        clear HU
        rintro e w1 ⟨hu1, hu2, hb1⟩
        cases ho : unhexR X.data.toList with
        | none =>
          obtain ⟨ok, rfl⟩ := hu2 ho
          have HN : Hid (R = none) := by unfold Hid; rw [HR.out, hue.out, ho]; rfl
          have HB : Hid (Below w.heap.size w w1) := hbel.trans (hb1.mono hbel.size)
          clear ho hu1 hu2 hue hown hbel hb1
          cases ok
          all_goals
            go_wp2_with fail
            go_ret2
            exact ⟨by rw [HN.out]; rfl, HB.out⟩
        | some c =>
          obtain ⟨g, cap, rfl, hcell⟩ := hu1 c ho
          have hk3 : k + 3 ≤ s.size := by
            have := unhexR_len ho
            have := HXL.out
            omega
          have HUE : Hid (unesc s.data.toList = (unesc (s.data.toList.drop (k + 3))).map ((acc ++ [c]) ++ ·)) := by
            unfold Hid
            rw [hue.out, ho]
            simp only
            rw [List.drop_drop, show k + 1 + 2 = k + 3 from rfl, map_app]
          have hown1 := owns_below hown hb1
          have hbel1 : Below w.heap.size w w1 := hbel.trans (hb1.mono hbel.size)
          clear ho hu1 hu2 hue hown hbel hb1
          go_wp2_with (at_builtin; refine wpList_append_own _ rfl _ _ 41 rfl w.heap.size 5 i0 _ 1 1 Tryz.underlying41 HI.out HZ0.out HZ1.out HZ2.out rfl (by decide) _ _ _ rfl (hown1.alloc _) ⟨w1.heap.size, 0, none⟩ 1 1 [.int .u8 (c.toNat : Int)] rfl rfl (cell_one_new _ _ _) (by simp [Value.oneCell']) (by unfold maxLen; omega) (by omega) (by have := hbel1.size; simp; omega) ?_; intro v' w2 hown2 hgrow2 _)
          have hbel2 : Below w.heap.size w w2 := (hbel1.alloc (by have := hbel1.size; omega) _).grown hgrow2 (by have := hbel1.size; simp; omega) (fun q hq => (hown1.lt q hq).1)
          have hown3 : w2.ownsRow w.heap.size 5 1 v' (acc ++ [c]).length ((acc ++ [c]).map encB) := by
            rw [List.length_append, List.map_append]; exact hown2
          clear hown1 hown2 hgrow2 hbel1 hcell
          go_wp2_with fail
          go_roundw
          case rel => exact ⟨k + 3, acc ++ [c], hk3, by go_num, by simp; omega, hown3, hbel2, HUE⟩
          case measure => simp [intOf]; omega
      · have hcb : (((s[k].toNat : Nat) : Int) != 37) = true := by
          rw [bne_iff_ne]; intro e; exact hc (UInt8.toNat_inj.1 (by simp; omega))
        have HUE : Hid (unesc s.data.toList = (unesc (s.data.toList.drop (k + 1))).map ((acc ++ [s[k]]) ++ ·)) := by
          unfold Hid
          rw [hue.out, hsd, unesc_plain hc, map_app]
        obtain ⟨c, hcc⟩ : ∃ c, s[k] = c := ⟨_, rfl⟩
        rw [hcc] at HUE
        have HCC := Lib.hid hcc
        clear hc hsd hue hcc
        go_wp2_with (at_builtin; refine wpList_append_own _ rfl _ _ 41 rfl w.heap.size 5 i0 _ 1 1 Tryz.underlying41 HI.out HZ0.out HZ1.out HZ2.out rfl (by decide) _ _ _ rfl (hown.alloc _) ⟨wr.heap.size, 0, none⟩ 1 1 [.int .u8 (s[k].toNat : Int)] rfl rfl (cell_one_new _ _ _) (by simp [Value.oneCell']) (by unfold maxLen; omega) (by omega) (by have := hbel.size; simp; omega) ?_; intro v' w2 hown2 hgrow2 _)
        have hbel2 : Below w.heap.size w w2 := (hbel.alloc (by have := hbel.size; omega) _).grown hgrow2 (by have := hbel.size; simp; omega) (fun q hq => (hown.lt q hq).1)
        have hown3 : w2.ownsRow w.heap.size 5 1 v' (acc ++ [c]).length ((acc ++ [c]).map encB) := by
          rw [List.length_append, List.map_append]
          rw [HCC.out] at hown2
          exact hown2
        clear hown hown2 hgrow2 hbel
        go_wp2_with fail
        go_roundw
        case rel => exact ⟨k + 1, acc ++ [c], by omega, by go_num, by simp; omega, hown3, hbel2, HUE⟩
        case measure => simp [intOf]; omega
    · obtain rfl : k = s.size := by omega
      rw [List.drop_eq_nil_of_le (by simp)] at hue
      have HUE : Hid (unesc s.data.toList = some acc) := by unfold Hid; rw [hue.out]; simp [unesc]
      have hconv := run_string_of (src := 41) Tryz.underlying41 Tryz.underlying5 Tryz.underlying9 (rdS_of_owns hown)
      have HRD := Lib.hid (rdS_of_owns hown)
      obtain ⟨T, hT⟩ : ∃ T : ByteArray, (⟨acc.toArray⟩ : ByteArray) = T := ⟨_, rfl⟩
      rw [hT] at hconv
      have hTl : T.data.toList = acc := by rw [← hT]
      have hTs : T.size ≤ 1000000 := by rw [← hT]; simp [ByteArray.size]; omega
      have HTL := Lib.hid hTl; have HT := Lib.hid hT
      clear hue hown hTl hT
      go_wp2_with fail
      refine (word_any T wr (by omega)).mono ?_
      rintro e w1 ⟨rfl, hb1⟩
      rw [HTL.out]
      have HB : Hid (Below w.heap.size w w1) := hbel.trans (hb1.mono hbel.size)
      by_cases hw : wordL acc = s.data.toList
      · have HN : Hid (R = some acc) := by unfold Hid; rw [HR.out, HUE.out]; simp [textC, hw]
        have hwb : (wordL acc == s.toList) = true := by rw [toList_eq]; simp [hw]
        have hconv2 := run_string_of (src := 41) Tryz.underlying41 Tryz.underlying5 Tryz.underlying9 (HRD.out.below hb1)
        rw [HT.out] at hconv2
        clear hw hb1 hconv
        go_wp2_with fail
        go_ret2
        exact ⟨by rw [HN.out, ← HT.out]; rfl, HB.out⟩
      · have HN : Hid (R = none) := by unfold Hid; rw [HR.out, HUE.out]; simp [textC, hw]
        have hwb : (wordL acc == s.toList) = false := by rw [toList_eq]; simp [hw]
        clear hw hb1
        go_wp2_with fail
        go_ret2
        exact ⟨by rw [HN.out]; rfl, HB.out⟩
end Go.Proofs.YtcbdmaelgedbkaaGreatDoor
