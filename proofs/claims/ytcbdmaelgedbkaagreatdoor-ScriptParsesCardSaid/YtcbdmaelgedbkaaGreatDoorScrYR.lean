/- The walk of script.lines, over what each line is read by. -/
import Derived.Test.YtcbdmaelgedbkaaGreatDoorScrY
namespace Go.Proofs.YtcbdmaelgedbkaaGreatDoor
open Go.RowKit Go.Shelf

set_option maxRecDepth 100000 in
set_option maxHeartbeats 4000000 in
theorem lines_read {α : Type} (each : List UInt8 → Option α) (J : List α → World → Prop) (cap : Addr) (w0 : World) (B : Nat) (s : ByteArray) (w : World) (hs : s.size ≤ 1000000) (hcount : s.size ≤ 4000 ∨ s.data.toList.count 10 ≤ 900) (hline : ∀ u x v, s.data.toList = u ++ (x ++ v) → (10 : UInt8) ∉ x → x.length ≤ 4000)
    (h4 : ∀ x a, each x = some a → 4 ≤ x.length) (hB : ∀ pre W, J pre W → Below B w0 W ∧ Env W) (hBw : B ≤ w0.heap.size) (hJd : ∀ pre W n, J pre W → J pre (W.drewN n))
    (hE : ∀ pre (l : ByteArray) W, l.size ≤ 4000 → pre.length ≤ 1000 → J pre W → Calls Tryz.prog 18 #[.string l, .pointer (some cap)] W (EachP J w0 B pre (each l.data.toList)))
    (h0 : J [] w) :
    Calls Tryz.prog 17 #[.string s, .func (.func 18) #[] #[.pointer (some cap)]] w (LinesP J (linesR each (s.size + 1) 1 s.data.toList) w0 B) := by
  obtain ⟨R, hR⟩ : ∃ R, linesR each (s.size + 1) 1 s.data.toList = R := ⟨_, rfl⟩
  rw [hR]
  have HCT := Lib.hid hcount; have HLI := Lib.hid hline; clear hcount hline
  have HR := Lib.hid hR; have HE := Lib.hid hE; have H4 := Lib.hid h4; have HB := Lib.hid hB; have HJ0 := Lib.hid h0; have HJd := Lib.hid hJd
  clear hR hE h4 hB h0 hJd
  go_enter Tryz.func17, Tryz.ntmps17
  go_wp2_with fail
  go_loopw [0, 5] (fun sv nv wr => ∃ (t : ByteArray) (k f : Nat) (pre : List α), sv = .string t ∧ nv = .int .i64 k ∧ t.size < f ∧ 1 ≤ k ∧ 5 * (k - 1) + t.size ≤ s.size ∧ Hid (k - 1 + t.data.toList.count 10 = s.data.toList.count 10) ∧ Hid (∃ u, s.data.toList = u ++ t.data.toList) ∧ pre.length + 1 = k ∧ Hid (J pre wr) ∧ Hid (R = (pre ++ (linesR each f k t.data.toList).1, (linesR each f k t.data.toList).2))) (fun sv _ _ => match sv with | .string t => t.size | _ => 0)
  case atStart => exact ⟨s, 1, s.size + 1, [], rfl, rfl, by omega, Nat.le_refl _, by omega, by unfold Hid; omega, ⟨[], rfl⟩, rfl, HJ0, by unfold Hid; rw [HR.out]; rfl⟩
  case round =>
    obtain ⟨t, k, f, pre, rfl, rfl, hf, hk, hb, hct, hsuf, hpre, hJ, hRR⟩ := hrel
    have hk1000 : k ≤ 1000 := by
      have := hct.out
      rcases HCT.out with h | h <;> omega
    by_cases ht : t.data.toList = []
    · have htb : (t.toList == []) = true := by rw [toList_eq]; simp [ht]
      have HRN : Hid (R = (pre, none)) := by unfold Hid; rw [hRR.out, ht, linesR_nil each f k (by omega)]; simp
      clear ht hRR
      go_wp2_with fail
      go_ret
      exact ⟨fun _ => ⟨rfl, by rw [HRN.out]; exact hJ.out⟩, fun n hn => (by rw [HRN.out] at hn; cases hn)⟩
    · have htb : (t.toList == []) = false := by rw [toList_eq]; simpa using ht
      obtain ⟨m, hm⟩ := (HB.out pre wr hJ.out).2.maxLen
      obtain ⟨f', hf'⟩ : ∃ g, f = g + 1 := ⟨f - 1, by omega⟩
      have HT := Lib.hid ht; have HF' := Lib.hid hf'
      clear ht hf'
      go_wp2_with fail
      refine (Tryz.strings_Cut t ⟨#[10]⟩ m wr (by omega) hm).mono ?_
      rintro e w2 ⟨rfl, n2, rfl⟩
      clear hm
      have hJ2 : Hid (J pre (wr.drewN n2)) := HJd.out pre wr n2 hJ.out
      have hkk : (k : Int) ≤ 1000 := by omega
      rcases cut_parts t.data.toList 10 with ⟨e1, e2⟩ | ⟨x, r, e1, e2, e3⟩
      · have hRN : Hid (R = (pre, some k)) := by
          unfold Hid; rw [hRR.out, HF'.out, linesR_cut e2 HT.out]; simp
        rw [show Lib.cut t.data.toList (⟨#[10]⟩ : ByteArray).data.toList = (t.data.toList, [], false) from e1]
        have htl : (⟨t.data.toList.toArray⟩ : ByteArray).size ≤ 4000 := by
          obtain ⟨u, hu⟩ := hsuf.out
          have := HLI.out u t.data.toList [] (by rw [List.append_nil]; exact hu) e2
          rw [ba_eta, Lib.size_eq]; exact this
        have htl2 : t.size ≤ 4000 := by rw [ba_eta] at htl; exact htl
        have htl3 : t.data.toList.length ≤ 4000 := by rw [← Lib.size_eq]; exact htl2
        clear e1 e2 hRR hJ
        go_wp2_with fail
        go_ret
        refine ⟨fun hn => (by rw [hRN.out] at hn; cases hn), fun n hn => ?_⟩
        rw [hRN.out] at hn
        obtain rfl := Option.some.inj hn
        exact ⟨_, rfl, heap_alloc_new _ _, (HB.out _ _ hJ2.out).1.alloc (by have := (HB.out _ _ hJ2.out).1.size; omega) _⟩
      · have hxl : x.length ≤ 4000 ∧ x.length + 1 + r.length = t.size := by
          have := congrArg List.length e2
          rw [← Lib.size_eq] at this
          refine ⟨?_, by simp at this; omega⟩
          obtain ⟨u, hu⟩ := hsuf.out
          exact HLI.out u x (10 :: r) (by rw [hu, e2]) e3
        have hct2 : Hid (k + 1 - 1 + r.count 10 = s.data.toList.count 10) := by
          unfold Hid
          have h1 := hct.out
          rw [e2, List.count_append, List.count_eq_zero.2 e3, List.count_cons_self] at h1
          omega
        have hsuf2 : Hid (∃ u, s.data.toList = u ++ r) := by
          obtain ⟨u, hu⟩ := hsuf.out
          exact ⟨u ++ x ++ [10], by rw [hu, e2]; simp⟩
        obtain ⟨hx1, hx2⟩ := hxl
        rw [show Lib.cut t.data.toList (⟨#[10]⟩ : ByteArray).data.toList = (x, r, true) from e1]
        obtain ⟨X, hX⟩ : ∃ X : ByteArray, (⟨x.toArray⟩ : ByteArray) = X := ⟨_, rfl⟩
        obtain ⟨Y, hY⟩ : ∃ X : ByteArray, (⟨r.toArray⟩ : ByteArray) = X := ⟨_, rfl⟩
        simp only [hX, hY]
        have hXs : X.size = x.length := by rw [← hX]; simp [ByteArray.size]
        have hYs : Y.size = r.length := by rw [← hY]; simp [ByteArray.size]
        have hXd : X.data.toList = x := by rw [← hX]
        have hYd : Y.data.toList = r := by rw [← hY]
        have hXl : X.size ≤ 4000 := by omega
        have hYl : X.size + 1 + Y.size = t.size := by omega
        have hpl : pre.length ≤ 1000 := by omega
        have hcall := HE.out pre X (wr.drewN n2) hXl hpl hJ2.out
        rw [hXd] at hcall
        have HC := Lib.hid hcall
        have HE2 : Hid (t.data.toList = x ++ 10 :: r) := e2
        have HE3 : Hid ((10 : UInt8) ∉ x) := e3
        rw [← hYd] at hct2 hsuf2
        have HYd := Lib.hid hYd
        have HYL := Lib.hid hYl
        have HX1 := Lib.hid hXs
        clear e1 e2 e3 hX hY hXs hYs hXd hYd hcall hYl hJ
        go_wp2_with fail
        refine HC.out.mono ?_
        rintro e w3 ⟨hn, hsm⟩
        clear HC
        cases ha : each x with
        | none =>
          obtain ⟨rfl, hb3⟩ := hn ha
          have hRN : Hid (R = (pre, some k)) := by
            unfold Hid; rw [hRR.out, HF'.out, HE2.out, linesR_bad HE3.out ha]; simp
          have HB3 := Lib.hid hb3
          clear ha hn hsm hRR hb3
          simp only [argV]
          go_wp2_with fail
          go_ret
          refine ⟨fun hn => (by rw [hRN.out] at hn; cases hn), fun n hn => ?_⟩
          rw [hRN.out] at hn
          obtain rfl := Option.some.inj hn
          exact ⟨_, rfl, heap_alloc_new _ _, HB3.out.alloc (by have := HB3.out.size; omega) _⟩
        | some a =>
          obtain ⟨rfl, hJ3⟩ := hsm a ha
          have h4 := H4.out x a ha
          have hRN : Hid (R = (pre ++ [a] ++ (linesR each f' (k + 1) Y.data.toList).1, (linesR each f' (k + 1) Y.data.toList).2)) := by
            unfold Hid; rw [hRR.out, HF'.out, HE2.out, linesR_step HE3.out ha, HYd.out]; simp
          have HJ3 := Lib.hid hJ3
          clear ha hn hsm hRR hJ3 hJ2
          go_wp2_with fail
          go_roundw
          case rel => exact ⟨Y, k + 1, f', pre ++ [a], rfl, by go_num, by have := HYL.out; have := HF'.out; omega, by omega, by have := HYL.out; have := HX1.out; omega, hct2, hsuf2, by simp; omega, HJ3, hRN⟩
          case measure => have := HYL.out; simp only; omega
end Go.Proofs.YtcbdmaelgedbkaaGreatDoor
