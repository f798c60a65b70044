/- The walk of script.set. -/
import Derived.Test.YtcbdmaelgedbkaaGreatDoorScrPA
import Derived.Lib.ConvBytes
namespace Go.Proofs.YtcbdmaelgedbkaaGreatDoor
open Go.RowKit Go.Shelf

/-- A slice that is read, of octets or of ints. -/
def SlAt {α : Type} (enc : α → Value) (w : World) (A : Option Addr) (n c : Nat) (xs : List α) : Prop :=
  RdS enc w (.slice A n c) xs ∧ ∀ b o, A = some ⟨b, o, none⟩ → ∃ cs t fz, w.heap[b]? = some (.cells cs t fz) ∧ (t = 5 ∨ t = 3)
theorem SlAt.nil {α : Type} {enc : α → Value} (w : World) : SlAt enc w none 0 0 [] := ⟨.inl ⟨rfl, rfl⟩, fun b o h => (by cases h)⟩
theorem SlAt.grown {α : Type} {enc : α → Value} {w w' : World} {A : Option Addr} {n c : Nat} {xs : List α} (h : SlAt enc w A n c xs) {row : Option Nat} (hg : w.grownBy w' row) (hr : ∀ q, row = some q → ∃ cs t fz, w.heap[q]? = some (.cells cs t fz) ∧ t ≠ 5 ∧ t ≠ 3) : SlAt enc w' A n c xs := by
  obtain ⟨h1, h2⟩ := h
  have hk : ∀ b o, A = some ⟨b, o, none⟩ → b < w.heap.size ∧ w'.heap[b]? = w.heap[b]? := fun b o e => by
    obtain ⟨cs, t, fz, h3, h4⟩ := h2 b o e
    refine ⟨heap_lt h3, hg.block b (heap_lt h3) (fun e2 => ?_)⟩
    obtain ⟨cs', t', fz', h5, h6, h7⟩ := hr b e2.symm
    rw [h3] at h5; cases h5
    rcases h4 with h4 | h4
    · exact h6 h4
    · exact h7 h4
  refine ⟨?_, fun b o e => by rw [(hk b o e).2]; exact h2 b o e⟩
  rcases h1 with h1 | h1 | ⟨b, o, c', e1, e2, e3, e4⟩
  · exact .inl h1
  · exact .inr (.inl h1)
  · simp only [Value.slice.injEq] at e1
    obtain ⟨rfl, rfl, rfl⟩ := e1
    refine .inr (.inr ⟨b, o, c, rfl, Nat.lt_of_lt_of_le e2 hg.size, e3, fun j x hj => ?_⟩)
    exact (World.cell?_of_block (a := ⟨b, o + j, none⟩) (hk b o rfl).2).trans (e4 j x hj)
theorem SlAt.below {α : Type} {enc : α → Value} {w w' : World} {A : Option Addr} {n c : Nat} {xs : List α} (h : SlAt enc w A n c xs) (hb : Below w.heap.size w w') : SlAt enc w' A n c xs := h.grown (grown_below hb none) (fun q e => (by cases e))

/-- The block of a deed. -/
def DeedBox (w : World) (db : Nat) (p : RDeed) : Prop := ∃ A n c A' n' c', w.heap[db]? = some (.cells #[.int .i64 p.kind, .int .i64 p.n, .int .i64 p.m, .int .i64 p.k, .string p.path, .string p.as_, .slice A n c, .slice A' n' c'] 44 (0, 0)) ∧ SlAt encB w A n c p.b ∧ SlAt encI w A' n' c' p.keep
theorem DeedBox.below {w w' : World} {db : Nat} {p : RDeed} (h : DeedBox w db p) (hb : Below w.heap.size w w') : DeedBox w' db p := by
  obtain ⟨A, n, c, A', n', c', h1, h2, h3⟩ := h
  exact ⟨A, n, c, A', n', c', (hb.block _ (heap_lt h1)).trans h1, h2.below hb, h3.below hb⟩
def setR (p : RDeed) (c : Int) (w : List UInt8) : Option RDeed :=
  if c = 80 then (textR w).map fun t => { p with path := ⟨t.toArray⟩ } else if c = 65 then (textR w).map fun t => { p with as_ := ⟨t.toArray⟩ } else if c = 66 then (textR w).map fun t => { p with b := t }
  else if c = 76 then (numbersR w).map fun l => { p with keep := l } else if c = 78 then (numR w).map fun v => { p with n := v } else if c = 77 then (numR w).map fun v => { p with m := v } else (numR w).map fun v => { p with k := v }
def SetP (db : Nat) (o : Option RDeed) (w : World) (e : Ending) (w' : World) : Prop :=
  (o = none → e = .returned argV) ∧ (∀ p, o = some p → e = .returned .nilIface ∧ DeedBox w' db p) ∧ w.grownBy w' (some db)
theorem deed_cells {w : World} {b : Nat} {v0 v1 v2 v3 v4 v5 v6 v7 : Value} {t : TypeId} (h : w.heap[b]? = some (.cells #[v0, v1, v2, v3, v4, v5, v6, v7] t (0, 0))) :
    (w.cell? ⟨b, 0, none⟩ = some v0 ∧ w.cell? ⟨b, 1, none⟩ = some v1 ∧ w.cell? ⟨b, 2, none⟩ = some v2 ∧ w.cell? ⟨b, 3, none⟩ = some v3 ∧ w.cell? ⟨b, 4, none⟩ = some v4 ∧ w.cell? ⟨b, 5, none⟩ = some v5 ∧ w.cell? ⟨b, 6, none⟩ = some v6 ∧ w.cell? ⟨b, 7, none⟩ = some v7) ∧ ∀ i, w.frozen? ⟨b, i, none⟩ = false := by
  refine ⟨by simp [World.cell?, h], fun i => frozen_box h i⟩
theorem set_slat {α : Type} {enc : α → Value} {w : World} {A : Option Addr} {n c : Nat} {xs : List α} (h : SlAt enc w A n c xs) {db : Nat} {cs : Array Value} (hb : w.heap[db]? = some (.cells cs 44 (0, 0))) (j : Nat) (u : Value) : SlAt enc (w.setCell ⟨db, j, none⟩ u) A n c xs :=
  h.grown (grown_set w db j u) (fun q e => by cases e; exact ⟨_, _, _, hb, by decide, by decide⟩)
theorem grown_chain {a b c : World} {db : Nat} (h1 : Below a.heap.size a b) (h2 : b.grownBy c (some db)) : a.grownBy c (some db) :=
  World.grownBy.trans (grown_below h1 (some db)) h2

theorem bytes_slat (w : World) (X : ByteArray) (t : List UInt8) (h : X.data.toList = t) : SlAt encB (Lib.bytesWorld w 5 X) (some ⟨w.heap.size, 0, none⟩) X.size (grownCap w X.size 0 5) t := by
  have hsz : X.size = t.length := by rw [Lib.size_eq, h]
  refine ⟨.inr (.inr ⟨w.heap.size, 0, _, by rw [hsz], by rw [Lib.bytesWorld_size]; omega, ?_, fun j x hj => ?_⟩), fun b o e => ?_⟩
  · rw [← hsz]; exact grownCap_ge _ _ _ _
  · have hjl := (List.getElem?_eq_some_iff.1 hj).1
    rw [Nat.zero_add, Lib.bytesWorld_cell _ _ _ _ (by omega), h]
    simp [encB, List.getD, hj]
  · simp only [Option.some.injEq, Addr.mk.injEq] at e
    obtain ⟨rfl, -, -⟩ := e
    exact ⟨_, _, _, Lib.bytesWorld_at_new _ _ _, .inl rfl⟩
set_option maxRecDepth 100000 in
set_option maxHeartbeats 8000000 in
theorem set_any (db : Nat) (p : RDeed) (c : Int) (s : ByteArray) (w : World) (hs : s.size ≤ 100000) (hd : DeedBox w db p) (he : EnvT w) :
    Calls Tryz.prog 43 #[.pointer (some ⟨db, 0, none⟩), .int .i32 c, .string s] w (SetP db (setR p c s.data.toList) w) := by
  obtain ⟨R, hR⟩ : ∃ R, setR p c s.data.toList = R := ⟨_, rfl⟩
  rw [hR]
  have HR := Lib.hid hR; have HD := Lib.hid hd; have HE := Lib.hid he
  have hs6 : s.size ≤ 1000000 := by omega
  clear hR hd he
  by_cases c0 : c = 80
  · have c0' : (c == 80) = true := by simp [c0]
    have HP : Hid (R = (textR s.data.toList).map fun t => { p with path := ⟨t.toArray⟩ }) := by unfold Hid; rw [← HR.out]; unfold setR; rw [if_pos c0]
    clear c0
    go_enter Tryz.func43, Tryz.ntmps43
    go_wp2_with fail
    refine (text_any s _ hs6).mono ?_
    rintro e w1 ⟨rfl, hb1⟩
    obtain ⟨A, n, cc, A', n', cc', h1, h2, h3⟩ := HD.out.below hb1
    obtain ⟨⟨q0, q1, q2, q3, q4, q5, q6, q7⟩, fz⟩ := deed_cells h1
    have fz := fz 4
    have H1 := Lib.hid h1; have H2 := Lib.hid h2; have H3 := Lib.hid h3; have HB1 := Lib.hid hb1
    clear h1 h2 h3 hb1 q0 q1 q2 q3 q5 q6 q7
    cases hv : textR s.data.toList with
    | none =>
      have hRR : Hid (R = none) := by unfold Hid; rw [HP.out, hv]; rfl
      clear hv
      simp only [textV, argV]
      go_wp2_with fail
      go_ret
      exact ⟨fun _ => rfl, fun p' h => (by rw [hRR.out] at h; cases h), grown_chain HB1.out (grown_set _ _ _ _)⟩
    | some t =>
      have hRR : Hid (R = some { p with path := ⟨t.toArray⟩ }) := by unfold Hid; rw [HP.out, hv]; rfl
      clear hv
      simp only [textV, argV]
      go_wp2_with fail
      go_ret
      refine ⟨fun h => (by rw [hRR.out] at h; cases h), fun p' h => ⟨rfl, ?_⟩, grown_chain HB1.out (grown_set _ _ _ _)⟩
      rw [hRR.out] at h
      obtain rfl := Option.some.inj h
      exact ⟨_, _, _, _, _, _, by have := set_box H1.out 4 (.string ⟨t.toArray⟩); simpa using this, set_slat H2.out H1.out _ _, set_slat H3.out H1.out _ _⟩
  have c0' : (c == 80) = false := by simp [c0]
  by_cases c1 : c = 65
  · have c1' : (c == 65) = true := by simp [c1]
    have HP : Hid (R = (textR s.data.toList).map fun t => { p with as_ := ⟨t.toArray⟩ }) := by unfold Hid; rw [← HR.out]; unfold setR; rw [if_neg c0, if_pos c1]
    clear c0 c1
    go_enter Tryz.func43, Tryz.ntmps43
    go_wp2_with fail
    refine (text_any s _ hs6).mono ?_
    rintro e w1 ⟨rfl, hb1⟩
    obtain ⟨A, n, cc, A', n', cc', h1, h2, h3⟩ := HD.out.below hb1
    obtain ⟨⟨q0, q1, q2, q3, q4, q5, q6, q7⟩, fz⟩ := deed_cells h1
    have fz := fz 5
    have H1 := Lib.hid h1; have H2 := Lib.hid h2; have H3 := Lib.hid h3; have HB1 := Lib.hid hb1
    clear h1 h2 h3 hb1 q0 q1 q2 q3 q4 q6 q7
    cases hv : textR s.data.toList with
    | none =>
      have hRR : Hid (R = none) := by unfold Hid; rw [HP.out, hv]; rfl
      clear hv
      simp only [textV, argV]
      go_wp2_with fail
      go_ret
      exact ⟨fun _ => rfl, fun p' h => (by rw [hRR.out] at h; cases h), grown_chain HB1.out (grown_set _ _ _ _)⟩
    | some t =>
      have hRR : Hid (R = some { p with as_ := ⟨t.toArray⟩ }) := by unfold Hid; rw [HP.out, hv]; rfl
      clear hv
      simp only [textV, argV]
      go_wp2_with fail
      go_ret
      refine ⟨fun h => (by rw [hRR.out] at h; cases h), fun p' h => ⟨rfl, ?_⟩, grown_chain HB1.out (grown_set _ _ _ _)⟩
      rw [hRR.out] at h
      obtain rfl := Option.some.inj h
      exact ⟨_, _, _, _, _, _, by have := set_box H1.out 5 (.string ⟨t.toArray⟩); simpa using this, set_slat H2.out H1.out _ _, set_slat H3.out H1.out _ _⟩
  have c1' : (c == 65) = false := by simp [c1]
  by_cases c2 : c = 66
  · have c2' : (c == 66) = true := by simp [c2]
    have HP : Hid (R = (textR s.data.toList).map fun t => { p with b := t }) := by unfold Hid; rw [← HR.out]; unfold setR; rw [if_neg c0, if_neg c1, if_pos c2]
    clear c0 c1 c2
    have hcv := fun (W : World) (x : ByteArray) => Lib.run_convert_string_bytes (P := Tryz.prog) W 9 41 5 x Tryz.underlying9 Tryz.underlying41 Tryz.underlying5
    go_enter Tryz.func43, Tryz.ntmps43
    go_wp2_with fail
    refine (text_any s _ hs6).mono ?_
    rintro e w1 ⟨rfl, hb1⟩
    cases hv : textR s.data.toList with
    | none =>
      have hRR : Hid (R = none) := by unfold Hid; rw [HP.out, hv]; rfl
      clear hv
      simp only [textV, argV]
      obtain ⟨X, hX⟩ : ∃ X : ByteArray, (⟨#[]⟩ : ByteArray) = X := ⟨_, rfl⟩
      simp only [hX]
      have hbw : Below w1.heap.size w1 (Lib.bytesWorld w1 5 X) := Lib.bytesWorld_below _ _ _
      obtain ⟨A, n, cc, A', n', cc', h1, h2, h3⟩ := (HD.out.below hb1).below hbw
      obtain ⟨⟨q0, q1, q2, q3, q4, q5, q6, q7⟩, fz⟩ := deed_cells h1
      have fz := fz 6
      have H1 := Lib.hid h1; have H2 := Lib.hid h2; have H3 := Lib.hid h3; have HBW := Lib.hid (hb1.trans (hbw.mono hb1.size))
      have HXX := Lib.hid hX
      clear h1 h2 h3 q0 q1 q2 q3 q4 q5 q7 hbw hX
      go_wp2_with fail
      go_ret
      exact ⟨fun _ => rfl, fun p' h => (by rw [hRR.out] at h; cases h), grown_chain HBW.out (grown_set _ _ _ _)⟩
    | some t =>
      have hRR : Hid (R = some { p with b := t }) := by unfold Hid; rw [HP.out, hv]; rfl
      clear hv
      simp only [textV, argV]
      obtain ⟨X, hX⟩ : ∃ X : ByteArray, (⟨t.toArray⟩ : ByteArray) = X := ⟨_, rfl⟩
      simp only [hX]
      have hbw : Below w1.heap.size w1 (Lib.bytesWorld w1 5 X) := Lib.bytesWorld_below _ _ _
      obtain ⟨A, n, cc, A', n', cc', h1, h2, h3⟩ := (HD.out.below hb1).below hbw
      obtain ⟨⟨q0, q1, q2, q3, q4, q5, q6, q7⟩, fz⟩ := deed_cells h1
      have fz := fz 6
      have H1 := Lib.hid h1; have H2 := Lib.hid h2; have H3 := Lib.hid h3; have HBW := Lib.hid (hb1.trans (hbw.mono hb1.size))
      have HXX := Lib.hid hX
      clear h1 h2 h3 q0 q1 q2 q3 q4 q5 q7 hbw hX
      go_wp2_with fail
      go_ret
      refine ⟨fun h => (by rw [hRR.out] at h; cases h), fun p' h => ⟨rfl, ?_⟩, grown_chain HBW.out (grown_set _ _ _ _)⟩
      rw [hRR.out] at h
      obtain rfl := Option.some.inj h
      have hsl : SlAt encB (Lib.bytesWorld w1 5 X) (some ⟨w1.heap.size, 0, none⟩) X.size (grownCap w1 X.size 0 5) t := bytes_slat w1 X t (by rw [← HXX.out])
      exact ⟨_, _, _, _, _, _, by have := set_box H1.out 6 (.slice (some ⟨w1.heap.size, 0, none⟩) X.size (grownCap w1 X.size 0 5)); simpa using this, set_slat hsl H1.out _ _, set_slat H3.out H1.out _ _⟩
  have c2' : (c == 66) = false := by simp [c2]
  by_cases c3 : c = 76
  · have c3' : (c == 76) = true := by simp [c3]
    have HP : Hid (R = (numbersR s.data.toList).map fun l => { p with keep := l }) := by unfold Hid; rw [← HR.out]; unfold setR; rw [if_neg c0, if_neg c1, if_neg c2, if_pos c3]
    clear c0 c1 c2 c3
    go_enter Tryz.func43, Tryz.ntmps43
    go_wp2_with fail
    refine (numbers_any s _ hs HE.out).mono ?_
    rintro e w1 ⟨hn1, hn2, hb1⟩
    obtain ⟨A, n, cc, A', n', cc', h1, h2, h3⟩ := HD.out.below hb1
    obtain ⟨⟨q0, q1, q2, q3, q4, q5, q6, q7⟩, fz⟩ := deed_cells h1
    have fz := fz 7
    have H1 := Lib.hid h1; have H2 := Lib.hid h2; have H3 := Lib.hid h3; have HB1 := Lib.hid hb1
    clear h1 h2 h3 hb1 q0 q1 q2 q3 q4 q5 q6
    cases hv : numbersR s.data.toList with
    | none =>
      have hRR : Hid (R = none) := by unfold Hid; rw [HP.out, hv]; rfl
      obtain rfl := hn1 hv
      clear hn1 hn2 hv
      try unfold argV
      go_wp2_with fail
      go_ret
      exact ⟨fun _ => rfl, fun p' h => (by rw [hRR.out] at h; cases h), grown_chain HB1.out (grown_set _ _ _ _)⟩
    | some t =>
      have hRR : Hid (R = some { p with keep := t }) := by unfold Hid; rw [HP.out, hv]; rfl
      obtain ⟨A2, c2, rfl, hrd, hbk⟩ := hn2 t hv
      have HRD := Lib.hid hrd; have HBK := Lib.hid hbk; clear hrd hbk
      clear hn1 hn2 hv
      try unfold argV
      go_wp2_with fail
      go_ret
      refine ⟨fun h => (by rw [hRR.out] at h; cases h), fun p' h => ⟨rfl, ?_⟩, grown_chain HB1.out (grown_set _ _ _ _)⟩
      rw [hRR.out] at h
      obtain rfl := Option.some.inj h
      have hsl : SlAt encI w1 A2 t.length c2 t := ⟨HRD.out, fun b o e => (by obtain ⟨-, cs, h⟩ := HBK.out b o e; exact ⟨cs, _, _, h, .inr rfl⟩)⟩
      exact ⟨_, _, _, _, _, _, by have := set_box H1.out 7 (.slice A2 t.length c2); simpa using this, set_slat H2.out H1.out _ _, set_slat hsl H1.out _ _⟩
  have c3' : (c == 76) = false := by simp [c3]
  by_cases c4 : c = 78
  · have c4' : (c == 78) = true := by simp [c4]
    have HP : Hid (R = (numR s.data.toList).map fun v => { p with n := v }) := by unfold Hid; rw [← HR.out]; unfold setR; rw [if_neg c0, if_neg c1, if_neg c2, if_neg c3, if_pos c4]
    clear c0 c1 c2 c3 c4
    go_enter Tryz.func43, Tryz.ntmps43
    go_wp2_with fail
    refine (number_any s _ hs6 HE.out).mono ?_
    rintro e w1 ⟨rfl, hb1⟩
    obtain ⟨A, n, cc, A', n', cc', h1, h2, h3⟩ := HD.out.below hb1
    obtain ⟨⟨q0, q1, q2, q3, q4, q5, q6, q7⟩, fz⟩ := deed_cells h1
    have fz := fz 1
    have H1 := Lib.hid h1; have H2 := Lib.hid h2; have H3 := Lib.hid h3; have HB1 := Lib.hid hb1
    clear h1 h2 h3 hb1 q0 q2 q3 q4 q5 q6 q7
    cases hv : numR s.data.toList with
    | none =>
      have hRR : Hid (R = none) := by unfold Hid; rw [HP.out, hv]; rfl
      clear hv
      simp only [numV, argV]
      go_wp2_with fail
      go_ret
      exact ⟨fun _ => rfl, fun p' h => (by rw [hRR.out] at h; cases h), grown_chain HB1.out (grown_set _ _ _ _)⟩
    | some t =>
      have hRR : Hid (R = some { p with n := t }) := by unfold Hid; rw [HP.out, hv]; rfl
      clear hv
      simp only [numV, argV]
      go_wp2_with fail
      go_ret
      refine ⟨fun h => (by rw [hRR.out] at h; cases h), fun p' h => ⟨rfl, ?_⟩, grown_chain HB1.out (grown_set _ _ _ _)⟩
      rw [hRR.out] at h
      obtain rfl := Option.some.inj h
      exact ⟨_, _, _, _, _, _, by have := set_box H1.out 1 (.int .i64 t); simpa using this, set_slat H2.out H1.out _ _, set_slat H3.out H1.out _ _⟩
  have c4' : (c == 78) = false := by simp [c4]
  by_cases c5 : c = 77
  · have c5' : (c == 77) = true := by simp [c5]
    have HP : Hid (R = (numR s.data.toList).map fun v => { p with m := v }) := by unfold Hid; rw [← HR.out]; unfold setR; rw [if_neg c0, if_neg c1, if_neg c2, if_neg c3, if_neg c4, if_pos c5]
    clear c0 c1 c2 c3 c4 c5
    go_enter Tryz.func43, Tryz.ntmps43
    go_wp2_with fail
    refine (number_any s _ hs6 HE.out).mono ?_
    rintro e w1 ⟨rfl, hb1⟩
    obtain ⟨A, n, cc, A', n', cc', h1, h2, h3⟩ := HD.out.below hb1
    obtain ⟨⟨q0, q1, q2, q3, q4, q5, q6, q7⟩, fz⟩ := deed_cells h1
    have fz := fz 2
    have H1 := Lib.hid h1; have H2 := Lib.hid h2; have H3 := Lib.hid h3; have HB1 := Lib.hid hb1
    clear h1 h2 h3 hb1 q0 q1 q3 q4 q5 q6 q7
    cases hv : numR s.data.toList with
    | none =>
      have hRR : Hid (R = none) := by unfold Hid; rw [HP.out, hv]; rfl
      clear hv
      simp only [numV, argV]
      go_wp2_with fail
      go_ret
      exact ⟨fun _ => rfl, fun p' h => (by rw [hRR.out] at h; cases h), grown_chain HB1.out (grown_set _ _ _ _)⟩
    | some t =>
      have hRR : Hid (R = some { p with m := t }) := by unfold Hid; rw [HP.out, hv]; rfl
      clear hv
      simp only [numV, argV]
      go_wp2_with fail
      go_ret
      refine ⟨fun h => (by rw [hRR.out] at h; cases h), fun p' h => ⟨rfl, ?_⟩, grown_chain HB1.out (grown_set _ _ _ _)⟩
      rw [hRR.out] at h
      obtain rfl := Option.some.inj h
      exact ⟨_, _, _, _, _, _, by have := set_box H1.out 2 (.int .i64 t); simpa using this, set_slat H2.out H1.out _ _, set_slat H3.out H1.out _ _⟩
  have c5' : (c == 77) = false := by simp [c5]
  have HP : Hid (R = (numR s.data.toList).map fun v => { p with k := v }) := by unfold Hid; rw [← HR.out]; unfold setR; rw [if_neg c0, if_neg c1, if_neg c2, if_neg c3, if_neg c4, if_neg c5]
  clear c0 c1 c2 c3 c4 c5
  go_enter Tryz.func43, Tryz.ntmps43
  go_wp2_with fail
  refine (number_any s _ hs6 HE.out).mono ?_
  rintro e w1 ⟨rfl, hb1⟩
  obtain ⟨A, n, cc, A', n', cc', h1, h2, h3⟩ := HD.out.below hb1
  obtain ⟨⟨q0, q1, q2, q3, q4, q5, q6, q7⟩, fz⟩ := deed_cells h1
  have fz := fz 3
  have H1 := Lib.hid h1; have H2 := Lib.hid h2; have H3 := Lib.hid h3; have HB1 := Lib.hid hb1
  clear h1 h2 h3 hb1 q0 q1 q2 q4 q5 q6 q7
  cases hv : numR s.data.toList with
  | none =>
    have hRR : Hid (R = none) := by unfold Hid; rw [HP.out, hv]; rfl
    clear hv
    simp only [numV, argV]
    go_wp2_with fail
    go_ret
    exact ⟨fun _ => rfl, fun p' h => (by rw [hRR.out] at h; cases h), grown_chain HB1.out (grown_set _ _ _ _)⟩
  | some t =>
    have hRR : Hid (R = some { p with k := t }) := by unfold Hid; rw [HP.out, hv]; rfl
    clear hv
    simp only [numV, argV]
    go_wp2_with fail
    go_ret
    refine ⟨fun h => (by rw [hRR.out] at h; cases h), fun p' h => ⟨rfl, ?_⟩, grown_chain HB1.out (grown_set _ _ _ _)⟩
    rw [hRR.out] at h
    obtain rfl := Option.some.inj h
    exact ⟨_, _, _, _, _, _, by have := set_box H1.out 3 (.int .i64 t); simpa using this, set_slat H2.out H1.out _ _, set_slat H3.out H1.out _ _⟩
end Go.Proofs.YtcbdmaelgedbkaaGreatDoor
