/- The plain law of ScriptTells: outcomes' lines are read as what they tell; what is read, told, is the text. -/
import Derived.Test.YtcbdmaelgedbkaaGreatDoorScrTF
import Derived.Test.YtcbdmaelgedbkaaGreatDoorScrP
namespace Go.Proofs.YtcbdmaelgedbkaaGreatDoor

theorem wordL_gt (l : List UInt8) : ∀ c ∈ wordL l, 32 < c.toNat := by
  unfold wordL
  split
  · intro c hc; obtain rfl := List.mem_singleton.1 hc; decide
  · intro c h
    obtain ⟨d, hd, h⟩ := List.mem_flatMap.1 h
    rcases wordC_cases d with ⟨e, a1, a2, a3⟩ | e <;> rw [e] at h
    · obtain rfl := List.mem_singleton.1 h
      exact a1
    · have hd := d.toNat_lt
      have p1 := hexd_toNat (n := d.toNat / 16) (by omega)
      have p2 := hexd_toNat (n := d.toNat % 16) (by omega)
      simp only [List.mem_cons, List.not_mem_nil, or_false] at h
      rcases h with rfl | rfl | rfl
      · decide
      · rw [p1]; split <;> omega
      · rw [p2]; split <;> omega
theorem itoa_gt (n : Int) : ∀ c ∈ Lib.itoa n, 32 < c.toNat := by
  intro c hc
  rcases itoa_mem n c hc with h | h <;> omega
theorem not_mem_gt {l : List UInt8} (h : ∀ c ∈ l, 32 < c.toNat) {k : UInt8} (hk : k.toNat ≤ 32) : k ∉ l := fun hm => by have := h k hm; omega
theorem unhex_hexd : ∀ a b : Fin 16, unhexR [hexd a.val, hexd b.val] = some (UInt8.ofNat (a.val * 16 + b.val)) := by decide +kernel
theorem unesc_flat : ∀ t : List UInt8, unesc (t.flatMap wordC) = some t
  | [] => by simp [unesc]
  | c :: t => by
    rw [List.flatMap_cons]
    have ih := unesc_flat t
    have hc := c.toNat_lt
    rcases wordC_cases c with ⟨e, a1, a2, a3⟩ | e <;> rw [e]
    · rw [List.singleton_append, unesc_plain (fun h => a3 (by rw [h]; rfl)), ih]; rfl
    · have h2 := unhex_hexd ⟨c.toNat / 16, by omega⟩ ⟨c.toNat % 16, by omega⟩
      simp only at h2
      rw [show c.toNat / 16 * 16 + c.toNat % 16 = c.toNat from by omega] at h2
      simp only [List.cons_append, List.nil_append]
      rw [unesc_hex]
      simp only [List.take_succ_cons, List.take_zero, List.drop_succ_cons, List.drop_zero, h2, ih]
      simp
theorem textR_word (t : List UInt8) : textR (wordL t) = some t := by
  by_cases h : t = []
  · subst h; rfl
  · have hw : wordL t = t.flatMap wordC := by unfold wordL; rw [if_neg h]
    unfold textR
    rw [if_neg (by rw [hw]; exact flat_ne), hw, unesc_flat]
    simp only [textC]
    rw [if_pos hw]
theorem textR_some {l t : List UInt8} (h : textR l = some t) : l = wordL t := by
  unfold textR at h
  split at h
  · rename_i e
    obtain rfl := Option.some.inj h
    rw [e]; rfl
  · unfold textC at h
    split at h
    · split at h
      · rename_i e
        obtain rfl := Option.some.inj h
        exact e.symm
      · cases h
    · cases h
theorem textsR_words : ∀ ns : List (List UInt8), textsR (ns.map wordL) = some ns
  | [] => rfl
  | x :: ns => by
    rw [List.map_cons]; unfold textsR
    rw [textR_word]
    simp only [textsR_words ns]; rfl
theorem textsR_some : ∀ {r ns : List (List UInt8)}, textsR r = some ns → r = ns.map wordL
  | [], ns, h => by obtain rfl := Option.some.inj h; rfl
  | x :: r, ns, h => by
    unfold textsR at h
    split at h
    · rename_i t ht
      simp only [Option.map_eq_some_iff] at h
      obtain ⟨m, hm, rfl⟩ := h
      rw [List.map_cons, ← textR_some ht, ← textsR_some hm]
    · cases h
/-- An outcome is told in words. -/
def toldW (p : POut) : List (List UInt8) := if p.err ≠ 0 then [errorL, Lib.itoa p.err] else okL :: Lib.itoa p.n :: wordL p.text :: Lib.itoa p.names.length :: p.names.map wordL
theorem toldL_join (p : POut) : toldL p = Lib.join (toldW p) [32] := by
  unfold toldL toldW
  split
  · rw [join_two, Lib.join_one]
  · rfl
theorem toldW_ne (p : POut) : toldW p ≠ [] := by unfold toldW; split <;> simp
theorem toldW_gt (p : POut) : ∀ x ∈ toldW p, ∀ c ∈ x, 32 < c.toNat := by
  unfold toldW
  intro x hx
  have he : ∀ c ∈ errorL, 32 < c.toNat := by decide
  have ho : ∀ c ∈ okL, 32 < c.toNat := by decide
  split at hx
  · simp only [List.mem_cons, List.not_mem_nil, or_false] at hx
    rcases hx with rfl | rfl
    · exact he
    · exact itoa_gt _
  · simp only [List.mem_cons] at hx
    rcases hx with rfl | rfl | rfl | rfl | hx
    · exact ho
    · exact itoa_gt _
    · exact wordL_gt _
    · exact itoa_gt _
    · obtain ⟨z, -, rfl⟩ := List.mem_map.1 hx
      exact wordL_gt _
theorem toldL_no10 (p : POut) : (10 : UInt8) ∉ toldL p := by
  rw [toldL_join]
  intro h
  rcases mem_join h with h | ⟨x, hx, h⟩
  · exact absurd h (by decide)
  · have := toldW_gt p x hx 10 h
    exact absurd this (by decide)
theorem spl_told (p : POut) : spl 32 (toldL p) = toldW p := by
  rw [toldL_join, spl_join (toldW_ne p) (fun x hx => not_mem_gt (toldW_gt p x hx) (by decide))]
theorem outcome_told {p : POut} (h0 : 0 ≤ p.err) (h1 : I64 p.err) (h2 : I64 p.n) : ∃ p', outcomeR (toldL p) = some p' ∧ toldL p' = toldL p := by
  unfold outcomeR
  rw [spl_told]
  by_cases h : p.err = 0
  · refine ⟨⟨0, p.n, p.text, p.names⟩, ?_, ?_⟩
    · unfold toldW
      rw [if_neg (by simpa using h)]
      simp only [outW]
      unfold out4
      rw [if_pos rfl, numR_itoa h2, textR_word]
      simp only [List.length_map, if_true, textsR_words]; rfl
    · unfold toldL
      rw [if_neg (by simp), if_neg (by simpa using h)]
  · refine ⟨⟨p.err, 0, [], []⟩, ?_, ?_⟩
    · unfold toldW
      rw [if_pos h]
      simp only [outW]
      unfold out2
      rw [if_pos rfl, numR_itoa h1]
      simp only
      rw [if_pos (by omega)]
    · unfold toldL
      rw [if_pos h, if_pos h]
theorem outcome_neg {p : POut} (h0 : p.err < 0) (h1 : I64 p.err) : outcomeR (toldL p) = none := by
  unfold outcomeR
  rw [spl_told]
  unfold toldW
  rw [if_pos (by omega)]
  simp only [outW]
  unfold out2
  rw [if_pos rfl, numR_itoa h1]
  simp only
  rw [if_neg (by omega)]
theorem outcome_sound {l : List UInt8} {p : POut} (h : outcomeR l = some p) : toldL p = l ∧ (p.err ≠ 0 → p.text = [] ∧ p.names = []) := by
  unfold outcomeR at h
  have hj := join_spl 32 l
  match hs : spl 32 l, h with
  | [], h => cases h
  | [a], h => cases h
  | [a, b], h =>
    simp only [outW, out2] at h
    split at h
    · rename_i ha
      split at h
      · rename_i n hn
        split at h
        · rename_i h1
          obtain rfl := Option.some.inj h
          rw [hs, ha, (numR_some hn).1] at hj
          refine ⟨?_, fun _ => ⟨rfl, rfl⟩⟩
          rw [toldL_join, ← hj]
          unfold toldW
          rw [if_pos (by simp only; omega)]
        · cases h
      · cases h
    · cases h
  | [a, b, c], h => cases h
  | a :: b :: c :: d :: r, h =>
    simp only [outW, out4] at h
    split at h
    · rename_i ha
      split at h
      · rename_i n hn
        split at h
        · rename_i t ht
          split at h
          · rename_i hd
            simp only [Option.map_eq_some_iff] at h
            obtain ⟨ns, hns, rfl⟩ := h
            have hr := textsR_some hns
            refine ⟨?_, fun h => absurd rfl h⟩
            rw [← hj, hs, toldL_join]
            unfold toldW
            rw [if_neg (by simp), ha, (numR_some hn).1, textR_some ht, hd, hr]
            simp
          · cases h
        · cases h
      · cases h
    · cases h
theorem wordL_ge (t : List UInt8) : t.length ≤ (wordL t).length ∧ 1 ≤ (wordL t).length := by
  unfold wordL
  split
  · rename_i h; subst h; simp
  · rename_i h
    have h1 : t.length ≤ (t.flatMap wordC).length := by
      clear h
      induction t with
      | nil => simp
      | cons c t ih =>
        have : 1 ≤ (wordC c).length := by rcases wordC_cases c with ⟨e, -⟩ | e <;> rw [e] <;> simp
        rw [List.flatMap_cons, List.length_append, List.length_cons]; omega
    have := List.length_pos_iff.2 h
    omega
theorem told_bounds {p : POut} {l : List UInt8} (h : outcomeR l = some p) : 4 ≤ l.length ∧ p.text.length ≤ l.length ∧ p.names.length ≤ l.length ∧ ∀ x ∈ p.names, x.length ≤ l.length := by
  obtain ⟨h1, h2⟩ := outcome_sound h
  by_cases h0 : p.err = 0
  · rw [toldL_ok h0] at h1
    have hl : l.length = (headL p).length + (p.names.flatMap fun x => 32 :: wordL x).length := by rw [← h1]; simp
    have hh : 3 + p.text.length ≤ (headL p).length ∧ 6 ≤ (headL p).length := by
      have := wordL_ge p.text
      unfold headL
      simp [okL]; omega
    have hn : p.names.length ≤ (p.names.flatMap fun x => 32 :: wordL x).length ∧ ∀ x ∈ p.names, x.length ≤ (p.names.flatMap fun x => 32 :: wordL x).length := by
      generalize p.names = ns
      induction ns with
      | nil => simp
      | cons y ns ih =>
        have := wordL_ge y
        refine ⟨by simp only [List.flatMap_cons, List.length_append, List.length_cons]; omega, fun x hx => ?_⟩
        simp only [List.flatMap_cons, List.length_append, List.length_cons]
        rcases List.mem_cons.1 hx with rfl | hx
        · omega
        · have := ih.2 x hx; omega
    exact ⟨by omega, by omega, by omega, fun x hx => by have := hn.2 x hx; omega⟩
  · obtain ⟨h3, h4⟩ := h2 h0
    rw [h3, h4]
    rw [toldL_err h0] at h1
    refine ⟨?_, by simp, by simp, by simp⟩
    rw [← h1]; simp [errorL]
theorem tellL_cons (p : POut) (ps : List POut) : tellL (p :: ps) = toldL p ++ 10 :: tellL ps := by simp [tellL]
theorem tell_good : ∀ (ps : List POut) (f n : Nat), (tellL ps).length < f → (∀ p ∈ ps, 0 ≤ p.err ∧ I64 p.err ∧ I64 p.n) → ∃ ps', linesR outcomeR f n (tellL ps) = (ps', none) ∧ ps'.map toldL = ps.map toldL
  | [], f, n, hf, _ => ⟨[], by
      have : tellL [] = [] := rfl
      rw [this, linesR_nil _ _ _ (by omega)], rfl⟩
  | p :: ps, f, n, hf, h => by
    obtain ⟨g, rfl⟩ : ∃ g, f = g + 1 := ⟨f - 1, by omega⟩
    rw [tellL_cons] at hf ⊢
    simp at hf
    obtain ⟨ps', h1, h2⟩ := tell_good ps g (n + 1) (by omega) (fun q hq => h q (List.mem_cons_of_mem _ hq))
    obtain ⟨a1, a2, a3⟩ := h p (by simp)
    obtain ⟨p', h3, h4⟩ := outcome_told a1 a2 a3
    refine ⟨p' :: ps', ?_, by simp [h2, h4]⟩
    rw [linesR_step (toldL_no10 p) h3, h1]
theorem tell_bad : ∀ (ps : List POut) (f n : Nat), (tellL ps).length < f → (∀ p ∈ ps, I64 p.err ∧ I64 p.n) → (∃ p ∈ ps, p.err < 0) → ∃ m, (linesR outcomeR f n (tellL ps)).2 = some m
  | [], f, n, hf, _, h => by obtain ⟨p, hp, -⟩ := h; simp at hp
  | p :: ps, f, n, hf, h, hb => by
    obtain ⟨g, rfl⟩ : ∃ g, f = g + 1 := ⟨f - 1, by omega⟩
    rw [tellL_cons] at hf ⊢
    simp at hf
    obtain ⟨a2, a3⟩ := h p (by simp)
    by_cases h0 : p.err < 0
    · rw [linesR_bad (toldL_no10 p) (outcome_neg h0 a2)]
      exact ⟨n, rfl⟩
    · obtain ⟨p', h3, h4⟩ := outcome_told (by omega) a2 a3
      rw [linesR_step (toldL_no10 p) h3]
      refine tell_bad ps g (n + 1) (by omega) (fun q hq => h q (List.mem_cons_of_mem _ hq)) ?_
      obtain ⟨q, hq, hq2⟩ := hb
      rcases List.mem_cons.1 hq with rfl | hq
      · exact absurd hq2 h0
      · exact ⟨q, hq, hq2⟩
theorem read_sound : ∀ (f n : Nat) (s : List UInt8) (xs : List POut), linesR outcomeR f n s = (xs, none) → tellL xs = s
  | 0, n, s, xs, h => by simp [linesR] at h
  | f + 1, n, s, xs, h => by
    unfold linesR at h
    split at h
    · rename_i e
      obtain ⟨rfl, -⟩ := Prod.mk.inj h
      rw [e]; rfl
    · split at h
      · simp at h
      · rename_i x r hc
        obtain ⟨e1, e2⟩ := cutNL_some hc
        split at h
        · simp at h
        · rename_i a ha
          obtain ⟨rfl, h2⟩ := Prod.mk.inj h
          have ih := read_sound f (n + 1) r (linesR outcomeR f (n + 1) r).1 (Prod.ext rfl h2)
          rw [tellL_cons, ih, (outcome_sound ha).1, e1]
theorem tell_count (ps : List POut) : (tellL ps).count 10 = ps.length := by
  induction ps with
  | nil => rfl
  | cons p ps ih => rw [tellL_cons, List.count_append, List.count_eq_zero.2 (toldL_no10 p), List.count_cons_self, ih]; simp
theorem tell_line : ∀ (ps : List POut), (∀ p ∈ ps, (toldL p).length ≤ 4000) → ∀ u x v, tellL ps = u ++ (x ++ v) → (10 : UInt8) ∉ x → x.length ≤ 4000
  | [], _, u, x, v, h, _ => by
    have := congrArg List.length h
    simp [tellL] at this
    omega
  | p :: ps, hp, u, x, v, h, hx => by
    rw [tellL_cons] at h
    have hl := hp p (by simp)
    rcases Nat.lt_or_ge (toldL p).length u.length with h1 | h1
    · have h2 : tellL ps = (u.drop ((toldL p).length + 1)) ++ (x ++ v) := by
        have := congrArg (List.drop ((toldL p).length + 1)) h
        rw [show toldL p ++ 10 :: tellL ps = (toldL p ++ [10]) ++ tellL ps from by simp, List.drop_left' (by simp), List.drop_append_of_le_length (by omega)] at this
        exact this
      exact tell_line ps (fun q hq => hp q (List.mem_cons_of_mem _ hq)) _ x v h2 hx
    · rcases Nat.lt_or_ge 4000 x.length with h2 | h2
      · exfalso
        have h3 : (u ++ (x ++ v))[(toldL p).length]? = some 10 := by rw [← h]; simp
        rw [List.getElem?_append_right h1, List.getElem?_append_left (by omega)] at h3
        exact hx (List.mem_of_getElem? h3)
      · exact h2
theorem told_small {p : POut} (h1 : I64 p.err) (h2 : I64 p.n) (ht : p.text.length ≤ 500) (hn : p.names.length ≤ 10) (hx : ∀ x ∈ p.names, x.length ≤ 50) : (toldL p).length ≤ 4000 := by
  have i0 := Lib.itoa_length_le p.err h1.1 h1.2
  have i1 := Lib.itoa_length_le p.n h2.1 h2.2
  have i2 := Lib.itoa_length_le (p.names.length : Int) (by omega) (by omega)
  have i3 := wordL_len p.text
  by_cases h0 : p.err = 0
  · rw [toldL_ok h0]
    have : (p.names.flatMap fun x => 32 :: wordL x).length ≤ 152 * p.names.length := by
      revert hx; generalize p.names = ns
      induction ns with
      | nil => simp
      | cons y ns ih =>
        intro hx
        have h3 := wordL_len y
        have h4 := hx y (by simp)
        have := ih (fun x hx2 => hx x (List.mem_cons_of_mem _ hx2))
        simp only [List.flatMap_cons, List.length_append, List.length_cons]; omega
    have h5 : 152 * p.names.length ≤ 152 * 10 := Nat.mul_le_mul_left _ hn
    unfold headL
    simp [okL]
    simp at this
    omega
  · rw [toldL_err h0]; simp [errorL]; omega
end Go.Proofs.YtcbdmaelgedbkaaGreatDoor
