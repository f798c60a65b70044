/- The plain law of ScriptLines: words, numerals and lists tell what they are of; a line parts into its words in one way. -/
import Derived.Test.YtcbdmaelgedbkaaGreatDoorScrO
namespace Go.Proofs.YtcbdmaelgedbkaaGreatDoor

/-! numerals -/
theorem dig_toNat {n : Nat} (h : n < 10) : (UInt8.ofNat (48 + n)).toNat = 48 + n := by rw [UInt8.toNat_ofNat_of_lt' (by show 48 + n < 256; omega)]
theorem decDigits_mem : ∀ (u : Nat) (c : UInt8), c ∈ Lib.decDigits u → 48 ≤ c.toNat ∧ c.toNat ≤ 57 := by
  intro u
  induction u using Nat.strongRecOn with
  | _ u ih =>
    intro c hc
    rw [Lib.decDigits] at hc
    split at hc
    · rename_i h
      rw [List.mem_singleton] at hc
      rw [hc, dig_toNat h]; omega
    · rename_i h
      rcases List.mem_append.1 hc with hc | hc
      · exact ih (u / 10) (by omega) c hc
      · rw [List.mem_singleton] at hc
        rw [hc, dig_toNat (by omega)]; omega
theorem decDigits_ne (u : Nat) : Lib.decDigits u ≠ [] := by
  rw [Lib.decDigits]; split <;> simp
theorem decDigits_inj : ∀ u v : Nat, Lib.decDigits u = Lib.decDigits v → u = v := by
  intro u
  induction u using Nat.strongRecOn with
  | _ u ih =>
    intro v h
    have last : ∀ {a b : Nat}, a < 10 → b < 10 → UInt8.ofNat (48 + a) = UInt8.ofNat (48 + b) → a = b := fun ha hb e => by
      have := congrArg UInt8.toNat e
      rw [dig_toNat ha, dig_toNat hb] at this; omega
    rw [Lib.decDigits, Lib.decDigits.eq_def v] at h
    split at h <;> split at h <;> rename_i h1 h2
    · exact last h1 h2 (by simpa using h)
    · have h3 := congrArg List.length h
      have h4 := List.length_pos_iff.2 (decDigits_ne (v / 10))
      simp only [List.length_append, List.length_cons, List.length_nil] at h3; omega
    · have h3 := congrArg List.length h
      have h4 := List.length_pos_iff.2 (decDigits_ne (u / 10))
      simp only [List.length_append, List.length_cons, List.length_nil] at h3; omega
    · obtain ⟨e1, e2⟩ := List.append_inj' h rfl
      have := ih (u / 10) (by omega) (v / 10) e1
      have := last (by omega) (by omega) (List.cons.inj e2).1
      omega
theorem itoa_mem (n : Int) (c : UInt8) (h : c ∈ Lib.itoa n) : c.toNat = 45 ∨ (48 ≤ c.toNat ∧ c.toNat ≤ 57) := by
  unfold Lib.itoa at h
  split at h
  · rcases List.mem_cons.1 h with rfl | h
    · exact .inl rfl
    · exact .inr (decDigits_mem _ c h)
  · exact .inr (decDigits_mem _ c h)
theorem itoa_inj {m n : Int} (h : Lib.itoa m = Lib.itoa n) : m = n := by
  have neg : ∀ (u : Nat) (l : List UInt8), Lib.decDigits u ≠ 45 :: l := fun u l e => by
    have := (decDigits_mem u 45 (by rw [e]; simp)).1
    exact absurd this (by decide)
  unfold Lib.itoa at h
  split at h <;> split at h <;> rename_i h1 h2
  · have := decDigits_inj _ _ (List.cons.inj h).2; omega
  · exact absurd h.symm (neg _ _)
  · exact absurd h (neg _ _)
  · have := decDigits_inj _ _ h; omega
theorem itoa_ne (n : Int) : Lib.itoa n ≠ [] ∧ Lib.itoa n ≠ [45] := by
  unfold Lib.itoa
  split
  · exact ⟨by simp, fun e => decDigits_ne _ (List.cons.inj e).2⟩
  · refine ⟨decDigits_ne _, fun e => ?_⟩
    have := (decDigits_mem n.toNat 45 (by rw [e]; simp)).1
    exact absurd this (by decide)

/-! what is joined by an octet that stands in no piece parts in one way -/
theorem sep_split {s : UInt8} : ∀ {x y u v : List UInt8}, s ∉ x → s ∉ y → x ++ s :: u = y ++ s :: v → x = y ∧ u = v
  | [], [], u, v, _, _, h => ⟨rfl, (List.cons.inj h).2⟩
  | [], b :: y, u, v, _, hy, h => by
    have := (List.cons.inj h).1
    exact absurd (by rw [this]; simp) hy
  | a :: x, [], u, v, hx, _, h => by
    have := (List.cons.inj h).1
    exact absurd (by rw [this]; simp) hx
  | a :: x, b :: y, u, v, hx, hy, h => by
    obtain ⟨h1, h2⟩ := List.cons.inj h
    obtain ⟨h3, h4⟩ := sep_split (fun h => hx (List.mem_cons_of_mem _ h)) (fun h => hy (List.mem_cons_of_mem _ h)) h2
    exact ⟨by rw [h1, h3], h4⟩
theorem join_inj {s : UInt8} : ∀ {xs ys : List (List UInt8)}, xs ≠ [] → ys ≠ [] → (∀ x ∈ xs, s ∉ x) → (∀ y ∈ ys, s ∉ y) → Lib.join xs [s] = Lib.join ys [s] → xs = ys
  | [x], [y], _, _, _, _, h => by rw [Lib.join_one, Lib.join_one] at h; rw [h]
  | [x], y :: y' :: ys, _, _, hx, _, h => by
    rw [Lib.join_one, Lib.join_cons] at h
    exact absurd (by rw [h]; simp [Lib.joinTail]) (hx x (by simp))
  | x :: x' :: xs, [y], _, _, _, hy, h => by
    rw [Lib.join_one, Lib.join_cons] at h
    exact absurd (by rw [← h]; simp [Lib.joinTail]) (hy y (by simp))
  | x :: x' :: xs, y :: y' :: ys, _, _, hx, hy, h => by
    have e : ∀ (z z' : List UInt8) (zs : List (List UInt8)), Lib.join (z :: z' :: zs) [s] = z ++ s :: Lib.join (z' :: zs) [s] := fun z z' zs => by
      rw [Lib.join_cons, Lib.join_cons]; simp [Lib.joinTail]
    rw [e, e] at h
    obtain ⟨h1, h2⟩ := sep_split (hx x (by simp)) (hy y (by simp)) h
    rw [h1, join_inj (by simp) (by simp) (fun z hz => hx z (List.mem_cons_of_mem _ hz)) (fun z hz => hy z (List.mem_cons_of_mem _ hz)) h2]
theorem join_count {s : UInt8} : ∀ {xs : List (List UInt8)}, xs ≠ [] → (∀ x ∈ xs, s ∉ x) → (Lib.join xs [s]).count s + 1 = xs.length
  | [x], _, h => by
    rw [Lib.join_one, List.count_eq_zero.2 (h x (by simp))]; rfl
  | x :: x' :: xs, _, h => by
    have e : Lib.join (x :: x' :: xs) [s] = x ++ s :: Lib.join (x' :: xs) [s] := by
      rw [Lib.join_cons, Lib.join_cons]; simp [Lib.joinTail]
    have ih := join_count (xs := x' :: xs) (by simp) (fun z hz => h z (List.mem_cons_of_mem _ hz))
    rw [e, List.count_append, List.count_eq_zero.2 (h x (by simp)), List.count_cons_self]
    simp at ih ⊢; omega

/-! words -/
theorem hexd_toNat {n : Nat} (h : n < 16) : (hexd n).toNat = if n < 10 then 48 + n else 87 + n := by
  have : ∀ m : Fin 16, (hexd m.val).toNat = if m.val < 10 then 48 + m.val else 87 + m.val := by decide
  exact this ⟨n, h⟩
theorem hexd_inj {m n : Nat} (hm : m < 16) (hn : n < 16) (h : hexd m = hexd n) : m = n := by
  have := congrArg UInt8.toNat h
  rw [hexd_toNat hm, hexd_toNat hn] at this
  split at this <;> split at this <;> omega
theorem wordC_cases (c : UInt8) : (wordC c = [c] ∧ 32 < c.toNat ∧ c.toNat < 127 ∧ c.toNat ≠ 37) ∨ wordC c = [37, hexd (c.toNat / 16), hexd (c.toNat % 16)] := by
  unfold wordC
  split
  · rename_i h
    obtain ⟨h1, h2, h3⟩ := h
    rw [UInt8.lt_iff_toNat_lt] at h1 h2
    simp at h1 h2
    exact .inl ⟨rfl, h1, h2, fun e => h3 (UInt8.toNat_inj.1 (by simpa using e))⟩
  · exact .inr rfl
theorem wordC_inj {c d : UInt8} {u v : List UInt8} (h : wordC c ++ u = wordC d ++ v) : c = d ∧ u = v := by
  have hc := c.toNat_lt; have hd := d.toNat_lt
  rcases wordC_cases c with ⟨e1, a1, a2, a3⟩ | e1 <;> rcases wordC_cases d with ⟨e2, b1, b2, b3⟩ | e2 <;> rw [e1, e2] at h
  · simpa using h
  · have := (List.cons.inj h).1
    subst this
    exact absurd rfl a3
  · have := (List.cons.inj h).1
    subst this
    exact absurd rfl b3
  · simp only [List.cons_append, List.nil_append, List.cons.injEq, true_and] at h
    obtain ⟨h1, h2, h3⟩ := h
    have := hexd_inj (by omega) (by omega) h1
    have := hexd_inj (by omega) (by omega) h2
    exact ⟨UInt8.toNat_inj.1 (by omega), h3⟩
theorem flat_inj : ∀ {l m : List UInt8}, l.flatMap wordC = m.flatMap wordC → l = m
  | [], [], _ => rfl
  | [], d :: m, h => by
    rcases wordC_cases d with ⟨e, -⟩ | e <;> rw [List.flatMap_cons, e] at h <;> simp at h
  | c :: l, [], h => by
    rcases wordC_cases c with ⟨e, -⟩ | e <;> rw [List.flatMap_cons, e] at h <;> simp at h
  | c :: l, d :: m, h => by
    rw [List.flatMap_cons, List.flatMap_cons] at h
    obtain ⟨h1, h2⟩ := wordC_inj h
    rw [h1, flat_inj h2]
theorem flat_ne {l : List UInt8} : l.flatMap wordC ≠ [37] := by
  cases l with
  | nil => simp
  | cons c l =>
    intro h
    rw [List.flatMap_cons] at h
    rcases wordC_cases c with ⟨e, a1, a2, a3⟩ | e <;> rw [e] at h
    · have := (List.cons.inj h).1
      subst this
      exact a3 rfl
    · simp at h
theorem wordL_inj {l m : List UInt8} (h : wordL l = wordL m) : l = m := by
  unfold wordL at h
  split at h <;> split at h <;> rename_i h1 h2
  · rw [h1, h2]
  · exact absurd h.symm flat_ne
  · exact absurd h flat_ne
  · exact flat_inj h
theorem wordL_nosp (l : List UInt8) : (32 : UInt8) ∉ wordL l := by
  unfold wordL
  split
  · decide
  · intro h
    obtain ⟨c, hc, h⟩ := List.mem_flatMap.1 h
    rcases wordC_cases c with ⟨e, a1, a2, a3⟩ | e <;> rw [e] at h
    · have := List.mem_singleton.1 h
      subst this
      exact absurd a1 (by decide)
    · have hc := c.toNat_lt
      have p1 := hexd_toNat (n := c.toNat / 16) (by omega)
      have p2 := hexd_toNat (n := c.toNat % 16) (by omega)
      simp only [List.mem_cons, List.not_mem_nil, or_false] at h
      rcases h with h | h | h
      · exact absurd h (by decide)
      · rw [← h] at p1; split at p1 <;> simp at p1 <;> omega
      · rw [← h] at p2; split at p2 <;> simp at p2 <;> omega
theorem itoa_nosp (n : Int) : (32 : UInt8) ∉ Lib.itoa n := by
  intro h
  rcases itoa_mem n 32 h with h | h
  · exact absurd h (by decide)
  · exact absurd h.1 (by decide)
theorem itoa_nocomma (n : Int) : (44 : UInt8) ∉ Lib.itoa n := by
  intro h
  rcases itoa_mem n 44 h with h | h
  · exact absurd h (by decide)
  · exact absurd h.1 (by decide)
theorem mem_join {s c : UInt8} : ∀ {xs : List (List UInt8)}, c ∈ Lib.join xs [s] → c = s ∨ ∃ x ∈ xs, c ∈ x
  | [], h => by simp [Lib.join_nil] at h
  | [x], h => by rw [Lib.join_one] at h; exact .inr ⟨x, by simp, h⟩
  | x :: x' :: xs, h => by
    have e : Lib.join (x :: x' :: xs) [s] = x ++ s :: Lib.join (x' :: xs) [s] := by
      rw [Lib.join_cons, Lib.join_cons]; simp [Lib.joinTail]
    rw [e] at h
    rcases List.mem_append.1 h with h | h
    · exact .inr ⟨x, by simp, h⟩
    · rcases List.mem_cons.1 h with h | h
      · exact .inl h
      · rcases mem_join h with h | ⟨z, hz, h⟩
        · exact .inl h
        · exact .inr ⟨z, List.mem_cons_of_mem _ hz, h⟩
theorem listL_nosp (l : List Int) : (32 : UInt8) ∉ listL l := by
  unfold listL
  split
  · decide
  · intro h
    rcases mem_join h with h | ⟨x, hx, h⟩
    · exact absurd h (by decide)
    · obtain ⟨z, hz, rfl⟩ := List.mem_map.1 hx
      exact itoa_nosp z h
theorem listL_inj {l m : List Int} (h : listL l = listL m) : l = m := by
  have one : ∀ l : List Int, l ≠ [] → Lib.join (l.map Lib.itoa) [44] ≠ [45] := by
    intro l hl e
    cases l with
    | nil => exact hl rfl
    | cons a l =>
      rw [List.map_cons, Lib.join_cons] at e
      rcases List.append_eq_cons_iff.1 e with ⟨h1, -⟩ | ⟨r, h1, h2⟩
      · exact (itoa_ne a).1 h1
      · have hr : r = [] := by
          cases r with
          | nil => rfl
          | cons _ _ => simp at h2
        exact (itoa_ne a).2 (by rw [h1, hr])
  unfold listL at h
  split at h <;> split at h <;> rename_i h1 h2
  · rw [h1, h2]
  · exact absurd h.symm (one m h2)
  · exact absurd h (one l h1)
  · have := join_inj (by simpa using h1) (by simpa using h2) (fun x hx => by obtain ⟨z, -, rfl⟩ := List.mem_map.1 hx; exact itoa_nocomma z) (fun x hx => by obtain ⟨z, -, rfl⟩ := List.mem_map.1 hx; exact itoa_nocomma z) h
    exact (List.map_inj_right (fun a b => itoa_inj)).1 this

/-! lines -/
theorem kind_at {k : Nat} (h : k < 26) : ∃ x, kindsT[k]? = some x := ⟨kindsT[k]'(by simpa [kindsT] using h), by simp⟩
theorem names_nosp : ∀ x ∈ kindsT, (32 : UInt8) ∉ x.1 := by decide +kernel
theorem names_inj : ∀ i j : Fin 26, (kindsT[i.val]?.map (·.1)) = (kindsT[j.val]?.map (·.1)) → i = j := by decide +kernel
theorem has_letters : ∀ k : Fin 26, ∀ x, kindsT[k.val]? = some x → x.2 = (hasL k.val).map (fun z => if z = 1 then 80 else if z = 2 then 65 else if z = 3 then 78 else if z = 4 then 77 else if z = 5 then 75 else if z = 6 then 66 else 76) := by
  intro k x h
  have : ∀ k : Fin 26, (kindsT[k.val]?.map (·.2)) = some ((hasL k.val).map (fun z => if z = 1 then 80 else if z = 2 then 65 else if z = 3 then 78 else if z = 4 then 77 else if z = 5 then 75 else if z = 6 then 66 else 76)) := by decide +kernel
  have h2 := this k
  rw [h] at h2
  exact Option.some.inj h2
theorem mem_letters : ∀ k : Fin 26, ∀ x, kindsT[k.val]? = some x → ((1 ∈ hasL k.val ↔ 80 ∈ x.2) ∧ (2 ∈ hasL k.val ↔ 65 ∈ x.2) ∧ (3 ∈ hasL k.val ↔ 78 ∈ x.2) ∧ (4 ∈ hasL k.val ↔ 77 ∈ x.2) ∧ (5 ∈ hasL k.val ↔ 75 ∈ x.2) ∧ (6 ∈ hasL k.val ↔ 66 ∈ x.2) ∧ (7 ∈ hasL k.val ↔ 76 ∈ x.2)) := by
  have : ∀ k : Fin 26, (kindsT[k.val]?.all fun x => decide ((1 ∈ hasL k.val ↔ 80 ∈ x.2) ∧ (2 ∈ hasL k.val ↔ 65 ∈ x.2) ∧ (3 ∈ hasL k.val ↔ 78 ∈ x.2) ∧ (4 ∈ hasL k.val ↔ 77 ∈ x.2) ∧ (5 ∈ hasL k.val ↔ 75 ∈ x.2) ∧ (6 ∈ hasL k.val ↔ 66 ∈ x.2) ∧ (7 ∈ hasL k.val ↔ 76 ∈ x.2))) = true := by decide +kernel
  intro k x h
  have h2 := this k
  rw [h] at h2
  simpa using h2
theorem partL_nosp (d : RDeed) (c : Int) : (32 : UInt8) ∉ partL d c := by
  unfold partL
  repeat' split
  all_goals first | exact wordL_nosp _ | exact listL_nosp _ | exact itoa_nosp _
theorem lineOut_pieces (d : RDeed) (x : List UInt8 × List UInt8) (hx : x ∈ kindsT) : ∀ y ∈ (x.1 :: x.2.map fun c => partL d c.toNat), (32 : UInt8) ∉ y := by
  intro y hy
  rcases List.mem_cons.1 hy with rfl | hy
  · exact names_nosp x hx
  · obtain ⟨c, -, rfl⟩ := List.mem_map.1 hy
    exact partL_nosp d _
/-- A good line is the joined words of its kind. -/
theorem lineR_ok {d : RDeed} {x : List UInt8 × List UInt8} (h0 : 0 ≤ d.kind) (hx : kindsT[d.kind.toNat]? = some x) (h : (lineR d).1 = 0) : (lineR d).2 = lineOut d x := by
  unfold lineR at h ⊢
  rw [if_neg (by omega), hx] at h ⊢
  simp only at h ⊢
  by_cases h1 : lettersAll.any (viol d x.2) = true
  · rw [if_pos h1] at h; simp at h
  · rw [if_neg h1] at h ⊢
    by_cases h2 : 4096 < (lineOut d x).length
    · rw [if_pos h2] at h; simp at h
    · rw [if_neg h2]
theorem list_eq_of_part {a b : RDeed} {l : List UInt8} (h : (l.map fun c => partL a c.toNat) = l.map fun c => partL b c.toNat) : ∀ c ∈ l, partL a c.toNat = partL b c.toNat := by
  induction l with
  | nil => intro c hc; simp at hc
  | cons d l ih =>
    simp only [List.map_cons, List.cons.injEq] at h
    intro c hc
    rcases List.mem_cons.1 hc with rfl | hc
    · exact h.1
    · exact ih h.2 c hc

theorem lines_law (a b : RDeed) (ha0 : 0 ≤ a.kind) (ha1 : a.kind < 26) (hb0 : 0 ≤ b.kind) (hb1 : b.kind < 26) (hea : (lineR (onlyD a)).1 = 0) (heb : (lineR (onlyD b)).1 = 0) :
    ∃ x, kindsT[a.kind.toNat]? = some x ∧ (lineNL (onlyD a)).count 32 = (hasL a.kind.toNat).length ∧ x.1.length < (lineNL (onlyD a)).length ∧ (lineNL (onlyD a)).take x.1.length = x.1 ∧
      (lineNL (onlyD a) == lineNL (onlyD b)) = sameR (onlyD a) (onlyD b) := by
  obtain ⟨x, hx⟩ := kind_at (k := a.kind.toNat) (by omega)
  obtain ⟨y, hy⟩ := kind_at (k := b.kind.toNat) (by omega)
  have hxa : kindsT[(onlyD a).kind.toNat]? = some x := hx
  have hyb : kindsT[(onlyD b).kind.toNat]? = some y := hy
  have la := lineR_ok (d := onlyD a) ha0 hxa hea
  have lb := lineR_ok (d := onlyD b) hb0 hyb heb
  have hxm := List.mem_of_getElem? hx
  have hym := List.mem_of_getElem? hy
  have pa := lineOut_pieces (onlyD a) x hxm
  have pb := lineOut_pieces (onlyD b) y hym
  have hl := congrArg List.length (has_letters ⟨a.kind.toNat, by omega⟩ x hx)
  rw [List.length_map] at hl
  refine ⟨x, hx, ?_, ?_, ?_, ?_⟩
  · have hc := join_count (s := 32) (by simp) pa
    unfold lineNL
    rw [la, List.count_append]
    unfold lineOut
    simp at hc hl ⊢
    omega
  · unfold lineNL
    rw [la]
    unfold lineOut
    rw [Lib.join_cons]
    simp
  · unfold lineNL
    rw [la]
    unfold lineOut
    rw [Lib.join_cons, List.append_assoc, List.take_append_of_le_length (Nat.le_refl _), List.take_length]
  · rw [Bool.eq_iff_iff, beq_iff_eq]
    constructor
    · intro h
      unfold lineNL at h
      have h := List.append_cancel_right h
      rw [la, lb] at h
      unfold lineOut at h
      have h := join_inj (by simp) (by simp) pa pb h
      obtain ⟨h1, h2⟩ := List.cons.inj h
      have hk : a.kind.toNat = b.kind.toNat := by
        have := names_inj ⟨a.kind.toNat, by omega⟩ ⟨b.kind.toNat, by omega⟩ (by simp only [hx, hy]; simp [h1])
        exact congrArg Fin.val this
      rw [hk, hy] at hx
      obtain rfl := Option.some.inj hx
      have hp := list_eq_of_part h2
      obtain ⟨m1, m2, m3, m4, m5, m6, m7⟩ := mem_letters ⟨b.kind.toNat, by omega⟩ y hy
      simp only at m1 m2 m3 m4 m5 m6 m7
      have hkk : a.kind = b.kind := by omega
      have f1 : (onlyD a).path.toList = (onlyD b).path.toList := by
        unfold onlyD onlyTo
        simp only [hkk]
        split
        · rename_i hm
          have := hp 80 (m1.1 hm)
          simp only [partL, onlyD, onlyTo, hkk, hm] at this
          rw [toList_eq, toList_eq]
          exact wordL_inj (by simpa using this)
        · rfl
      have f2 : (onlyD a).as_.toList = (onlyD b).as_.toList := by
        unfold onlyD onlyTo
        simp only [hkk]
        split
        · rename_i hm
          have := hp 65 (m2.1 hm)
          simp only [partL, onlyD, onlyTo, hkk, hm] at this
          rw [toList_eq, toList_eq]
          exact wordL_inj (by simpa using this)
        · rfl
      have f3 : (onlyD a).n = (onlyD b).n := by
        unfold onlyD onlyTo
        simp only [hkk]
        split
        · rename_i hm
          have := hp 78 (m3.1 hm)
          simp only [partL, onlyD, onlyTo, hkk, hm] at this
          exact itoa_inj (by simpa using this)
        · rfl
      have f4 : (onlyD a).m = (onlyD b).m := by
        unfold onlyD onlyTo
        simp only [hkk]
        split
        · rename_i hm
          have := hp 77 (m4.1 hm)
          simp only [partL, onlyD, onlyTo, hkk, hm] at this
          exact itoa_inj (by simpa using this)
        · rfl
      have f5 : (onlyD a).k = (onlyD b).k := by
        unfold onlyD onlyTo
        simp only [hkk]
        split
        · rename_i hm
          have := hp 75 (m5.1 hm)
          simp only [partL, onlyD, onlyTo, hkk, hm] at this
          exact itoa_inj (by simpa using this)
        · rfl
      have f6 : (onlyD a).b = (onlyD b).b := by
        unfold onlyD onlyTo
        simp only [hkk]
        split
        · rename_i hm
          have := hp 66 (m6.1 hm)
          simp only [partL, onlyD, onlyTo, hkk, hm] at this
          exact wordL_inj (by simpa using this)
        · rfl
      have f7 : (onlyD a).keep = (onlyD b).keep := by
        unfold onlyD onlyTo
        simp only [hkk]
        split
        · rename_i hm
          have := hp 76 (m7.1 hm)
          simp only [partL, onlyD, onlyTo, hkk, hm] at this
          exact listL_inj (by simpa using this)
        · rfl
      unfold sameR
      rw [f1, f2, f3, f4, f5, f6, f7]
      simp [onlyD, onlyTo, hkk]
    · intro h
      unfold sameR at h
      simp only [Bool.and_eq_true, decide_eq_true_eq, beq_iff_eq] at h
      obtain ⟨⟨⟨⟨⟨⟨⟨g1, g2⟩, g3⟩, g4⟩, g5⟩, g6⟩, g7⟩, g8⟩ := h
      have hkk : a.kind = b.kind := g2
      rw [hkk, hy] at hx
      obtain rfl := Option.some.inj hx
      have hpart : ∀ c, partL (onlyD a) c = partL (onlyD b) c := by
        intro c
        rw [toList_eq, toList_eq] at g6 g7
        unfold partL
        rw [g1, g3, g4, g5, g6, g7, g8]
      unfold lineNL
      rw [la, lb]
      unfold lineOut
      simp only [hpart]
end Go.Proofs.YtcbdmaelgedbkaaGreatDoor
