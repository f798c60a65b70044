/- The plain law of ScriptParses. -/
import Derived.Test.YtcbdmaelgedbkaaGreatDoorScrTG
import Derived.Test.YtcbdmaelgedbkaaGreatDoorScrPH
namespace Go.Proofs.YtcbdmaelgedbkaaGreatDoor

theorem mem_lettersAll {c : UInt8} (h : c ∈ lettersAll) : c = 80 ∨ c = 65 ∨ c = 66 ∨ c = 76 ∨ c = 78 ∨ c = 77 ∨ c = 75 := by
  simpa [lettersAll] using h
theorem kinds_all : ∀ x ∈ kindsT, (∀ c ∈ x.2, c ∈ lettersAll) ∧ x.2.Nodup := by decide +kernel
theorem kinds_min : ∀ x ∈ kindsT, 4 ≤ x.1.length + x.2.length ∧ x.2.length ≤ 3 ∧ (10 : UInt8) ∉ x.1 ∧ (x.2 = [] → 4 ≤ x.1.length) ∧ 3 ≤ x.1.length := by decide +kernel

/-- What one word sets. -/
theorem setR_is {p q : RDeed} {c : UInt8} {x : List UInt8} (hc : c ∈ lettersAll) (h : setR p c.toNat x = some q) :
    (c = 80 ∧ ∃ t, x = wordL t ∧ q = { p with path := ⟨t.toArray⟩ }) ∨ (c = 65 ∧ ∃ t, x = wordL t ∧ q = { p with as_ := ⟨t.toArray⟩ }) ∨ (c = 66 ∧ ∃ t, x = wordL t ∧ q = { p with b := t }) ∨
    (c = 76 ∧ ∃ l, x = listL l ∧ (∀ z ∈ l, I64 z) ∧ q = { p with keep := l }) ∨ (c = 78 ∧ ∃ v, x = Lib.itoa v ∧ I64 v ∧ q = { p with n := v }) ∨ (c = 77 ∧ ∃ v, x = Lib.itoa v ∧ I64 v ∧ q = { p with m := v }) ∨
    (c = 75 ∧ ∃ v, x = Lib.itoa v ∧ I64 v ∧ q = { p with k := v }) := by
  rcases mem_lettersAll hc with rfl | rfl | rfl | rfl | rfl | rfl | rfl <;> simp [setR] at h <;> obtain ⟨t, ht, rfl⟩ := h
  · exact .inl ⟨rfl, t, textR_some ht, rfl⟩
  · exact .inr (.inl ⟨rfl, t, textR_some ht, rfl⟩)
  · exact .inr (.inr (.inl ⟨rfl, t, textR_some ht, rfl⟩))
  · exact .inr (.inr (.inr (.inl ⟨rfl, t, (numbersR_some ht).1, (numbersR_some ht).2, rfl⟩)))
  · exact .inr (.inr (.inr (.inr (.inl ⟨rfl, t, (numR_some ht).1, (numR_some ht).2, rfl⟩))))
  · exact .inr (.inr (.inr (.inr (.inr (.inl ⟨rfl, t, (numR_some ht).1, (numR_some ht).2, rfl⟩)))))
  · exact .inr (.inr (.inr (.inr (.inr (.inr ⟨rfl, t, (numR_some ht).1, (numR_some ht).2, rfl⟩)))))
/-- What the letters that do not stand there leave. -/
structure Kept (cs : List UInt8) (p q : RDeed) : Prop where
  kind : q.kind = p.kind
  path : 80 ∉ cs → q.path = p.path
  as_ : 65 ∉ cs → q.as_ = p.as_
  b : 66 ∉ cs → q.b = p.b
  keep : 76 ∉ cs → q.keep = p.keep
  n : 78 ∉ cs → q.n = p.n
  m : 77 ∉ cs → q.m = p.m
  k : 75 ∉ cs → q.k = p.k
theorem setR_kept {p q : RDeed} {c : UInt8} {x : List UInt8} (hc : c ∈ lettersAll) (h : setR p c.toNat x = some q) : Kept [c] p q := by
  rcases setR_is hc h with ⟨rfl, t, -, rfl⟩ | ⟨rfl, t, -, rfl⟩ | ⟨rfl, t, -, rfl⟩ | ⟨rfl, t, -, -, rfl⟩ | ⟨rfl, t, -, -, rfl⟩ | ⟨rfl, t, -, -, rfl⟩ | ⟨rfl, t, -, -, rfl⟩ <;>
    constructor <;> first | rfl | (intro h; first | rfl | exact absurd (List.mem_singleton.2 rfl) h)
theorem setR_part {p q : RDeed} {c : UInt8} {x : List UInt8} (hc : c ∈ lettersAll) (h : setR p c.toNat x = some q) : partL q c.toNat = x := by
  rcases setR_is hc h with ⟨rfl, t, rfl, rfl⟩ | ⟨rfl, t, rfl, rfl⟩ | ⟨rfl, t, rfl, rfl⟩ | ⟨rfl, t, rfl, -, rfl⟩ | ⟨rfl, t, rfl, -, rfl⟩ | ⟨rfl, t, rfl, -, rfl⟩ | ⟨rfl, t, rfl, -, rfl⟩ <;> simp [partL]
theorem kept_part {cs : List UInt8} {p q : RDeed} (h : Kept cs p q) {c : UInt8} (hc : c ∈ lettersAll) (hn : c ∉ cs) : partL q c.toNat = partL p c.toNat := by
  rcases mem_lettersAll hc with rfl | rfl | rfl | rfl | rfl | rfl | rfl
  · simp [partL, h.path hn]
  · simp [partL, h.as_ hn]
  · simp [partL, h.b hn]
  · simp [partL, h.keep hn]
  · simp [partL, h.n hn]
  · simp [partL, h.m hn]
  · simp [partL, h.k hn]
theorem Kept.trans {c : UInt8} {cs : List UInt8} {p q r : RDeed} (h1 : Kept [c] p q) (h2 : Kept cs q r) : Kept (c :: cs) p r := by
  have e : ∀ {d : UInt8}, d ∉ c :: cs → d ∉ [c] ∧ d ∉ cs := fun h => ⟨fun e => h (by rw [List.mem_singleton.1 e]; simp), fun e => h (List.mem_cons_of_mem _ e)⟩
  exact ⟨h2.kind.trans h1.kind, fun h => (h2.path (e h).2).trans (h1.path (e h).1), fun h => (h2.as_ (e h).2).trans (h1.as_ (e h).1), fun h => (h2.b (e h).2).trans (h1.b (e h).1), fun h => (h2.keep (e h).2).trans (h1.keep (e h).1),
    fun h => (h2.n (e h).2).trans (h1.n (e h).1), fun h => (h2.m (e h).2).trans (h1.m (e h).1), fun h => (h2.k (e h).2).trans (h1.k (e h).1)⟩
theorem setAll_spec : ∀ {cs : List UInt8} {ws : List (List UInt8)} {p q : RDeed}, (∀ c ∈ cs, c ∈ lettersAll) → cs.Nodup → cs.length = ws.length → setAll p cs ws = some q → Kept cs p q ∧ (cs.map fun c => partL q c.toNat) = ws
  | [], [], p, q, _, _, _, h => by
    simp only [setAll, Option.some.injEq] at h; subst h
    exact ⟨⟨rfl, fun _ => rfl, fun _ => rfl, fun _ => rfl, fun _ => rfl, fun _ => rfl, fun _ => rfl, fun _ => rfl⟩, rfl⟩
  | c :: cs, x :: ws, p, q, hall, hnd, hlen, h => by
    rw [setAll] at h
    cases hv : setR p c.toNat x with
    | none => rw [hv] at h; cases h
    | some r =>
      rw [hv] at h
      have hc := hall c (by simp)
      obtain ⟨hnc, hnd'⟩ := List.nodup_cons.1 hnd
      obtain ⟨h1, h2⟩ := setAll_spec (fun d hd => hall d (List.mem_cons_of_mem _ hd)) hnd' (by simpa using hlen) h
      refine ⟨(setR_kept hc hv).trans h1, ?_⟩
      rw [List.map_cons, h2, kept_part h1 hc hnc, setR_part hc hv]
/-- Bounds of what is set. -/
structure Bd (L : Nat) (p : RDeed) : Prop where
  n : I64 p.n
  m : I64 p.m
  k : I64 p.k
  path : p.path.size ≤ L
  as_ : p.as_.size ≤ L
  b : p.b.length ≤ L
  keepN : 2 * p.keep.length ≤ L + 1
  keep : ∀ z ∈ p.keep, I64 z
theorem join_ge {s : UInt8} : ∀ {xs : List (List UInt8)}, (∀ x ∈ xs, 1 ≤ x.length) → 2 * xs.length ≤ (Lib.join xs [s]).length + 1
  | [], _ => by simp
  | [x], h => by have := h x (by simp); rw [Lib.join_one]; simp; omega
  | x :: y :: xs, h => by
    have e : Lib.join (x :: y :: xs) [s] = x ++ s :: Lib.join (y :: xs) [s] := by
      rw [Lib.join_cons, Lib.join_cons]; simp [Lib.joinTail]
    have := join_ge (s := s) (xs := y :: xs) fun z hz => h z (List.mem_cons_of_mem _ hz)
    have := h x (by simp)
    rw [e, List.length_append, List.length_cons]
    simp only [List.length_cons] at *; omega
theorem listL_ge (l : List Int) : 2 * l.length ≤ (listL l).length + 1 := by
  unfold listL
  split
  · rename_i h; subst h; simp
  · have := join_ge (s := 44) (xs := l.map Lib.itoa) (fun x hx => by
      obtain ⟨z, -, rfl⟩ := List.mem_map.1 hx
      have := (itoa_ne z).1
      exact List.length_pos_iff.2 this)
    simpa using this
theorem setR_bd {L : Nat} {p q : RDeed} {c : UInt8} {x : List UInt8} (hc : c ∈ lettersAll) (h : setR p c.toNat x = some q) (hp : Bd L p) (hx : x.length ≤ L) : Bd L q := by
  rcases setR_is hc h with ⟨rfl, t, rfl, rfl⟩ | ⟨rfl, t, rfl, rfl⟩ | ⟨rfl, t, rfl, rfl⟩ | ⟨rfl, t, rfl, h2, rfl⟩ | ⟨rfl, t, rfl, h2, rfl⟩ | ⟨rfl, t, rfl, h2, rfl⟩ | ⟨rfl, t, rfl, h2, rfl⟩
  · exact { hp with path := Nat.le_trans (wordL_ge t).1 hx }
  · exact { hp with as_ := Nat.le_trans (wordL_ge t).1 hx }
  · exact { hp with b := Nat.le_trans (wordL_ge t).1 hx }
  · exact { hp with keepN := Nat.le_trans (listL_ge t) (by omega), keep := h2 }
  · exact { hp with n := h2 }
  · exact { hp with m := h2 }
  · exact { hp with k := h2 }
theorem setAll_bd {L : Nat} : ∀ {cs : List UInt8} {ws : List (List UInt8)} {p q : RDeed}, (∀ c ∈ cs, c ∈ lettersAll) → (∀ w ∈ ws, w.length ≤ L) → Bd L p → setAll p cs ws = some q → Bd L q
  | [], _, p, q, _, _, hp, h => by simp only [setAll, Option.some.injEq] at h; rw [← h]; exact hp
  | c :: cs, [], p, q, _, _, hp, h => by simp only [setAll, Option.some.injEq] at h; rw [← h]; exact hp
  | c :: cs, x :: ws, p, q, hall, hl, hp, h => by
    rw [setAll] at h
    cases hv : setR p c.toNat x with
    | none => rw [hv] at h; cases h
    | some r =>
      rw [hv] at h
      exact setAll_bd (fun d hd => hall d (List.mem_cons_of_mem _ hd)) (fun w hw => hl w (List.mem_cons_of_mem _ hw)) (setR_bd (hall c (by simp)) hv hp (hl x (by simp))) h

theorem deedR_is {l : List UInt8} {p : RDeed} (h : deedR l = some p) : ∃ k x ws, kindsT[k]? = some x ∧ spl 32 l = x.1 :: ws ∧ x.2.length = ws.length ∧ setAll (deed0 k) x.2 ws = some p := by
  unfold deedR at h
  cases hw : spl 32 l with
  | nil => rw [hw] at h; cases h
  | cons a ws =>
    rw [hw] at h
    simp only [deedS, deedW] at h
    cases hk : kindOf a with
    | none => rw [hk] at h; cases h
    | some k =>
      rw [hk] at h
      simp only at h
      obtain ⟨x, hx, hxa⟩ := kindOf_get hk
      rw [hx] at h
      simp only at h
      split at h
      · rename_i hl
        exact ⟨k, x, ws, hx, by rw [hxa], hl, h⟩
      · cases h
theorem letZ_map (k : Fin 26) (x : List UInt8 × List UInt8) (h : kindsT[k.val]? = some x) : x.2 = (hasL k.val).map letZ := has_letters k x h
theorem deedR_four {l : List UInt8} {p : RDeed} (h : deedR l = some p) : 4 ≤ l.length := by
  obtain ⟨k, x, ws, hx, hsp, hlen, hset⟩ := deedR_is h
  have hm := kinds_min x (List.mem_of_getElem? hx)
  have hj := join_spl 32 l
  rw [hsp] at hj
  rw [← hj, Lib.join_cons, List.length_append]
  cases ws with
  | nil =>
    have : x.2 = [] := List.eq_nil_of_length_eq_zero (by simpa using hlen)
    have := hm.2.2.2.1 this
    omega
  | cons w ws =>
    have : 1 ≤ (Lib.joinTail [32] (w :: ws)).length := by simp [Lib.joinTail]
    have := hm.2.2.2.2
    omega
/-- What a line is read as, told, is the line. -/
theorem deedR_good {l : List UInt8} {p : RDeed} (h : deedR l = some p) (hl : l.length ≤ 4000) : lineZ p = l ∧ GoodD p ∧ Bd 4000 p := by
  obtain ⟨k, x, ws, hx, hsp, hlen, hset⟩ := deedR_is h
  have hk : k < 26 := (List.getElem?_eq_some_iff.1 hx).1
  have hmem := List.mem_of_getElem? hx
  obtain ⟨hall, hnd⟩ := kinds_all x hmem
  obtain ⟨hkept, hparts⟩ := setAll_spec hall hnd hlen hset
  have hj := join_spl 32 l
  rw [hsp] at hj
  have hkind : p.kind = (k : Int) := hkept.kind
  have hkn : p.kind.toNat = k := by rw [hkind]; simp
  have hlz := letZ_map ⟨k, hk⟩ x hx
  simp only at hlz
  have hline : lineZ p = l := by
    have e1 : (hasL k).map (fun z => wordZ p z) = ws := by
      rw [← hparts, hlz, List.map_map]; rfl
    unfold lineZ nameD
    rw [hkn, hx, ← hj, Lib.join_cons]
    have e2 : ((hasL k).flatMap fun z => 32 :: wordZ p z) = Lib.joinTail [32] ws := by
      rw [← e1]
      simp [Lib.joinTail, List.flatMap_def, Function.comp_def]
    rw [e2]; rfl
  have hbd : Bd 4000 p := by
    refine setAll_bd hall (fun w hw => ?_) ?_ hset
    · have := mem_join_len (c := 32) (xs := x.1 :: ws) (x := w) (List.mem_cons_of_mem _ hw)
      rw [hj] at this; omega
    · refine ⟨?_, ?_, ?_, by simp [deed0, ByteArray.size], by simp [deed0, ByteArray.size], by simp [deed0], by simp [deed0], by simp [deed0]⟩ <;> (unfold I64 deed0; simp)
  refine ⟨hline, ⟨by omega, by omega, ?_, by rw [hline]; omega⟩, hbd⟩
  obtain ⟨m1, m2, m3, m4, m5, m6, m7⟩ := mem_letters ⟨k, hk⟩ x hx
  simp only at m1 m2 m3 m4 m5 m6 m7
  have f1 : (onlyD p).path = p.path := by
    unfold onlyD onlyTo; simp only [hkn]
    split
    · rfl
    · rename_i hn; exact (hkept.path fun e => hn (m1.2 e)).symm
  have f2 : (onlyD p).as_ = p.as_ := by
    unfold onlyD onlyTo; simp only [hkn]
    split
    · rfl
    · rename_i hn; exact (hkept.as_ fun e => hn (m2.2 e)).symm
  have f3 : (onlyD p).n = p.n := by
    unfold onlyD onlyTo; simp only [hkn]
    split
    · rfl
    · rename_i hn; exact (hkept.n fun e => hn (m3.2 e)).symm
  have f4 : (onlyD p).m = p.m := by
    unfold onlyD onlyTo; simp only [hkn]
    split
    · rfl
    · rename_i hn; exact (hkept.m fun e => hn (m4.2 e)).symm
  have f5 : (onlyD p).k = p.k := by
    unfold onlyD onlyTo; simp only [hkn]
    split
    · rfl
    · rename_i hn; exact (hkept.k fun e => hn (m5.2 e)).symm
  have f6 : (onlyD p).b = p.b := by
    unfold onlyD onlyTo; simp only [hkn]
    split
    · rfl
    · rename_i hn; exact (hkept.b fun e => hn (m6.2 e)).symm
  have f7 : (onlyD p).keep = p.keep := by
    unfold onlyD onlyTo; simp only [hkn]
    split
    · rfl
    · rename_i hn; exact (hkept.keep fun e => hn (m7.2 e)).symm
  have f8 : (onlyD p).kind = p.kind := rfl
  unfold sameR
  rw [f1, f2, f3, f4, f5, f6, f7, f8]
  simp

/-! texts of lines -/
theorem first_of : ∀ {l : List UInt8}, (10 : UInt8) ∈ l → ∃ u v, l = u ++ 10 :: v ∧ (10 : UInt8) ∉ u
  | c :: l, h => by
    by_cases hc : c = 10
    · exact ⟨[], l, by rw [hc]; rfl, by simp⟩
    · rcases List.mem_cons.1 h with h | h
      · exact absurd h.symm hc
      · obtain ⟨u, v, e, hu⟩ := first_of h
        exact ⟨c :: u, v, by rw [e]; rfl, fun hm => by
          rcases List.mem_cons.1 hm with h | h
          · exact hc h.symm
          · exact hu h⟩
theorem printG_cons (p : RDeed) (ps : List RDeed) : printG (p :: ps) = lineZ p ++ 10 :: printG ps := by simp [printG]
theorem lines_is : ∀ (f n : Nat) (s : List UInt8) (ps : List RDeed) (o : Option Nat), s.length < f → s.length ≤ 3000 → linesR deedR f n s = (ps, o) →
    (∀ p ∈ ps, deedR (lineZ p) = some p ∧ (10 : UInt8) ∉ lineZ p ∧ (lineZ p).length ≤ 3000) ∧ (o = none → s = printG ps) ∧
    (∀ m, o = some m → m = n + ps.length ∧ ∃ r, s = printG ps ++ r ∧ r ≠ [] ∧ ((10 : UInt8) ∉ r ∨ ∃ x v, r = x ++ 10 :: v ∧ (10 : UInt8) ∉ x ∧ deedR x = none))
  | 0, n, s, ps, o, hf, _, h => by omega
  | f + 1, n, s, ps, o, hf, hs, h => by
    unfold linesR at h
    split at h
    · rename_i e
      obtain ⟨rfl, rfl⟩ := Prod.mk.inj h
      exact ⟨fun p hp => by simp at hp, fun _ => by rw [e]; rfl, fun m hm => (by cases hm)⟩
    · rename_i hne
      split at h
      · rename_i hc
        obtain ⟨rfl, rfl⟩ := Prod.mk.inj h
        refine ⟨fun p hp => by simp at hp, fun h => (by cases h), fun m hm => ?_⟩
        obtain rfl := Option.some.inj hm
        refine ⟨by simp, s, rfl, hne, .inl fun hm => ?_⟩
        obtain ⟨u, v, e, hu⟩ := first_of hm
        rw [e, cutNL_app v hu] at hc; cases hc
      · rename_i x r hc
        obtain ⟨e1, e2⟩ := cutNL_some hc
        have hl := congrArg List.length e1
        simp only [List.length_append, List.length_cons] at hl
        split at h
        · rename_i hd
          obtain ⟨rfl, rfl⟩ := Prod.mk.inj h
          refine ⟨fun p hp => by simp at hp, fun h => (by cases h), fun m hm => ?_⟩
          obtain rfl := Option.some.inj hm
          exact ⟨by simp, s, rfl, hne, .inr ⟨x, r, e1, e2, hd⟩⟩
        · rename_i a ha
          obtain ⟨rfl, rfl⟩ := Prod.mk.inj h
          have hg := deedR_good ha (by omega)
          obtain ⟨h1, h2, h3⟩ := lines_is f (n + 1) r _ _ (by omega) (by omega) rfl
          refine ⟨fun p hp => ?_, fun ho => ?_, fun m hm => ?_⟩
          · rcases List.mem_cons.1 hp with rfl | hp
            · rw [hg.1]; exact ⟨ha, e2, by omega⟩
            · exact h1 p hp
          · rw [printG_cons, hg.1, ← h2 ho]; exact e1
          · obtain ⟨g1, r', g2, g3, g4⟩ := h3 m hm
            refine ⟨by simp; omega, r', ?_, g3, g4⟩
            rw [printG_cons, hg.1]
            conv => lhs; rw [e1, g2]
            simp
theorem lines_back : ∀ (f n : Nat) (ps : List RDeed), (∀ p ∈ ps, deedR (lineZ p) = some p ∧ (10 : UInt8) ∉ lineZ p ∧ (lineZ p).length ≤ 3000) → (printG ps).length < f → linesR deedR f n (printG ps) = (ps, none)
  | 0, n, ps, _, h => by omega
  | f + 1, n, [], _, _ => linesR_nil _ _ _ (by omega)
  | f + 1, n, p :: ps, hp, hf => by
    obtain ⟨h1, h2, h3⟩ := hp p (by simp)
    rw [printG_cons] at hf ⊢
    rw [linesR_step h2 h1, lines_back f (n + 1) ps (fun q hq => hp q (List.mem_cons_of_mem _ hq)) (by simp at hf; omega)]
end Go.Proofs.YtcbdmaelgedbkaaGreatDoor
