/- The walk of script.outcome. -/
import Derived.Test.YtcbdmaelgedbkaaGreatDoorScrW
import Derived.Test.YtcbdmaelgedbkaaGreatDoorScrO
namespace Go.Proofs.YtcbdmaelgedbkaaGreatDoor
open Go.RowKit Go.Shelf

/-- An outcome: the error, the number, the text, the names. -/
structure POut where
  err : Int
  n : Int
  text : List UInt8
  names : List (List UInt8)
def errorL : List UInt8 := [101, 114, 114, 111, 114]
def okL : List UInt8 := [111, 107]
def out2 (a b : List UInt8) : Option POut := if a = errorL then match numR b with
    | some n => if 1 ≤ n then some ⟨n, 0, [], []⟩ else none
    | none => none
  else none
def textsR : List (List UInt8) → Option (List (List UInt8))
  | [] => some []
  | x :: r => match textR x with
    | some t => (textsR r).map (t :: ·)
    | none => none
theorem textsR_snoc : ∀ {l ns : List (List UInt8)} {x t : List UInt8}, textsR l = some ns → textR x = some t → textsR (l ++ [x]) = some (ns ++ [t])
  | [], ns, x, t, h, hx => by
    obtain rfl := Option.some.inj h
    simp [textsR, hx]
  | y :: l, ns, x, t, h, hx => by
    unfold textsR at h
    rw [List.cons_append]; unfold textsR
    cases hy : textR y with
    | none => rw [hy] at h; cases h
    | some u =>
      rw [hy] at h
      simp only [Option.map_eq_some_iff] at h
      obtain ⟨m, hm, rfl⟩ := h
      simp only [textsR_snoc hm hx]; rfl
theorem textsR_bad : ∀ {l : List (List UInt8)} {x : List UInt8}, x ∈ l → textR x = none → textsR l = none
  | y :: l, x, hm, hx => by
    unfold textsR
    rcases List.mem_cons.1 hm with rfl | hm
    · rw [hx]
    · cases textR y with
      | none => rfl
      | some u => simp only [textsR_bad hm hx]; rfl
def out4 (a b c d : List UInt8) (r : List (List UInt8)) : Option POut := if a = okL then match numR b with
    | some n => match textR c with
      | some t => if d = Lib.itoa r.length then (textsR r).map fun ns => ⟨0, n, t, ns⟩ else none
      | none => none
    | none => none
  else none
def outW : List (List UInt8) → Option POut
  | [a, b] => out2 a b
  | a :: b :: c :: d :: r => out4 a b c d r
  | _ => none
/-- What a line says. -/
def outcomeR (l : List UInt8) : Option POut := outW (spl 32 l)

def zOut : Value := .agg #[.int .i64 0, .int .i64 0, .string ⟨#[]⟩, .slice none 0 0]
/-- What script.outcome comes to. -/
def NamesAt (w : World) (v : Value) (ns : List (List UInt8)) : Prop :=
  ∃ A n c, v = .slice A n c ∧ RdS encStr w v ns ∧ ∀ b o, A = some ⟨b, o, none⟩ → ∃ cs, w.heap[b]? = some (.cells cs 9 (0, 0))
theorem NamesAt.nil (w : World) : NamesAt w (.slice none 0 0) [] := ⟨none, 0, 0, rfl, .inl ⟨rfl, rfl⟩, fun b o h => (by cases h)⟩
theorem NamesAt.below {w w' : World} {v : Value} {ns : List (List UInt8)} (h : NamesAt w v ns) (hb : Below w.heap.size w w') : NamesAt w' v ns := by
  obtain ⟨A, n, c, h1, h2, h3⟩ := h
  refine ⟨A, n, c, h1, h2.below hb, fun b o e => ?_⟩
  obtain ⟨cs, h4⟩ := h3 b o e
  exact ⟨cs, (hb.block _ (heap_lt h4)).trans h4⟩
theorem NamesAt.grown {w w' : World} {v : Value} {ns : List (List UInt8)} (h : NamesAt w v ns) {row : Option Nat} (hg : w.grownBy w' row) (hr : ∀ q cs, row = some q → w.heap[q]? ≠ some (.cells cs 9 (0, 0))) : NamesAt w' v ns := by
  obtain ⟨A, n, c, h1, h2, h3⟩ := h
  have hk : ∀ b o, A = some ⟨b, o, none⟩ → b < w.heap.size ∧ w'.heap[b]? = w.heap[b]? := fun b o e => by
    obtain ⟨cs, h4⟩ := h3 b o e
    exact ⟨heap_lt h4, hg.block b (heap_lt h4) (fun e2 => hr b cs e2.symm h4)⟩
  refine ⟨A, n, c, h1, ?_, fun b o e => by rw [(hk b o e).2]; exact h3 b o e⟩
  rcases h2 with h2 | h2 | ⟨b, o, c', e1, e2, e3, e4⟩
  · exact .inl h2
  · exact .inr (.inl h2)
  · rw [h1] at e1
    obtain ⟨rfl, rfl, rfl⟩ := (by simpa using e1 : A = some ⟨b, o, none⟩ ∧ n = ns.length ∧ c = c')
    refine .inr (.inr ⟨b, o, c, h1, Nat.lt_of_lt_of_le e2 hg.size, e3, fun j x hj => ?_⟩)
    exact (World.cell?_of_block (a := ⟨b, o + j, none⟩) (hk b o rfl).2).trans (e4 j x hj)
def OutP (o : Option POut) (w : World) (e : Ending) (w' : World) : Prop :=
  (o = none → e = .returned (.tuple #[zOut, argV])) ∧
  (∀ p, o = some p → ∃ A n c, e = .returned (.tuple #[.agg #[.int .i64 p.err, .int .i64 p.n, .string ⟨p.text.toArray⟩, .slice A n c], .nilIface]) ∧ NamesAt w' (.slice A n c) p.names ∧ I64 p.err ∧ I64 p.n) ∧ Below w.heap.size w w'

theorem box4 {w : World} {b : Nat} {t : TypeId} {v0 v1 v2 v3 : Value} (h : w.heap[b]? = some (.cells #[v0, v1, v2, v3] t (0, 0))) :
    (w.cell? ⟨b, 0, none⟩ = some v0 ∧ w.cell? ⟨b, 1, none⟩ = some v1 ∧ w.cell? ⟨b, 2, none⟩ = some v2 ∧ w.cell? ⟨b, 3, none⟩ = some v3) ∧
    (w.frozen? ⟨b, 0, none⟩ = false ∧ w.frozen? ⟨b, 1, none⟩ = false ∧ w.frozen? ⟨b, 2, none⟩ = false ∧ w.frozen? ⟨b, 3, none⟩ = false) := by
  refine ⟨by simp [World.cell?, h], frozen_box h 0, frozen_box h 1, frozen_box h 2, frozen_box h 3⟩

set_option maxRecDepth 100000 in
set_option maxHeartbeats 4000000 in
theorem outcome_2 (s : ByteArray) (a b : List UInt8) (w : World) (hs : s.size ≤ 100000) (he : EnvT w) (hw : spl 32 s.data.toList = [a, b]) (ha : a = errorL) :
    Calls Tryz.prog 19 #[.string s] w (OutP (out2 a b) w) := by
  have hbl : b.length ≤ 100000 := by
    have h1 := join_spl 32 s.data.toList
    rw [hw, join_two, Lib.join_one] at h1
    have := congrArg List.length h1
    rw [List.length_append, List.length_cons, ← Lib.size_eq] at this
    omega
  obtain ⟨R, hR⟩ : ∃ R, out2 a b = R := ⟨_, rfl⟩
  rw [hR]
  have hR2 : R = match numR b with | some n => if 1 ≤ n then some ⟨n, 0, [], []⟩ else none | none => none := by rw [← hR]; unfold out2; rw [if_pos ha]
  have HR := Lib.hid hR2; have HE := Lib.hid he; have HW := Lib.hid hw; have HA := Lib.hid ha
  clear hR hR2 he hw ha
  go_enter Tryz.func19, Tryz.ntmps19
  go_wp2_with fail
  refine (split_any s _ (by omega) (HE.out.env.below ((Below.refl _ _).alloc (Nat.le_refl _) _))).mono ?_
  rw [HW.out]
  rintro e w1 ⟨rfl, hb1, hz1, hc1⟩
  have q0 := hc1 0 a rfl
  have q1 := hc1 1 b rfl
  rw [HA.out] at q0
  have hres : w1.heap[w.heap.size]? = some (.cells #[.int .i64 0, .int .i64 0, .string ⟨#[]⟩, .slice none 0 0] 27 (0, 0)) := (hb1.block _ (by simp)).trans (heap_alloc_new w _)
  have hbel : Below w.heap.size w w1 := ((Below.refl _ _).alloc (Nat.le_refl _) _).trans (hb1.mono (by simp))
  have HRS := Lib.hid hres; have HB := Lib.hid hbel
  clear hc1 hz1 hb1 hres hbel
  simp only [World.size_alloc, errorL] at q0 q1
  go_wp2_with fail
  refine (number_any _ w1 (by simp [ByteArray.size]; omega) (HE.out.below HB.out)).mono ?_
  rintro e w2 ⟨rfl, hb2⟩
  have hres : w2.heap[w.heap.size]? = some (.cells #[.int .i64 0, .int .i64 0, .string ⟨#[]⟩, .slice none 0 0] 27 (0, 0)) := (hb2.block _ (heap_lt HRS.out)).trans HRS.out
  obtain ⟨⟨c0, c1, c2, c3⟩, f0, f1, f2, f3⟩ := box4 hres
  have HB2 : Hid (Below w.heap.size w w2) := HB.out.trans (hb2.mono HB.out.size)
  clear hb2 q0 q1 hres HRS
  rw [show (⟨b.toArray⟩ : ByteArray).data.toList = b from rfl]
  cases hn : numR b with
  | none =>
    have HN : Hid (R = none) := by unfold Hid; rw [HR.out, hn]
    clear hn
    simp only [numV, argV]
    go_wp2_with fail
    refine bodyPost_ret (v := .tuple #[zOut, argV]) (by simp [results, Tryz.results19, go_sem, zOut, argV, c0, c1, c2, c3, f0, f1, f2, f3]) rfl ⟨fun _ => rfl, fun p hp => (by rw [HN.out] at hp; cases hp), ?_⟩
    iterate 4 (refine Below.setCell ?_ (by simp) _)
    exact HB2.out
  | some n =>
    simp only [numV]
    by_cases h1 : 1 ≤ n
    · have HN : Hid (R = some ⟨n, 0, [], []⟩) := by unfold Hid; rw [HR.out, hn]; simp [h1]
      have hni : Hid (I64 n) := (numR_some hn).2
      clear hn
      go_wp2_with fail
      refine bodyPost_ret (v := .tuple #[.agg #[.int .i64 n, .int .i64 0, .string ⟨#[]⟩, .slice none 0 0], .nilIface]) (by simp [results, Tryz.results19, go_sem, c0, c1, c2, c3, f0, f1, f2, f3]) rfl ⟨fun hp => (by rw [HN.out] at hp; cases hp), fun p hp => ?_, ?_⟩
      · rw [HN.out] at hp
        obtain rfl := Option.some.inj hp
        exact ⟨_, _, _, rfl, NamesAt.nil _, hni.out, by unfold I64; simp⟩
      · iterate 4 (refine Below.setCell ?_ (by simp) _)
        exact HB2.out
    · have HN : Hid (R = none) := by unfold Hid; rw [HR.out, hn]; simp [h1]
      have h1' : n < 1 := by omega
      clear hn h1
      go_wp2_with fail
      refine bodyPost_ret (v := .tuple #[zOut, argV]) (by simp [results, Tryz.results19, go_sem, zOut, argV, c0, c1, c2, c3, f0, f1, f2, f3]) rfl ⟨fun _ => rfl, fun p hp => (by rw [HN.out] at hp; cases hp), ?_⟩
      iterate 4 (refine Below.setCell ?_ (by simp) _)
      exact HB2.out
end Go.Proofs.YtcbdmaelgedbkaaGreatDoor
