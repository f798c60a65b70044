/- Lines of a text: the plain words. -/
import Derived.Test.YtcbdmaelgedbkaaGreatDoorScrW
namespace Go.Proofs.YtcbdmaelgedbkaaGreatDoor
open Go.RowKit Go.Shelf

/-- What stands ahead of the first newline, and behind it. -/
def cutNL : List UInt8 → Option (List UInt8 × List UInt8)
  | [] => none
  | c :: r => if c = 10 then some ([], r) else (cutNL r).map fun p => (c :: p.1, p.2)
theorem cutNL_some : ∀ {l x r : List UInt8}, cutNL l = some (x, r) → l = x ++ 10 :: r ∧ (10 : UInt8) ∉ x
  | c :: l, x, r, h => by
    unfold cutNL at h
    split at h
    · rename_i hc
      obtain ⟨rfl, rfl⟩ := Prod.mk.inj (Option.some.inj h)
      exact ⟨by rw [hc]; rfl, by simp⟩
    · rename_i hc
      simp only [Option.map_eq_some_iff] at h
      obtain ⟨⟨y, z⟩, hy, he⟩ := h
      obtain ⟨rfl, rfl⟩ := Prod.mk.inj he
      obtain ⟨h1, h2⟩ := cutNL_some hy
      refine ⟨by simp only; rw [h1]; rfl, fun hm => ?_⟩
      rcases List.mem_cons.1 hm with h | h
      · exact hc h.symm
      · exact h2 h
theorem cutNL_app : ∀ {x : List UInt8} (r : List UInt8), (10 : UInt8) ∉ x → cutNL (x ++ 10 :: r) = some (x, r)
  | [], r, _ => by rw [List.nil_append, cutNL, if_pos rfl]
  | c :: x, r, h => by
    rw [List.cons_append, cutNL, if_neg (fun e => h (by rw [e]; simp)), cutNL_app r (fun e => h (List.mem_cons_of_mem _ e))]; rfl
theorem cutNL_none : ∀ {l : List UInt8}, (10 : UInt8) ∉ l → cutNL l = none
  | [], _ => rfl
  | c :: l, h => by
    rw [cutNL, if_neg (fun e => h (by rw [e]; simp)), cutNL_none (fun e => h (List.mem_cons_of_mem _ e))]; rfl
/-- What a text's lines are read as; the number of the first that is none. -/
def linesR {α : Type} (each : List UInt8 → Option α) : Nat → Nat → List UInt8 → List α × Option Nat
  | 0, n, _ => ([], some n)
  | f + 1, n, s => if s = [] then ([], none) else match cutNL s with
    | none => ([], some n)
    | some (x, r) => match each x with
      | none => ([], some n)
      | some a => (a :: (linesR each f (n + 1) r).1, (linesR each f (n + 1) r).2)
theorem linesR_nil {α : Type} (each : List UInt8 → Option α) (f n : Nat) (h : 0 < f) : linesR each f n [] = ([], none) := by
  obtain ⟨f, rfl⟩ : ∃ g, f = g + 1 := ⟨f - 1, by omega⟩
  simp [linesR]
theorem linesR_step {α : Type} {each : List UInt8 → Option α} {f n : Nat} {x r : List UInt8} {a : α} (hx : (10 : UInt8) ∉ x) (ha : each x = some a) :
    linesR each (f + 1) n (x ++ 10 :: r) = (a :: (linesR each f (n + 1) r).1, (linesR each f (n + 1) r).2) := by
  rw [linesR, if_neg (by simp), cutNL_app r hx]
  simp only [ha]
theorem linesR_bad {α : Type} {each : List UInt8 → Option α} {f n : Nat} {x r : List UInt8} (hx : (10 : UInt8) ∉ x) (ha : each x = none) : linesR each (f + 1) n (x ++ 10 :: r) = ([], some n) := by
  rw [linesR, if_neg (by simp), cutNL_app r hx]
  simp only [ha]
theorem linesR_cut {α : Type} {each : List UInt8 → Option α} {f n : Nat} {x : List UInt8} (hx : (10 : UInt8) ∉ x) (h0 : x ≠ []) : linesR each (f + 1) n x = ([], some n) := by
  rw [linesR, if_neg h0, cutNL_none hx]
/-- What a line's reading comes to. -/
def EachP {α : Type} (J : List α → World → Prop) (w0 : World) (B : Nat) (pre : List α) (o : Option α) (e : Ending) (W' : World) : Prop :=
  (o = none → e = .returned argV ∧ Below B w0 W') ∧ ∀ a, o = some a → e = .returned .nilIface ∧ J (pre ++ [a]) W'
/-- What script.lines comes to. -/
def LinesP {α : Type} (J : List α → World → Prop) (o : List α × Option Nat) (w : World) (B : Nat) (e : Ending) (w' : World) : Prop :=
  (o.2 = none → e = .returned .nilIface ∧ J o.1 w') ∧
  (∀ n, o.2 = some n → ∃ fb, e = .returned (.iface 77 (.pointer (some ⟨fb, 0, none⟩))) ∧ w'.heap[fb]? = some (.cells #[.int .i64 n, argV] 79 (0, 0)) ∧ Below B w w')
end Go.Proofs.YtcbdmaelgedbkaaGreatDoor
