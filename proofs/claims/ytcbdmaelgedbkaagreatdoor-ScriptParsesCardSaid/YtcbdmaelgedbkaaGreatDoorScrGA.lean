/- Walks: the law's awake; plain words of small. -/
import Derived.Test.YtcbdmaelgedbkaaGreatDoorScrF
namespace Go.Proofs.YtcbdmaelgedbkaaGreatDoor
open Go.RowKit Go.Shelf

/-- A deed as it came in: nothing is asked of its sizes. -/
structure RDeed.Raw (w : World) (d : RDeed) : Prop where
  rb : RdS encB w d.bv d.b
  rk : RdS encI w d.kv d.keep
  kind : I64 d.kind
  n : I64 d.n
  m : I64 d.m
  k : I64 d.k
  path : d.path.size ≤ 9223372036854775807
  as_ : d.as_.size ≤ 9223372036854775807
  keep : ∀ x ∈ d.keep, I64 x
theorem RDeed.Raw.below {w w' : World} {d : RDeed} (h : d.Raw w) (hb : Below w.heap.size w w') : d.Raw w' := { h with rb := h.rb.below hb, rk := h.rk.below hb }
def smallD (d : RDeed) : Bool := decide (d.path.size ≤ 2000) && decide (d.as_.size ≤ 500) && decide (d.b.length ≤ 2000) && decide (d.keep.length ≤ 40)
def smallR (ds : List RDeed) : Bool := decide (ds.length ≤ 20) && ds.all smallD
theorem smallD_iff {d : RDeed} : smallD d = true ↔ d.path.size ≤ 2000 ∧ d.as_.size ≤ 500 ∧ d.b.length ≤ 2000 ∧ d.keep.length ≤ 40 := by
  simp [smallD, and_assoc]
theorem RDeed.Raw.in {w : World} {d : RDeed} (h : d.Raw w) (hs : smallD d = true) : d.In w := by
  obtain ⟨h1, h2, h3, h4⟩ := smallD_iff.1 hs
  exact ⟨h.rb, h.rk, h.kind, h.n, h.m, h.k, by omega, by omega, by omega, by omega, h.keep⟩
theorem rdS_len {α : Type} {enc : α → Value} {w : World} {v : Value} {xs : List α} (h : RdS enc w v xs) : ∃ a c, v = .slice a xs.length c := by
  rcases h with ⟨h, rfl⟩ | ⟨a, c, h, rfl⟩ | ⟨b, off, c, h, -⟩
  · exact ⟨_, _, h⟩
  · exact ⟨_, _, h⟩
  · exact ⟨_, _, h⟩
theorem smallR_bad {ds : List RDeed} {k : Nat} {d : RDeed} (hk : ds[k]? = some d) (h : ¬ (d.path.size ≤ 2000 ∧ d.as_.size ≤ 500 ∧ d.b.length ≤ 2000 ∧ d.keep.length ≤ 40)) : smallR ds = false := by
  unfold smallR
  rw [List.all_eq_false.2 ⟨d, List.mem_of_getElem? hk, fun e => h (smallD_iff.1 e)⟩, Bool.and_false]
theorem rdDeeds_open {w : World} {v : Value} {ds : List RDeed} (hr : RdDeeds w v ds) : ∃ (av : Option Addr) (cv : Nat), v = .slice av ds.length cv ∧ ∀ k d, ds[k]? = some d → ∃ b off, av = some ⟨b, off, none⟩ ∧ b < w.heap.size ∧ ∀ i u, d.cells[i]? = some u → w.cell? ⟨b, off + k * 8 + i, none⟩ = some u := by
  rcases hr with ⟨rfl, rfl⟩ | ⟨a, c, rfl, rfl⟩ | ⟨b, off, c, h1, h2, h3, h4⟩
  · exact ⟨none, 0, rfl, fun k d hk => by simp at hk⟩
  · exact ⟨some a, c, rfl, fun k d hk => by simp at hk⟩
  · exact ⟨_, _, h1, fun k d hk => ⟨b, off, rfl, h2, h4 k d hk⟩⟩

def awakeD : RDeed := ⟨6, 0, 493, 0, ⟨#[47, 97, 32, 98]⟩, ⟨#[]⟩, .slice none 0 0, .slice none 0 0, [], []⟩
theorem awake_text : printR [awakeD] = (0, [109, 107, 100, 105, 114, 32, 47, 97, 37, 50, 48, 98, 32, 52, 57, 51, 10]) := by kernel_rfl

set_option maxRecDepth 100000 in
set_option maxHeartbeats 4000000 in
theorem awake_any (w : World) (he : Env w) :
    Calls Tryz.prog 5 #[] w fun e w' => e = .returned (.bool true) ∧ Below w.heap.size w w' := by
  go_enter Tryz.func5, Tryz.ntmps5
  go_wp2_with fail
  refine (print_any _ [awakeD] _ (.inr <| .inr ⟨w.heap.size, 0, 1, rfl, by simp, by simp, ?hc⟩) (by simp) ?hd (he.below ((Below.refl _ _).alloc (Nat.le_refl _) _))).mono ?_
  case hc =>
    intro j d hj i u hu
    cases j with
    | succ j => simp at hj
    | zero =>
      simp at hj; subst hj
      rw [World.cell?_alloc_at _ _ _ _ rfl]
      simpa [RDeed.cells, awakeD] using hu
  case hd =>
    intro d hd
    obtain rfl := List.mem_singleton.1 hd
    refine ⟨.inl ⟨rfl, rfl⟩, .inl ⟨rfl, rfl⟩, ?_, ?_, ?_, ?_, by decide, by decide, by decide, by decide, by simp [awakeD]⟩ <;> (unfold I64 awakeD; simp)
  rintro e w1 ⟨rfl, hb1⟩
  rw [awake_text]
  go_wp2_with fail
  go_ret
  exact ⟨rfl, ((Below.refl _ _).alloc (Nat.le_refl _) _).trans (hb1.mono (by simp))⟩
end Go.Proofs.YtcbdmaelgedbkaaGreatDoor
