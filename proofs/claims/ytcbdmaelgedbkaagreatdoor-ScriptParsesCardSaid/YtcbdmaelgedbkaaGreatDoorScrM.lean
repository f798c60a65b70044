/- Walks of the reference's Has, Names, Only, Same. -/
import Derived.Test.YtcbdmaelgedbkaaGreatDoorScrGA
namespace Go.Proofs.YtcbdmaelgedbkaaGreatDoor
open Go.RowKit Go.Shelf

/-- What each kind has: 1 Path, 2 As, 3 N, 4 M, 5 K, 6 B, 7 Keep. -/
def hasT : List (List Int) := [[1, 5, 4], [5], [5, 4], [5, 6], [5, 4, 3], [1, 4], [1, 4], [1, 2], [1], [1, 2], [1], [1], [1, 2], [1], [1, 5], [1, 4], [1, 4], [1, 4, 5], [4], [5], [5], [], [7], [4], [4, 5], [4]]
def hasL (k : Nat) : List Int := hasT[k]?.getD []

set_option maxRecDepth 100000 in
set_option maxHeartbeats 4000000 in
theorem has_any (k : Nat) (hk : k < 26) (w : World) :
    Calls Tryz.prog 26 #[.int .i64 k] w fun e w' => ∃ v, e = .returned v ∧ RdS encI w' v (hasL k) ∧ Below w.heap.size w w' ∧ (v = .slice none 0 0 ∨ ∃ n c, v = .slice (some ⟨w.heap.size, 0, none⟩) n c) := by
  have hk' : k = 0 ∨ k = 1 ∨ k = 2 ∨ k = 3 ∨ k = 4 ∨ k = 5 ∨ k = 6 ∨ k = 7 ∨ k = 8 ∨ k = 9 ∨ k = 10 ∨ k = 11 ∨ k = 12 ∨ k = 13 ∨ k = 14 ∨ k = 15 ∨ k = 16 ∨ k = 17 ∨ k = 18 ∨ k = 19 ∨ k = 20 ∨ k = 21 ∨ k = 22 ∨ k = 23 ∨ k = 24 ∨ k = 25 := by omega
  rcases hk' with rfl | rfl | rfl | rfl | rfl | rfl | rfl | rfl | rfl | rfl | rfl | rfl | rfl | rfl | rfl | rfl | rfl | rfl | rfl | rfl | rfl | rfl | rfl | rfl | rfl | rfl
  all_goals
    go_enter Tryz.func26, Tryz.ntmps26
    go_wp2
    go_ret
    refine ⟨_, rfl, ?_, ?_, ?_⟩
    · first
        | exact .inl ⟨rfl, rfl⟩
        | (refine .inr (.inr ⟨w.heap.size, 0, _, rfl, by simp, Nat.le_refl _, fun j y hj => ?_⟩)
           rw [World.cell?_alloc_at _ _ _ _ rfl, Nat.zero_add]
           match j, hj with
           | 0, hj => cases hj; rfl
           | 1, hj => first | (cases hj; rfl) | cases hj
           | 2, hj => first | (cases hj; rfl) | cases hj
           | j + 3, hj => cases hj)
    · first | exact Below.refl _ _ | exact (Below.refl _ _).alloc (Nat.le_refl _) _
    · first | exact .inl rfl | exact .inr ⟨_, _, rfl⟩

set_option maxRecDepth 100000 in
set_option maxHeartbeats 1000000 in
theorem refNames_any (w : World) :
    Calls Tryz.prog 25 #[] w fun e w' => e = .returned (.slice (some ⟨w.heap.size, 0, none⟩) 26 26) ∧ Below w.heap.size w w' ∧ w'.heap.size = w.heap.size + 1 ∧ ∀ j x, kindsT[j]? = some x → w'.cell? ⟨w.heap.size, j, none⟩ = some (.string ⟨x.1.toArray⟩) := by
  go_enter Tryz.func25, Tryz.ntmps25
  go_wp2
  go_ret
  refine ⟨rfl, (Below.refl _ _).alloc (Nat.le_refl _) _, by simp, ?_⟩
  intro j x hj
  rw [World.cell?_alloc_at _ _ _ _ rfl]
  refine (congrArg (fun c : Array Value => c[j]?) (show _ = (kindsT.map fun x => Value.string ⟨x.1.toArray⟩).toArray from by kernel_rfl)).trans ?_
  simp [hj]

end Go.Proofs.YtcbdmaelgedbkaaGreatDoor
