/- Walks: script.split at an api.Errno; script.line. -/
import Derived.Test.YtcbdmaelgedbkaaGreatDoorScrC
namespace Go.Proofs.YtcbdmaelgedbkaaGreatDoor
open Go.RowKit Go.Shelf

set_option maxRecDepth 100000 in
set_option maxHeartbeats 1000000 in
theorem split_big (w : World) (he : Env w) :
    Calls Tryz.prog 20 #[.iface 24 (.int .i64 15)] w fun e w' => e = .returned (.tuple #[.int .i64 0, .int .i64 15]) ∧ Below w.heap.size w w' := by
  have hlt := he.powLt
  go_enter Tryz.func20, Tryz.ntmps20
  go_wp2_with fail
  refine (as_miss 15 _ _ (he.below ((Below.refl _ _).alloc (Nat.le_refl _) _)).ety (by simp)).mono ?_
  rintro e w1 ⟨rfl, hb1⟩
  go_wp2_with fail
  refine (is_big _).mono ?_
  rintro e w2 ⟨rfl, rfl⟩
  go_wp2_with fail
  go_ret2
  exact ⟨rfl, ((Below.refl _ _).alloc (Nat.le_refl _) _).trans (hb1.mono (by simp))⟩
set_option maxRecDepth 100000 in
set_option maxHeartbeats 1000000 in
theorem split_arg (w : World) (he : Env w) :
    Calls Tryz.prog 20 #[.iface 24 (.int .i64 2)] w fun e w' => e = .returned (.tuple #[.int .i64 0, .int .i64 2]) ∧ Below w.heap.size w w' := by
  have hlt := he.powLt
  go_enter Tryz.func20, Tryz.ntmps20
  go_wp2_with fail
  refine (as_miss 2 _ _ (he.below ((Below.refl _ _).alloc (Nat.le_refl _) _)).ety (by simp)).mono ?_
  rintro e w1 ⟨rfl, hb1⟩
  go_wp2_with fail
  refine (is_arg _).mono ?_
  rintro e w2 ⟨rfl, rfl⟩
  go_wp2_with fail
  go_ret2
  exact ⟨rfl, ((Below.refl _ _).alloc (Nat.le_refl _) _).trans (hb1.mono (by simp))⟩

/-- The kinds: their names, and the letters of what each has. -/
def kindsT : List (List UInt8 × List UInt8) := [
  ([111, 112, 101, 110], [80, 75, 77]),
  ([99, 108, 111, 115, 101], [75]),
  ([114, 101, 97, 100], [75, 77]),
  ([119, 114, 105, 116, 101], [75, 66]),
  ([115, 101, 101, 107], [75, 77, 78]),
  ([99, 117, 116], [80, 77]),
  ([109, 107, 100, 105, 114], [80, 77]),
  ([115, 121, 109, 108, 105, 110, 107], [80, 65]),
  ([114, 101, 108, 105, 110, 107], [80]),
  ([108, 105, 110, 107], [80, 65]),
  ([117, 110, 108, 105, 110, 107], [80]),
  ([114, 109, 100, 105, 114], [80]),
  ([114, 101, 110, 97, 109, 101], [80, 65]),
  ([108, 105, 115, 116], [80]),
  ([115, 116, 97, 116], [80, 75]),
  ([99, 104, 109, 111, 100], [80, 77]),
  ([117, 116, 105, 109, 101, 115], [80, 77]),
  ([112, 111, 108, 105, 99, 121], [80, 77, 75]),
  ([116, 105, 99, 107], [77]),
  ([97, 100, 100], [75]),
  ([114, 101, 109, 111, 118, 101], [75]),
  ([115, 121, 110, 99], []),
  ([99, 114, 97, 115, 104], [76]),
  ([108, 105, 109, 105, 116], [77]),
  ([116, 97, 109, 112, 101, 114], [77, 75]),
  ([119, 101, 97, 114], [77])]
def kindText (x : List UInt8 × List UInt8) : List UInt8 := x.1 ++ (if x.2 = [] then [] else 32 :: x.2)

set_option maxRecDepth 100000 in
set_option maxHeartbeats 1000000 in
theorem names_any (w : World) :
    Calls Tryz.prog 41 #[] w fun e w' => e = .returned (.slice (some ⟨w.heap.size, 0, none⟩) 26 26) ∧ Below w.heap.size w w' ∧ w'.heap.size = w.heap.size + 1 ∧ ∀ j x, kindsT[j]? = some x → w'.cell? ⟨w.heap.size, j, none⟩ = some (.string ⟨(kindText x).toArray⟩) := by
  go_enter Tryz.func41, Tryz.ntmps41
  go_wp2
  go_ret
  refine ⟨rfl, (Below.refl _ _).alloc (Nat.le_refl _) _, by simp, ?_⟩
  intro j x hj
  rw [World.cell?_alloc_at _ _ _ _ rfl]
  refine (congrArg (fun c : Array Value => c[j]?) (show _ = (kindsT.map fun x => Value.string ⟨(kindText x).toArray⟩).toArray from by kernel_rfl)).trans ?_
  simp [hj]
end Go.Proofs.YtcbdmaelgedbkaaGreatDoor
