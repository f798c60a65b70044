/- Walks: errors.Is at a *script.fault; script.split there. -/
import Derived.Test.YtcbdmaelgedbkaaGreatDoorScrZA
namespace Go.Proofs.YtcbdmaelgedbkaaGreatDoor
open Go.RowKit Go.Shelf Go.Extern.Stop Go.Stop Go.Extern

theorem noIsP (v : Value) (xT : TypeId) (w : World) : (Instr.typeAssert (.iface 77 v) xT 131 true).run Tryz.prog w = .ok (.tuple #[.nilIface, .bool false]) w :=
  run_typeAssert_lacksB Tryz.underlying131 (by kernel_rfl) (by kernel_rfl) v xT w
theorem hasUnwrapP (v : Value) (w : World) : (Instr.typeAssert (.iface 77 v) 49 126 true).run Tryz.prog w = .ok (.tuple #[.iface 77 v, .bool true]) w := by kernel_rfl
theorem mUnwrap (b : Nat) (w : World) : (Go.method 300 77 (.pointer (some ⟨b, 0, none⟩)) "Unwrap").run Tryz.prog w = .ok (125, .pointer (some ⟨b, 0, none⟩)) w := by kernel_rfl
theorem unwrap_any (b : Nat) (w : World) (hc : w.cell? ⟨b, 1, none⟩ = some argV) :
    Calls Tryz.prog 125 #[.pointer (some ⟨b, 0, none⟩)] w fun e w' => e = .returned argV ∧ w = w' := by
  unfold argV at *
  go_enter Tryz.func125, Tryz.ntmps125
  go_wp2
  go_ret
  exact ⟨rfl, rfl⟩
set_option maxRecDepth 100000 in
set_option maxHeartbeats 1000000 in
theorem is_fault (b : Nat) (w : World) (hc : w.cell? ⟨b, 1, none⟩ = some argV) :
    Calls Tryz.prog 39 #[.iface 77 (.pointer (some ⟨b, 0, none⟩)), .iface 24 (.int .i64 15)] w fun e w' => e = .returned (.bool false) ∧ w = w' := by
  have tO := cTypeOf
  have n1 := noIs; have n2 := noUnwrap; have n3 := noUnwraps
  have n4 := noIsP; have n5 := hasUnwrapP; have m5 := mUnwrap
  have mc := mComparable
  have h88 := cComparable
  have heq : ∀ w : World, (binOp .eql 49 (.iface 24 (.int .i64 2)) (.iface 24 (.int .i64 15))).run Tryz.prog w = .ok (.bool false) w := fun w => by kernel_rfl
  have heq2 : ∀ (w : World), (binOp .eql 49 (.iface 77 (.pointer (some ⟨b, 0, none⟩))) (.iface 24 (.int .i64 15))).run Tryz.prog w = .ok (.bool false) w := fun w => by kernel_rfl
  have HC := Lib.hid hc; clear hc
  go_enter Tryz.func39, Tryz.ntmps39
  go_wp2
  refine wp_loop_rounds 2 ?_
  rw [rounds_succ]
  go_wp2_with fail
  refine (unwrap_any b w HC.out).mono ?_
  rintro e w1 ⟨rfl, rfl⟩
  unfold argV
  go_wp2_with fail
  rw [rounds_succ]
  go_wp2_with fail
  go_ret
  exact ⟨rfl, rfl⟩
set_option maxRecDepth 100000 in
set_option maxHeartbeats 1000000 in
theorem split_fault (fb : Nat) (n : Int) (w : World) (he : Env w) (hb : w.heap[fb]? = some (.cells #[.int .i64 n, argV] 79 (0, 0))) :
    Calls Tryz.prog 20 #[.iface 77 (.pointer (some ⟨fb, 0, none⟩))] w fun e w' => e = .returned (.tuple #[.int .i64 n, .int .i64 2]) ∧ Below w.heap.size w w' := by
  have hlt := he.powLt
  have hfb := heap_lt hb
  have hety := (he.below ((Below.refl _ _).alloc (Nat.le_refl _) (.cells #[.pointer none] 77))).ety
  have HB := Lib.hid hb; clear hb
  go_enter Tryz.func20, Tryz.ntmps20
  go_wp2_with fail
  refine (as_hit ⟨fb, 0, none⟩ ⟨w.heap.size, 0, none⟩ (.pointer none) _ hety (by simp) (by simp)).mono ?_
  rintro e w1 ⟨rfl, hw1⟩
  have hbel : Below w.heap.size w w1 := by
    rw [hw1]
    refine Below.setCell ?_ (by simp) _
    exact (((((Below.refl _ _).alloc (Nat.le_refl _) _).alloc (by simp) _).alloc (by simp; omega) _).alloc (by simp; omega) _).alloc (by simp; omega) _
  have hc0 : w1.cell? ⟨w.heap.size, 0, none⟩ = some (.pointer (some ⟨fb, 0, none⟩)) := by
    rw [hw1]
    refine World.cell?_setCell_same' _ _ _ ?_
    rw [World.cell?_alloc_lt _ _ ⟨w.heap.size, 0, none⟩ (by simp; omega), World.cell?_alloc_lt _ _ ⟨w.heap.size, 0, none⟩ (by simp; omega), World.cell?_alloc_lt _ _ ⟨w.heap.size, 0, none⟩ (by simp; omega), World.cell?_alloc_lt _ _ ⟨w.heap.size, 0, none⟩ (by simp)]
    simp
  have hf1 : w1.heap[fb]? = some (.cells #[.int .i64 n, argV] 79 (0, 0)) := (hbel.block _ hfb).trans HB.out
  have hfc : w1.cell? ⟨fb, 0, none⟩ = some (.int .i64 n) := by simp [World.cell?, hf1]
  have hfc1 : w1.cell? ⟨fb, 1, none⟩ = some argV := by simp [World.cell?, hf1]
  have HFC := Lib.hid hfc1
  clear hw1 hf1 hfc1
  go_wp2_with fail
  refine (is_fault fb w1 HFC.out).mono ?_
  rintro e w2 ⟨rfl, rfl⟩
  go_wp2_with fail
  go_ret2
  exact ⟨rfl, hbel⟩
end Go.Proofs.YtcbdmaelgedbkaaGreatDoor
