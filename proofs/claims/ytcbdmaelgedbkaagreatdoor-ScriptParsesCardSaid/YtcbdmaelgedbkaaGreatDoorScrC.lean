/- Walks: errors.Is, errors.As at an api.Errno; script.split. -/
import Derived.Test.YtcbdmaelgedbkaaGreatDoorScrB
import Derived.LaidEql
import Derived.Stop.Asserts
import Derived.RowKitTokens
namespace Go.Proofs.YtcbdmaelgedbkaaGreatDoor
open Go.RowKit Go.Shelf Go.Extern.Stop Go.Stop Go.Extern

theorem noIs (v : Value) (xT : TypeId) (w : World) : (Instr.typeAssert (.iface 24 v) xT 131 true).run Tryz.prog w = .ok (.tuple #[.nilIface, .bool false]) w :=
  run_typeAssert_lacksB Tryz.underlying131 (by kernel_rfl) (by kernel_rfl) v xT w
theorem noAs (v : Value) (xT : TypeId) (w : World) : (Instr.typeAssert (.iface 24 v) xT 123 true).run Tryz.prog w = .ok (.tuple #[.nilIface, .bool false]) w :=
  run_typeAssert_lacksB Tryz.underlying123 (by kernel_rfl) (by kernel_rfl) v xT w
theorem noUnwrap (v : Value) (xT : TypeId) (w : World) : (Instr.typeAssert (.iface 24 v) xT 126 true).run Tryz.prog w = .ok (.tuple #[.nilIface, .bool false]) w :=
  run_typeAssert_lacksB Tryz.underlying126 (by kernel_rfl) (by kernel_rfl) v xT w
theorem noUnwraps (v : Value) (xT : TypeId) (w : World) : (Instr.typeAssert (.iface 24 v) xT 128 true).run Tryz.prog w = .ok (.tuple #[.nilIface, .bool false]) w :=
  run_typeAssert_lacksB Tryz.underlying128 (by kernel_rfl) (by kernel_rfl) v xT w

theorem mComparable (h : Value) (w : World) : (Go.method 300 119 (.agg #[h]) "Comparable").run Tryz.prog w = .ok (131, .agg #[h]) w := by kernel_rfl

theorem cTypeOf (v : Value) (w : World) : (callFunc 59 #[.iface 24 v]).run Tryz.prog w = .ok (.value (.iface 119 (.agg #[.pointer (some ⟨9, 24, none⟩)]))) w := by kernel_rfl
theorem cComparable (w : World) : (callFunc 131 #[.agg #[.pointer (some ⟨9, 24, none⟩)]]).run Tryz.prog w = .ok (.value (.bool true)) w := by kernel_rfl

set_option maxRecDepth 100000 in
set_option maxHeartbeats 1000000 in
theorem is_big (w : World) :
    Calls Tryz.prog 39 #[.iface 24 (.int .i64 15), .iface 24 (.int .i64 15)] w fun e w' => e = .returned (.bool true) ∧ w = w' := by
  have tO := cTypeOf
  have n1 := noIs; have n2 := noUnwrap; have n3 := noUnwraps
  have mc := mComparable
  have h88 := cComparable
  have heq : ∀ w : World, (binOp .eql 49 (.iface 24 (.int .i64 15)) (.iface 24 (.int .i64 15))).run Tryz.prog w = .ok (.bool true) w := fun w => by kernel_rfl
  go_enter Tryz.func39, Tryz.ntmps39
  go_wp2
  refine wp_loop_rounds 1 ?_
  rw [rounds_succ]
  go_wp2
  go_ret
  exact ⟨rfl, rfl⟩
set_option maxRecDepth 100000 in
set_option maxHeartbeats 1000000 in
theorem is_arg (w : World) :
    Calls Tryz.prog 39 #[.iface 24 (.int .i64 2), .iface 24 (.int .i64 15)] w fun e w' => e = .returned (.bool false) ∧ w = w' := by
  have tO := cTypeOf
  have n1 := noIs; have n2 := noUnwrap; have n3 := noUnwraps
  have mc := mComparable
  have h88 := cComparable
  have heq : ∀ w : World, (binOp .eql 49 (.iface 24 (.int .i64 2)) (.iface 24 (.int .i64 15))).run Tryz.prog w = .ok (.bool false) w := fun w => by kernel_rfl
  go_enter Tryz.func39, Tryz.ntmps39
  go_wp2
  refine wp_loop_rounds 1 ?_
  rw [rounds_succ]
  go_wp2
  go_ret
  exact ⟨rfl, rfl⟩

/-! errors.As of an api.Errno at a target of type **script.fault: no. -/
theorem vPP (t : Addr) (w : World) : (callFunc 55 #[.iface 83 (.pointer (some t))]).run Tryz.prog w
    = .ok (.value (.agg #[.pointer (some ⟨9, 83, none⟩), .pointer (some ⟨w.heap.size, 0, none⟩), .int .u64 150])) (w.alloc (.cells #[.pointer (some t)] 83)) := by kernel_rfl
theorem tPP (a : Addr) (w : World) : (callFunc 56 #[.agg #[.pointer (some ⟨9, 83, none⟩), .pointer (some a), .int .u64 150]]).run Tryz.prog w
    = .ok (.value (.iface 119 (.agg #[.pointer (some ⟨9, 83, none⟩)]))) w := by kernel_rfl
theorem mKind (h : Value) (w : World) : (Go.method 300 119 (.agg #[h]) "Kind").run Tryz.prog w = .ok (119, h) w := by kernel_rfl
theorem mElem (h : Value) (w : World) : (Go.method 300 119 (.agg #[h]) "Elem").run Tryz.prog w = .ok (132, .agg #[h]) w := by kernel_rfl
theorem mImplements (h : Value) (w : World) : (Go.method 300 119 (.agg #[h]) "Implements").run Tryz.prog w = .ok (133, .agg #[h]) w := by kernel_rfl
theorem mAssignable (h : Value) (w : World) : (Go.method 300 119 (.agg #[h]) "AssignableTo").run Tryz.prog w = .ok (130, .agg #[h]) w := by kernel_rfl
theorem kindPP (w : World) : (callFunc 119 #[.pointer (some ⟨9, 83, none⟩)]).run Tryz.prog w = .ok (.value (.int .u8 22)) w := by kernel_rfl
theorem kindP (w : World) : (callFunc 119 #[.pointer (some ⟨9, 77, none⟩)]).run Tryz.prog w = .ok (.value (.int .u8 22)) w := by kernel_rfl
theorem elemPP (w : World) : (callFunc 132 #[.agg #[.pointer (some ⟨9, 83, none⟩)]]).run Tryz.prog w = .ok (.value (.iface 119 (.agg #[.pointer (some ⟨9, 77, none⟩)]))) w := by kernel_rfl
theorem implP (w : World) : (callFunc 133 #[.agg #[.pointer (some ⟨9, 77, none⟩)], .iface 119 (.agg #[.pointer (some ⟨9, 49, none⟩)])]).run Tryz.prog w = .ok (.value (.bool true)) w := by kernel_rfl
theorem assignE (w : World) : (callFunc 130 #[.agg #[.pointer (some ⟨9, 24, none⟩)], .iface 119 (.agg #[.pointer (some ⟨9, 77, none⟩)])]).run Tryz.prog w = .ok (.value (.bool false)) w := by kernel_rfl
theorem rlm (z : Sem Value) (f : TypeId → Addr → Nat → Nat → Sem Value) (v : Value) :
    ReflectliteValue.method z f #[v] = (do match ← ReflectliteValue.parts v with | none => z | some (t, a, fl) => f t a fl (fl % 32)) := rfl
theorem partsPP (a : Addr) (w : World) : (ReflectliteValue.parts (.agg #[.pointer (some ⟨9, 83, none⟩), .pointer (some a), .int .u64 150])).run Tryz.prog w = .ok (some (83, a, 150)) w := by kernel_rfl
theorem isNilPP (a p : Addr) (W : World) (ha : W.cell? a = some (.pointer (some p))) :
    (callFunc 57 #[.agg #[.pointer (some ⟨9, 83, none⟩), .pointer (some a), .int .u64 150]]).run Tryz.prog W = .ok (.value (.bool false)) W := by
  rw [@run_callFunc_extern Tryz.prog 57 _ (ReflectliteValue.method (ReflectliteValue.valueError "reflectlite.Value.IsNil" 0) ReflectliteValue.isNil) Tryz.func57 (by kernel_rfl) (by kernel_rfl) (by kernel_rfl) (by kernel_rfl)]
  rw [rlm]
  simp only [Sem.run_bind, partsPP, Result.andThen]
  simp [ReflectliteValue.isNil, loadVar, isAgg, underlying, Tryz.underlying83, ha, Result.andThen]

set_option maxRecDepth 100000 in
set_option maxHeartbeats 4000000 in
theorem as_miss (n : Int) (t : Addr) (w : World) (hg : w.cell? ⟨0, 0, none⟩ = some (.iface 119 (.agg #[.pointer (some ⟨9, 49, none⟩)]))) (hlt : 0 < w.heap.size) :
    Calls Tryz.prog 38 #[.iface 24 (.int .i64 n), .iface 83 (.pointer (some t))] w fun e w' => e = .returned (.bool false) ∧ Below w.heap.size w w' := by
  have f1 := vPP; have f2 := tPP; have m1 := mKind; have m2 := mElem; have m3 := mImplements; have m4 := mAssignable
  have k1 := kindPP; have k2 := kindP; have e1 := elemPP; have i1 := implP; have a1 := assignE; have tO := cTypeOf
  have n1 := noAs; have n2 := noUnwrap; have n3 := noUnwraps
  have n8 := isNilPP ⟨w.heap.size, 0, none⟩ t ((w.alloc (.cells #[.pointer (some t)] 83)).alloc (.cells #[.pointer (some ⟨9, 83, none⟩), .pointer (some ⟨w.heap.size, 0, none⟩), .int .u64 150] 99)) (by simp)
  have hg2 : ((w.alloc (.cells #[.pointer (some t)] 83)).alloc (.cells #[.pointer (some ⟨9, 83, none⟩), .pointer (some ⟨w.heap.size, 0, none⟩), .int .u64 150] 99)).cell? ⟨0, 0, none⟩ = some (.iface 119 (.agg #[.pointer (some ⟨9, 49, none⟩)])) := by
    rw [World.cell?_alloc_lt _ _ ⟨0, 0, none⟩ (by simp), World.cell?_alloc_lt _ _ ⟨0, 0, none⟩ hlt]; exact hg
  go_enter Tryz.func38, Tryz.ntmps38
  go_wp2
  refine wp_loop_rounds 1 ?_
  rw [rounds_succ]
  go_wp2
  go_ret
  exact ⟨rfl, ((((Below.refl _ _).alloc (Nat.le_refl _) _).alloc (by simp) _).alloc (by simp; omega) _)⟩

end Go.Proofs.YtcbdmaelgedbkaaGreatDoor
