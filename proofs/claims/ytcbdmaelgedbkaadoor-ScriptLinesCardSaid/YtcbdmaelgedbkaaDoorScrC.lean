/- Walks: errors.Is, errors.As at an api.Errno; script.split. -/
import Derived.Test.YtcbdmaelgedbkaaDoorScrB
import Derived.LaidEql
import Derived.Stop.Asserts
import Derived.RowKitTokens
namespace Go.Proofs.YtcbdmaelgedbkaaDoor
open Go.RowKit Go.Shelf Go.Extern.Stop Go.Stop Go.Extern

theorem noIs (v : Value) (xT : TypeId) (w : World) : (Instr.typeAssert (.iface 25 v) xT 97 true).run Tryd.prog w = .ok (.tuple #[.nilIface, .bool false]) w :=
  run_typeAssert_lacksB Tryd.underlying97 (by kernel_rfl) (by kernel_rfl) v xT w
theorem noAs (v : Value) (xT : TypeId) (w : World) : (Instr.typeAssert (.iface 25 v) xT 89 true).run Tryd.prog w = .ok (.tuple #[.nilIface, .bool false]) w :=
  run_typeAssert_lacksB Tryd.underlying89 (by kernel_rfl) (by kernel_rfl) v xT w
theorem noUnwrap (v : Value) (xT : TypeId) (w : World) : (Instr.typeAssert (.iface 25 v) xT 92 true).run Tryd.prog w = .ok (.tuple #[.nilIface, .bool false]) w :=
  run_typeAssert_lacksB Tryd.underlying92 (by kernel_rfl) (by kernel_rfl) v xT w
theorem noUnwraps (v : Value) (xT : TypeId) (w : World) : (Instr.typeAssert (.iface 25 v) xT 94 true).run Tryd.prog w = .ok (.tuple #[.nilIface, .bool false]) w :=
  run_typeAssert_lacksB Tryd.underlying94 (by kernel_rfl) (by kernel_rfl) v xT w

theorem mComparable (h : Value) (w : World) : (Go.method 248 85 (.agg #[h]) "Comparable").run Tryd.prog w = .ok (88, .agg #[h]) w := by kernel_rfl

theorem cTypeOf (v : Value) (w : World) : (callFunc 34 #[.iface 25 v]).run Tryd.prog w = .ok (.value (.iface 85 (.agg #[.pointer (some ⟨5, 25, none⟩)]))) w := by kernel_rfl
theorem cComparable (w : World) : (callFunc 88 #[.agg #[.pointer (some ⟨5, 25, none⟩)]]).run Tryd.prog w = .ok (.value (.bool true)) w := by kernel_rfl

set_option maxRecDepth 100000 in
set_option maxHeartbeats 1000000 in
theorem is_big (w : World) :
    Calls Tryd.prog 22 #[.iface 25 (.int .i64 15), .iface 25 (.int .i64 15)] w fun e w' => e = .returned (.bool true) ∧ w = w' := by
  have tO := cTypeOf
  have n1 := noIs; have n2 := noUnwrap; have n3 := noUnwraps
  have mc := mComparable
  have h88 := cComparable
  have heq : ∀ w : World, (binOp .eql 42 (.iface 25 (.int .i64 15)) (.iface 25 (.int .i64 15))).run Tryd.prog w = .ok (.bool true) w := fun w => by kernel_rfl
  go_enter Tryd.func22, Tryd.ntmps22
  go_wp2
  refine wp_loop_rounds 1 ?_
  rw [rounds_succ]
  go_wp2
  go_ret
  exact ⟨rfl, rfl⟩
set_option maxRecDepth 100000 in
set_option maxHeartbeats 1000000 in
theorem is_arg (w : World) :
    Calls Tryd.prog 22 #[.iface 25 (.int .i64 2), .iface 25 (.int .i64 15)] w fun e w' => e = .returned (.bool false) ∧ w = w' := by
  have tO := cTypeOf
  have n1 := noIs; have n2 := noUnwrap; have n3 := noUnwraps
  have mc := mComparable
  have h88 := cComparable
  have heq : ∀ w : World, (binOp .eql 42 (.iface 25 (.int .i64 2)) (.iface 25 (.int .i64 15))).run Tryd.prog w = .ok (.bool false) w := fun w => by kernel_rfl
  go_enter Tryd.func22, Tryd.ntmps22
  go_wp2
  refine wp_loop_rounds 1 ?_
  rw [rounds_succ]
  go_wp2
  go_ret
  exact ⟨rfl, rfl⟩

/-! errors.As of an api.Errno at a target of type **script.fault: no. -/
theorem vPP (t : Addr) (w : World) : (callFunc 30 #[.iface 57 (.pointer (some t))]).run Tryd.prog w
    = .ok (.value (.agg #[.pointer (some ⟨5, 57, none⟩), .pointer (some ⟨w.heap.size, 0, none⟩), .int .u64 150])) (w.alloc (.cells #[.pointer (some t)] 57)) := by kernel_rfl
theorem tPP (a : Addr) (w : World) : (callFunc 31 #[.agg #[.pointer (some ⟨5, 57, none⟩), .pointer (some a), .int .u64 150]]).run Tryd.prog w
    = .ok (.value (.iface 85 (.agg #[.pointer (some ⟨5, 57, none⟩)]))) w := by kernel_rfl
theorem mKind (h : Value) (w : World) : (Go.method 248 85 (.agg #[h]) "Kind").run Tryd.prog w = .ok (76, h) w := by kernel_rfl
theorem mElem (h : Value) (w : World) : (Go.method 248 85 (.agg #[h]) "Elem").run Tryd.prog w = .ok (89, .agg #[h]) w := by kernel_rfl
theorem mImplements (h : Value) (w : World) : (Go.method 248 85 (.agg #[h]) "Implements").run Tryd.prog w = .ok (90, .agg #[h]) w := by kernel_rfl
theorem mAssignable (h : Value) (w : World) : (Go.method 248 85 (.agg #[h]) "AssignableTo").run Tryd.prog w = .ok (87, .agg #[h]) w := by kernel_rfl
theorem kindPP (w : World) : (callFunc 76 #[.pointer (some ⟨5, 57, none⟩)]).run Tryd.prog w = .ok (.value (.int .u8 22)) w := by kernel_rfl
theorem kindP (w : World) : (callFunc 76 #[.pointer (some ⟨5, 55, none⟩)]).run Tryd.prog w = .ok (.value (.int .u8 22)) w := by kernel_rfl
theorem elemPP (w : World) : (callFunc 89 #[.agg #[.pointer (some ⟨5, 57, none⟩)]]).run Tryd.prog w = .ok (.value (.iface 85 (.agg #[.pointer (some ⟨5, 55, none⟩)]))) w := by kernel_rfl
theorem implP (w : World) : (callFunc 90 #[.agg #[.pointer (some ⟨5, 55, none⟩)], .iface 85 (.agg #[.pointer (some ⟨5, 42, none⟩)])]).run Tryd.prog w = .ok (.value (.bool true)) w := by kernel_rfl
theorem assignE (w : World) : (callFunc 87 #[.agg #[.pointer (some ⟨5, 25, none⟩)], .iface 85 (.agg #[.pointer (some ⟨5, 55, none⟩)])]).run Tryd.prog w = .ok (.value (.bool false)) w := by kernel_rfl
theorem rlm (z : Sem Value) (f : TypeId → Addr → Nat → Nat → Sem Value) (v : Value) :
    ReflectliteValue.method z f #[v] = (do match ← ReflectliteValue.parts v with | none => z | some (t, a, fl) => f t a fl (fl % 32)) := rfl
theorem partsPP (a : Addr) (w : World) : (ReflectliteValue.parts (.agg #[.pointer (some ⟨5, 57, none⟩), .pointer (some a), .int .u64 150])).run Tryd.prog w = .ok (some (57, a, 150)) w := by kernel_rfl
theorem isNilPP (a p : Addr) (W : World) (ha : W.cell? a = some (.pointer (some p))) :
    (callFunc 32 #[.agg #[.pointer (some ⟨5, 57, none⟩), .pointer (some a), .int .u64 150]]).run Tryd.prog W = .ok (.value (.bool false)) W := by
  rw [@run_callFunc_extern Tryd.prog 32 _ (ReflectliteValue.method (ReflectliteValue.valueError "reflectlite.Value.IsNil" 0) ReflectliteValue.isNil) Tryd.func32 (by kernel_rfl) (by kernel_rfl) (by kernel_rfl) (by kernel_rfl)]
  rw [rlm]
  simp only [Sem.run_bind, partsPP, Result.andThen]
  simp [ReflectliteValue.isNil, loadVar, isAgg, underlying, Tryd.underlying57, ha, Result.andThen]

set_option maxRecDepth 100000 in
set_option maxHeartbeats 4000000 in
theorem as_miss (n : Int) (t : Addr) (w : World) (hg : w.cell? ⟨0, 0, none⟩ = some (.iface 85 (.agg #[.pointer (some ⟨5, 42, none⟩)]))) (hlt : 0 < w.heap.size) :
    Calls Tryd.prog 21 #[.iface 25 (.int .i64 n), .iface 57 (.pointer (some t))] w fun e w' => e = .returned (.bool false) ∧ Below w.heap.size w w' := by
  have f1 := vPP; have f2 := tPP; have m1 := mKind; have m2 := mElem; have m3 := mImplements; have m4 := mAssignable
  have k1 := kindPP; have k2 := kindP; have e1 := elemPP; have i1 := implP; have a1 := assignE; have tO := cTypeOf
  have n1 := noAs; have n2 := noUnwrap; have n3 := noUnwraps
  have n8 := isNilPP ⟨w.heap.size, 0, none⟩ t ((w.alloc (.cells #[.pointer (some t)] 57)).alloc (.cells #[.pointer (some ⟨5, 57, none⟩), .pointer (some ⟨w.heap.size, 0, none⟩), .int .u64 150] 69)) (by simp)
  have hg2 : ((w.alloc (.cells #[.pointer (some t)] 57)).alloc (.cells #[.pointer (some ⟨5, 57, none⟩), .pointer (some ⟨w.heap.size, 0, none⟩), .int .u64 150] 69)).cell? ⟨0, 0, none⟩ = some (.iface 85 (.agg #[.pointer (some ⟨5, 42, none⟩)])) := by
    rw [World.cell?_alloc_lt _ _ ⟨0, 0, none⟩ (by simp), World.cell?_alloc_lt _ _ ⟨0, 0, none⟩ hlt]; exact hg
  go_enter Tryd.func21, Tryd.ntmps21
  go_wp2
  refine wp_loop_rounds 1 ?_
  rw [rounds_succ]
  go_wp2
  go_ret
  exact ⟨rfl, ((((Below.refl _ _).alloc (Nat.le_refl _) _).alloc (by simp) _).alloc (by simp; omega) _)⟩

end Go.Proofs.YtcbdmaelgedbkaaDoor
