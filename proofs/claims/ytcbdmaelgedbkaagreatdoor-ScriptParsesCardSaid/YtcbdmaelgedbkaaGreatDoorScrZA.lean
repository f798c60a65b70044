/- Walks: errors.As, errors.Is at a *script.fault; script.split there. -/
import Derived.Test.YtcbdmaelgedbkaaGreatDoorScrZ
import Derived.LaidEql
import Derived.Stop.Asserts
import Derived.RowKitTokens
namespace Go.Proofs.YtcbdmaelgedbkaaGreatDoor
open Go.RowKit Go.Shelf Go.Extern.Stop Go.Stop Go.Extern

theorem typeOfP (v : Value) (w : World) : (callFunc 59 #[.iface 77 v]).run Tryz.prog w = .ok (.value (.iface 119 (.agg #[.pointer (some ⟨9, 77, none⟩)]))) w := by kernel_rfl
theorem assignP (w : World) : (callFunc 130 #[.agg #[.pointer (some ⟨9, 77, none⟩)], .iface 119 (.agg #[.pointer (some ⟨9, 77, none⟩)])]).run Tryz.prog w = .ok (.value (.bool true)) w := by kernel_rfl
theorem valueOfP (e : Addr) (w : World) : (callFunc 55 #[.iface 77 (.pointer (some e))]).run Tryz.prog w
    = .ok (.value (.agg #[.pointer (some ⟨9, 77, none⟩), .pointer (some ⟨w.heap.size, 0, none⟩), .int .u64 150])) (w.alloc (.cells #[.pointer (some e)] 77)) := by kernel_rfl
theorem elemOfPP (w : World) : (Rtype.elem? 83).run Tryz.prog w = .ok (some 77) w := by kernel_rfl
theorem mkP (p : Addr) (w : World) : (ReflectliteValue.mk 77 p ReflectliteValue.flagAddr).run Tryz.prog w = .ok (.agg #[.pointer (some ⟨9, 77, none⟩), .pointer (some p), .int .u64 406]) w := by kernel_rfl
theorem elemVPP (a p : Addr) (W : World) (ha : W.cell? a = some (.pointer (some p))) :
    (callFunc 72 #[.agg #[.pointer (some ⟨9, 83, none⟩), .pointer (some a), .int .u64 150]]).run Tryz.prog W
      = .ok (.value (.agg #[.pointer (some ⟨9, 77, none⟩), .pointer (some p), .int .u64 406])) W := by
  rw [@run_callFunc_extern Tryz.prog 72 _ (ReflectliteValue.method (ReflectliteValue.valueError "reflectlite.Value.Elem" 0) ReflectliteValue.elem) Tryz.func72 (by kernel_rfl) (by kernel_rfl) (by kernel_rfl) (by kernel_rfl)]
  rw [rlm]
  simp only [Sem.run_bind, partsPP, Result.andThen]
  simp [ReflectliteValue.elem, loadVar, isAgg, underlying, Tryz.underlying83, ha, Result.andThen, elemOfPP, mkP]
theorem rls (v x : Value) : ReflectliteValue.set #[v, x] = (do
    let (some (dst, a, fl), some (src, b, _)) := (← ReflectliteValue.parts v, ← ReflectliteValue.parts x)
      | unsupported (.noEntry "extern/(internal/reflectlite.Value).Set.zeroValue")
    if fl / ReflectliteValue.flagAddr % 2 == 0 then unsupported (.noEntry "extern/(internal/reflectlite.Value).Set.unaddressable")
    let val ← loadVar src b
    if ← Rtype.directlyAssignable dst src then storeVar dst a val
    else if ← Rtype.implements dst src then
      if (← Rtype.kind src) == 20 then
        match val with
        | .nilIface => unsupported (.noEntry "extern/reflectlite: a nil value of one interface type handed on as a value of another")
        | _ => storeVar dst a val
      else storeVar dst a (.iface src val)
    else panicString ("reflectlite.Set: value of type " ++ (← Rtype.spelt src) ++ " is not assignable to type " ++ (← Rtype.spelt dst))
    pure (.tuple #[])) := rfl
theorem partsPa (a : Addr) (w : World) : (ReflectliteValue.parts (.agg #[.pointer (some ⟨9, 77, none⟩), .pointer (some a), .int .u64 406])).run Tryz.prog w = .ok (some (77, a, 406)) w := by kernel_rfl
theorem partsP (a : Addr) (w : World) : (ReflectliteValue.parts (.agg #[.pointer (some ⟨9, 77, none⟩), .pointer (some a), .int .u64 150])).run Tryz.prog w = .ok (some (77, a, 150)) w := by kernel_rfl
theorem directP (w : World) : (Rtype.directlyAssignable 77 77).run Tryz.prog w = .ok true w := by kernel_rfl
theorem setP (ta b e : Addr) (old : Value) (W : World) (hb : W.cell? b = some (.pointer (some e))) (ht : W.cell? ta = some old) (hf : W.frozen? ta = false) :
    (callFunc 73 #[.agg #[.pointer (some ⟨9, 77, none⟩), .pointer (some ta), .int .u64 406], .agg #[.pointer (some ⟨9, 77, none⟩), .pointer (some b), .int .u64 150]]).run Tryz.prog W
      = .ok (.value (.tuple #[])) (W.setCell ta (.pointer (some e))) := by
  rw [@run_callFunc_extern Tryz.prog 73 _ ReflectliteValue.set Tryz.func73 (by kernel_rfl) (by kernel_rfl) (by kernel_rfl) (by kernel_rfl)]
  rw [rls]
  simp only [Sem.run_bind, partsPa, partsP, Result.andThen]
  simp [ReflectliteValue.flagAddr, loadVar, isAgg, underlying, Tryz.underlying77, hb, Result.andThen, directP, storeVar, Value.cells, storeCells, Addr.add]
  rw [run_store Tryz.prog W ta _ _ (by rfl)]
  simp [ht, hf]

set_option maxRecDepth 100000 in
set_option maxHeartbeats 4000000 in
theorem as_hit (e t : Addr) (old : Value) (w : World) (hg : w.cell? ⟨0, 0, none⟩ = some (.iface 119 (.agg #[.pointer (some ⟨9, 49, none⟩)]))) (ht0 : w.cell? t = some old) (hf0 : w.frozen? t = false) :
    Calls Tryz.prog 38 #[.iface 77 (.pointer (some e)), .iface 83 (.pointer (some t))] w fun ev w' => ev = .returned (.bool true) ∧ w' = ((((w.alloc (.cells #[.pointer (some t)] 83)).alloc (.cells #[.pointer (some ⟨9, 83, none⟩), .pointer (some ⟨w.heap.size, 0, none⟩), .int .u64 150] 99)).alloc (.cells #[.pointer (some ⟨9, 83, none⟩), .pointer (some ⟨w.heap.size, 0, none⟩), .int .u64 150] 99)).alloc (.cells #[.pointer (some e)] 77)).setCell t (.pointer (some e)) := by
  have f1 := vPP; have f2 := tPP; have m1 := mKind; have m2 := mElem; have m3 := mImplements; have m4 := mAssignable
  have k1 := kindPP; have k2 := kindP; have e1 := elemPP; have i1 := implP; have a1 := assignP; have tO := typeOfP; have v1 := valueOfP
  have n8 := isNilPP ⟨w.heap.size, 0, none⟩ t ((w.alloc (.cells #[.pointer (some t)] 83)).alloc (.cells #[.pointer (some ⟨9, 83, none⟩), .pointer (some ⟨w.heap.size, 0, none⟩), .int .u64 150] 99)) (by simp)
  have hlt : 0 < w.heap.size := Lib.lt_of_cell hg
  have hg2 : ((w.alloc (.cells #[.pointer (some t)] 83)).alloc (.cells #[.pointer (some ⟨9, 83, none⟩), .pointer (some ⟨w.heap.size, 0, none⟩), .int .u64 150] 99)).cell? ⟨0, 0, none⟩ = some (.iface 119 (.agg #[.pointer (some ⟨9, 49, none⟩)])) := by
    rw [World.cell?_alloc_lt _ _ ⟨0, 0, none⟩ (by simp), World.cell?_alloc_lt _ _ ⟨0, 0, none⟩ hlt]; exact hg
  have htl : t.block < w.heap.size := Lib.lt_of_cell ht0
  have el := elemVPP ⟨w.heap.size, 0, none⟩ t (((w.alloc (.cells #[.pointer (some t)] 83)).alloc (.cells #[.pointer (some ⟨9, 83, none⟩), .pointer (some ⟨w.heap.size, 0, none⟩), .int .u64 150] 99)).alloc (.cells #[.pointer (some ⟨9, 83, none⟩), .pointer (some ⟨w.heap.size, 0, none⟩), .int .u64 150] 99)) (by rw [World.cell?_alloc_lt _ _ ⟨w.heap.size, 0, none⟩ (by simp; omega)]; simp)
  have st := setP t ⟨w.heap.size + 1 + 1 + 1, 0, none⟩ e old ((((w.alloc (.cells #[.pointer (some t)] 83)).alloc (.cells #[.pointer (some ⟨9, 83, none⟩), .pointer (some ⟨w.heap.size, 0, none⟩), .int .u64 150] 99)).alloc (.cells #[.pointer (some ⟨9, 83, none⟩), .pointer (some ⟨w.heap.size, 0, none⟩), .int .u64 150] 99)).alloc (.cells #[.pointer (some e)] 77))
    (by rw [World.cell?_alloc_at _ _ _ _ (by simp)]; rfl)
    (by rw [World.cell?_alloc_lt _ _ t (by simp; omega), World.cell?_alloc_lt _ _ t (by simp; omega), World.cell?_alloc_lt _ _ t (by simp; omega), World.cell?_alloc_lt _ _ t htl]; exact ht0)
    (by rw [World.frozen?_alloc_old _ _ t (by simp; omega), World.frozen?_alloc_old _ _ t (by simp; omega), World.frozen?_alloc_old _ _ t (by simp; omega), World.frozen?_alloc_old _ _ t (Nat.ne_of_lt htl)]; exact hf0)
  go_enter Tryz.func38, Tryz.ntmps38
  go_wp2
  refine wp_loop_rounds 1 ?_
  rw [rounds_succ]
  go_wp2
  go_ret
  exact ⟨rfl, rfl⟩
end Go.Proofs.YtcbdmaelgedbkaaGreatDoor
