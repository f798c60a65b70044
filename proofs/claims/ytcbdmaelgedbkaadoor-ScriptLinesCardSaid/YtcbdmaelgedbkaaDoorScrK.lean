/- What the rows of this seat share: the listed variables, a world that holds them, the pattern of a row's proof. -/
import Derived.Test.YtcbdmaelgedbkaaDoorScrJ
import Derived.Test.YtcbdmaelgedbkaaDoorCards
import Derived.Test.YtcbdmaelgedbkaaDoorTie
import Derived.Deep.DeepHandedRow
import Derived.Lib.LaidTab
import Derived.LaidHandle
import Derived.LaidSub
import Derived.JoinedCond
namespace Go.Proofs.YtcbdmaelgedbkaaDoor
open Go.ChangeShapes Go.WideShapes Go.ChangeAt Go.RowKit Go.Deep

theorem own : ownKnob Tryd.prog.godebug = none := by kernel_rfl
/-- The list of the row of ScriptWhole; the other rows of the seat list the same. -/
def laidL : List (String × DataW Unit) := [("math/bits.deBruijn32tab", Rows.laid_math_bits_deBruijn32tab), ("math/bits.deBruijn64tab", Rows.laid_math_bits_deBruijn64tab), ("internal/strconv.uint64pow10", Rows.laid_internal_strconv_uint64pow10), ("errors.errorType", Rows.laid_errors_errorType)]

theorem gPow : Tryd.prog.globalNamed "internal/strconv.uint64pow10" = some 2 := by kernel_rfl
theorem gPowType : (Tryd.prog.globals[2]?).map (·.type) = some 114 := by kernel_rfl
theorem cellsPow : Tryd.prog.cellsOf 114 = 20 := by kernel_rfl
theorem cellsU64 : Tryd.prog.cellsOf 108 = 1 := by kernel_rfl
theorem gEt : Tryd.prog.globalNamed "errors.errorType" = some 0 := by kernel_rfl
theorem rtT : (Tryd.prog.cutTypes.find? (·.1 == "internal/reflectlite.rtype")).map (·.2) = some 85 := by kernel_rfl
theorem oneRow : ((List.range Tryd.prog.types.size).filter fun t => Tryd.prog.rowNamed t [101, 114, 114, 111, 114]) = [42] := by kernel_rfl

theorem pow_of_laid {W : World} (h : laidMetH Tryd.prog laidL W) : Lib.TabIs Tryd.prog W "internal/strconv.uint64pow10" .u64 Lib.pow10Tab := by
  have h1 := h.filter (fun x => x.1 == "internal/strconv.uint64pow10")
  have e : laidL.filter (fun x => x.1 == "internal/strconv.uint64pow10") = [("internal/strconv.uint64pow10", Lib.tabData .u64 Lib.pow10Tab)] := by kernel_rfl
  rw [e] at h1
  have h2 : laidMet Tryd.prog [("internal/strconv.uint64pow10", Lib.tabData .u64 Lib.pow10Tab)] W := h1
  exact Lib.tabIs_of_head gPow gPowType Tryd.underlying114 Tryd.underlying108 cellsU64 cellsPow h2
theorem et_of_laid {W : World} (h : laidMetH Tryd.prog laidL W) : W.cell? ⟨0, 0, none⟩ = some (.iface 85 (.agg #[.pointer (some ⟨5, 42, none⟩)])) := by
  have h1 := h.filter (fun x => x.1 == "errors.errorType")
  have e : laidL.filter (fun x => x.1 == "errors.errorType") = [("errors.errorType", Rows.laid_errors_errorType)] := by kernel_rfl
  rw [e] at h1
  have h' : laidMet Tryd.prog [] W ∧ handlesMet Tryd.prog [("errors.errorType", Rows.laid_errors_errorType)] W := h1
  obtain ⟨name, u, ty, e1, e2, e3, e4, e5⟩ := h'.2 _ (List.mem_singleton.2 rfl)
  have en : name = [101, 114, 114, 111, 114] := (Option.some.inj e1).symm
  subst en
  obtain rfl := Option.some.inj (rtT.symm.trans e2)
  have hm : ty ∈ (List.range Tryd.prog.types.size).filter fun t => Tryd.prog.rowNamed t [101, 114, 114, 111, 114] := List.mem_filter.2 ⟨List.mem_range.2 e3, e4⟩
  rw [oneRow] at hm
  obtain rfl := List.mem_singleton.1 hm
  have hh : typeHandle Tryd.prog 42 = .pointer (some ⟨5, 42, none⟩) := by kernel_rfl
  rw [hh] at e5
  simpa using World.var?_cell gEt e5 0
theorem env_of_laid {W : World} (h : laidMetH Tryd.prog laidL W) (hs : W.ShapedOpen Tryd.prog) : Env W := by
  have h1 := pow_of_laid h
  refine ⟨h1, ?_, et_of_laid h, Tryd.laysM145.s1_3 W hs⟩
  have := h1.cell gPow 0 (by decide)
  exact (cell_lt this).1

/-- A world in which the listed variables are laid: the settled one, four blocks turned. -/
noncomputable def laidWorld (os : Os) : World :=
  let w0 := World.holding Tryd.prog os ⟨#[], #[], []⟩
  let put (g : Nat) (cs : Array Value) (h : Array Obj) : Array Obj := h.modify g fun
      | .cells _ t frozen => .cells cs t frozen
      | o => o
  { w0 with heap := put 0 #[.iface 85 (.agg #[.pointer (some ⟨5, 42, none⟩)])] (put 2 (Lib.pow10Tab.map (Value.int .u64)).toArray
      (put 3 #[.int .u8 0, .int .u8 1, .int .u8 28, .int .u8 2, .int .u8 29, .int .u8 14, .int .u8 24, .int .u8 3, .int .u8 30, .int .u8 22, .int .u8 20, .int .u8 15, .int .u8 25, .int .u8 17, .int .u8 4, .int .u8 8, .int .u8 31, .int .u8 27, .int .u8 13, .int .u8 23, .int .u8 21, .int .u8 19, .int .u8 16, .int .u8 7, .int .u8 26, .int .u8 12, .int .u8 18, .int .u8 6, .int .u8 11, .int .u8 5, .int .u8 10, .int .u8 9]
      (put 4 #[.int .u8 0, .int .u8 1, .int .u8 56, .int .u8 2, .int .u8 57, .int .u8 49, .int .u8 28, .int .u8 3, .int .u8 61, .int .u8 58, .int .u8 42, .int .u8 50, .int .u8 38, .int .u8 29, .int .u8 17, .int .u8 4, .int .u8 62, .int .u8 47, .int .u8 59, .int .u8 36, .int .u8 45, .int .u8 43, .int .u8 51, .int .u8 22, .int .u8 53, .int .u8 39, .int .u8 33, .int .u8 30, .int .u8 24, .int .u8 18, .int .u8 12, .int .u8 5, .int .u8 63, .int .u8 55, .int .u8 48, .int .u8 27, .int .u8 60, .int .u8 41, .int .u8 37, .int .u8 16, .int .u8 46, .int .u8 35, .int .u8 44, .int .u8 21, .int .u8 52, .int .u8 32, .int .u8 23, .int .u8 11, .int .u8 54, .int .u8 26, .int .u8 40, .int .u8 15, .int .u8 34, .int .u8 20, .int .u8 31, .int .u8 10, .int .u8 25, .int .u8 14, .int .u8 19, .int .u8 9, .int .u8 13, .int .u8 8, .int .u8 7, .int .u8 6] w0.heap))) }
theorem laidWorld_met (os : Os) (args : Array Value) : laidMetH Tryd.prog laidL ((laidWorld os).forCall (fun _ _ => 0) ⟨#[], args, []⟩).memory :=
  laidMetH_of_parts (laidMet_of_run' 8 (by kernel_rfl) (by kernel_rfl)) (by kernel_rfl)
end Go.Proofs.YtcbdmaelgedbkaaDoor
