/- What the rows of this seat share: the listed variables, a world that holds them. -/
import Derived.Test.YtcbdmaelgedbkaaGreatDoorScrJ
import Derived.Test.YtcbdmaelgedbkaaGreatDoorScrT
import Derived.Test.YtcbdmaelgedbkaaGreatDoorCards
import Derived.Test.YtcbdmaelgedbkaaGreatDoorTie
import Derived.Deep.DeepHandedRow
import Derived.Lib.LaidTab
import Derived.Stop.LaidErr
import Derived.LaidHandle
import Derived.LaidSub
import Derived.JoinedCond
namespace Go.Proofs.YtcbdmaelgedbkaaGreatDoor
open Go.ChangeShapes Go.WideShapes Go.ChangeAt Go.RowKit Go.Deep

theorem own : ownKnob Tryz.prog.godebug = none := by kernel_rfl
/-- The list of the row of ScriptTells; the other row of the seat lists the same. -/
def laidL : List (String × DataW Unit) := [("math/bits.deBruijn32tab", Rows.laid_math_bits_deBruijn32tab), ("math/bits.deBruijn64tab", Rows.laid_math_bits_deBruijn64tab), ("internal/strconv.uint64pow10", Rows.laid_internal_strconv_uint64pow10), ("unicode/utf8.acceptRanges", Rows.laid_unicode_utf8_acceptRanges), ("errors.errorType", Rows.laid_errors_errorType), ("strconv.ErrRange", Rows.laid_strconv_ErrRange), ("strconv.ErrSyntax", Rows.laid_strconv_ErrSyntax), ("unicode/utf8.first", Rows.laid_unicode_utf8_first)]

theorem gPow : Tryz.prog.globalNamed "internal/strconv.uint64pow10" = some 2 := by kernel_rfl
theorem gPowType : (Tryz.prog.globals[2]?).map (·.type) = some 151 := by kernel_rfl
theorem cellsPow : Tryz.prog.cellsOf 151 = 20 := by kernel_rfl
theorem cellsU64 : Tryz.prog.cellsOf 73 = 1 := by kernel_rfl
theorem gEt : Tryz.prog.globalNamed "errors.errorType" = some 0 := by kernel_rfl
theorem rtT : (Tryz.prog.cutTypes.find? (·.1 == "internal/reflectlite.rtype")).map (·.2) = some 119 := by kernel_rfl
theorem oneRow : ((List.range Tryz.prog.types.size).filter fun t => Tryz.prog.rowNamed t [101, 114, 114, 111, 114]) = [49] := by kernel_rfl
theorem gES : Tryz.prog.globalNamed "strconv.ErrSyntax" = some 3 := by kernel_rfl
theorem gESType : (Tryz.prog.globals[3]?).map (·.type) = some 49 := by kernel_rfl
theorem gER : Tryz.prog.globalNamed "strconv.ErrRange" = some 4 := by kernel_rfl
theorem gERType : (Tryz.prog.globals[4]?).map (·.type) = some 49 := by kernel_rfl
theorem cellsES : Tryz.prog.cellsOf 170 = 1 := by kernel_rfl
theorem cellsStr : Tryz.prog.cellsOf 9 = 1 := by kernel_rfl

theorem pow_of_laid {W : World} (h : laidMetH Tryz.prog laidL W) : Lib.TabIs Tryz.prog W "internal/strconv.uint64pow10" .u64 Lib.pow10Tab := by
  have h1 := h.filter (fun x => x.1 == "internal/strconv.uint64pow10")
  have e : laidL.filter (fun x => x.1 == "internal/strconv.uint64pow10") = [("internal/strconv.uint64pow10", Lib.tabData .u64 Lib.pow10Tab)] := by kernel_rfl
  rw [e] at h1
  have h2 : laidMet Tryz.prog [("internal/strconv.uint64pow10", Lib.tabData .u64 Lib.pow10Tab)] W := h1
  exact Lib.tabIs_of_head gPow gPowType Tryz.underlying151 Tryz.underlying73 cellsU64 cellsPow h2
theorem et_of_laid {W : World} (h : laidMetH Tryz.prog laidL W) : W.cell? ⟨0, 0, none⟩ = some (.iface 119 (.agg #[.pointer (some ⟨9, 49, none⟩)])) := by
  have h1 := h.filter (fun x => x.1 == "errors.errorType")
  have e : laidL.filter (fun x => x.1 == "errors.errorType") = [("errors.errorType", Rows.laid_errors_errorType)] := by kernel_rfl
  rw [e] at h1
  have h' : laidMet Tryz.prog [] W ∧ handlesMet Tryz.prog [("errors.errorType", Rows.laid_errors_errorType)] W := h1
  obtain ⟨name, u, ty, e1, e2, e3, e4, e5⟩ := h'.2 _ (List.mem_singleton.2 rfl)
  have en : name = [101, 114, 114, 111, 114] := (Option.some.inj e1).symm
  subst en
  obtain rfl := Option.some.inj (rtT.symm.trans e2)
  have hm : ty ∈ (List.range Tryz.prog.types.size).filter fun t => Tryz.prog.rowNamed t [101, 114, 114, 111, 114] := List.mem_filter.2 ⟨List.mem_range.2 e3, e4⟩
  rw [oneRow] at hm
  obtain rfl := List.mem_singleton.1 hm
  have hh : typeHandle Tryz.prog 49 = .pointer (some ⟨9, 49, none⟩) := by kernel_rfl
  rw [hh] at e5
  simpa using World.var?_cell gEt e5 0
theorem star : "*" ++ "errors.errorString" = "*errors.errorString" := by decide
theorem rowES (u : TypeId) (h : Tryz.prog.typeName? 3 u = some "*errors.errorString") : u = 168 :=
  typeName_ptr_named (nm := "errors.errorString") (by rw [star]; kernel_rfl) (by kernel_rfl) (by decide) u (by rw [star]; exact h)
theorem sx_of_laid {W : World} (h : laidMetH Tryz.prog laidL W) : ∃ t p, W.cell? ⟨3, 0, none⟩ = some (.iface t p) := by
  have h1 := h.filter (fun x => x.1 == "strconv.ErrSyntax")
  have e : laidL.filter (fun x => x.1 == "strconv.ErrSyntax") = [("strconv.ErrSyntax", Rows.laid_strconv_ErrSyntax)] := by kernel_rfl
  rw [e] at h1
  have h2 : laidMet Tryz.prog [("strconv.ErrSyntax", Rows.laid_strconv_ErrSyntax)] W := h1
  obtain ⟨a0, s0, hv0, -, -, -⟩ := laid_sentinel h2 gES gESType Tryz.underlying49 rowES Tryz.underlying168 Tryz.underlying170 rfl rfl Tryz.underlying9 cellsES cellsStr
  exact ⟨_, _, by have h0 := World.var?_cell gES hv0 0; simpa using h0⟩
theorem rx_of_laid {W : World} (h : laidMetH Tryz.prog laidL W) : ∃ t p, W.cell? ⟨4, 0, none⟩ = some (.iface t p) := by
  have h1 := h.filter (fun x => x.1 == "strconv.ErrRange")
  have e : laidL.filter (fun x => x.1 == "strconv.ErrRange") = [("strconv.ErrRange", Rows.laid_strconv_ErrRange)] := by kernel_rfl
  rw [e] at h1
  have h2 : laidMet Tryz.prog [("strconv.ErrRange", Rows.laid_strconv_ErrRange)] W := h1
  obtain ⟨a0, s0, hv0, -, -, -⟩ := laid_sentinel h2 gER gERType Tryz.underlying49 rowES Tryz.underlying168 Tryz.underlying170 rfl rfl Tryz.underlying9 cellsES cellsStr
  exact ⟨_, _, by have h0 := World.var?_cell gER hv0 0; simpa using h0⟩
theorem env_of_laid {W : World} (h : laidMetH Tryz.prog laidL W) (hs : W.ShapedOpen Tryz.prog) : EnvT W := by
  have h1 := pow_of_laid h
  refine ⟨⟨h1, ?_, et_of_laid h, Tryz.laysM145.s1_3 W hs⟩, sx_of_laid h, rx_of_laid h⟩
  have := h1.cell gPow 0 (by decide)
  exact (cell_lt this).1

/-- The cells of a datum of whole numbers. -/
def litCell : DataW Unit → Value
  | .lit (.int k n) => .int k n
  | _ => undef
def litCells : DataW Unit → List Value
  | .agg ds => ds.map litCell
  | d => [litCell d]
def dataCells : DataW Unit → Array Value
  | .agg ds => (ds.flatMap litCells).toArray
  | _ => #[]
/-- So many blocks has the settled world. -/
noncomputable def low : Nat := (World.holding Tryz.prog default ⟨#[], #[], []⟩).heap.size
/-- A world in which the listed variables are laid. -/
noncomputable def laidWorld (os : Os) : World :=
  let w0 := World.holding Tryz.prog os ⟨#[.cells #[.string ⟨#[105, 110, 118, 97, 108, 105, 100, 32, 115, 121, 110, 116, 97, 120]⟩] 170, .cells #[.string ⟨#[118, 97, 108, 117, 101, 32, 111, 117, 116, 32, 111, 102, 32, 114, 97, 110, 103, 101]⟩] 170], #[], []⟩
  let put (g : Nat) (cs : Array Value) (h : Array Obj) : Array Obj := h.modify g fun
      | .cells _ t frozen => .cells cs t frozen
      | o => o
  { w0 with heap := put 0 #[.iface 119 (.agg #[.pointer (some ⟨9, 49, none⟩)])] (put 2 (dataCells Rows.laid_internal_strconv_uint64pow10)
      (put 7 (dataCells Rows.laid_math_bits_deBruijn32tab) (put 8 (dataCells Rows.laid_math_bits_deBruijn64tab)
      (put 6 (dataCells Rows.laid_unicode_utf8_acceptRanges) (put 5 (dataCells Rows.laid_unicode_utf8_first)
      (put 3 #[.iface 168 (.pointer (some ⟨low, 0, none⟩))] (put 4 #[.iface 168 (.pointer (some ⟨low + 1, 0, none⟩))] w0.heap))))))) }
theorem laidWorld_met (os : Os) (args : Array Value) : laidMetH Tryz.prog laidL ((laidWorld os).forCall (fun _ _ => 0) ⟨#[], args, []⟩).memory :=
  laidMetH_of_parts (laidMet_of_run' 8 (by kernel_rfl) (by kernel_rfl)) (by kernel_rfl)
end Go.Proofs.YtcbdmaelgedbkaaGreatDoor
