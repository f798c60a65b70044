/- Plain words for memory that a call reads, used by all walks of this seat. -/
import Derived.Test.YtcbdmaelgedbkaaGreatDoorShelf
import Derived.WalkKit
import Derived.WalkSpells
import Derived.WalkLawsBesides
import Derived.Lib.Hide
import Derived.WalkSmall
import Derived.Laws.BytesArg
import Derived.Lib.ItoaLen
import Derived.Lib.Join
import Derived.Lib.AppendIntMem
import Derived.Maps.AppendAt
namespace Go.Proofs.YtcbdmaelgedbkaaGreatDoor
open Go.RowKit Go.Shelf

/-- The slice v reads as xs, element by element ('enc'). -/
def RdS {α : Type} (enc : α → Value) (w : World) (v : Value) (xs : List α) : Prop :=
  (v = .slice none 0 0 ∧ xs = []) ∨ (∃ a c, v = .slice (some a) 0 c ∧ xs = []) ∨ ∃ b off c, v = .slice (some ⟨b, off, none⟩) xs.length c ∧ b < w.heap.size ∧ xs.length ≤ c ∧ ∀ j x, xs[j]? = some x → w.cell? ⟨b, off + j, none⟩ = some (enc x)
def encB (u : UInt8) : Value := .int .u8 (u.toNat : Int)
def encI (n : Int) : Value := .int .i64 n
theorem RdS.below {α : Type} {enc : α → Value} {w w' : World} {v : Value} {xs : List α} (h : RdS enc w v xs) (hb : Below w.heap.size w w') : RdS enc w' v xs := by
  rcases h with h | h | ⟨b, off, c, h1, h2, h3, h4⟩
  · exact .inl h
  · exact .inr (.inl h)
  · exact .inr <| .inr ⟨b, off, c, h1, Nat.lt_of_lt_of_le h2 hb.size, h3, fun j x hx => (hb.cell (p := ⟨b, off + j, none⟩) h2).trans (h4 j x hx)⟩
theorem grown_below {w w' : World} (h : Below w.heap.size w w') (row : Option Nat) : w.grownBy w' row := ⟨h.os, h.tape, h.output, h.size, fun k hk _ => h.block k hk⟩
theorem owns_below {w w' : World} {base : Nat} {e : TypeId} {size : Nat} {v : Value} {n : Nat} {xs : List Value} (h : w.ownsRow base e size v n xs) (hb : Below w.heap.size w w') : w'.ownsRow base e size v n xs :=
  h.kept (grown_below hb none) (by cases hv : v.ownBlock <;> simp)
theorem builderAt_below {T e : TypeId} {B b : Nat} {p : Value} {bs : List Value} {w w' : World} (h : Lib.BuilderAt T e B b p bs w) (hb : Below w.heap.size w w') : Lib.BuilderAt T e B b p bs w' := by
  have hlt := h.lt
  obtain ⟨h1, v, h2, h3, h4⟩ := h
  exact ⟨h1, v, (hb.block b hlt).trans h2, owns_below h3 hb, h4⟩
theorem isBuilder_below {T e : TypeId} {B b : Nat} {bs : List Value} {w w' : World} (h : Lib.IsBuilder T e B b bs w) (hb : Below w.heap.size w w') : Lib.IsBuilder T e B b bs w' :=
  h.imp (fun h => builderAt_below h hb) (fun h => builderAt_below h hb)
theorem byteCells_append (a b : List UInt8) : Lib.byteCells (a ++ b) = Lib.byteCells a ++ Lib.byteCells b := by simp [Lib.byteCells]
theorem byteCells_length (a : List UInt8) : (Lib.byteCells a).length = a.length := by simp [Lib.byteCells]
theorem byteCells_one (c : UInt8) : Lib.byteCells [c] = [.int .u8 (c.toNat : Int)] := rfl
theorem toList_eq (s : ByteArray) : s.toList = s.data.toList := by
  have := Lib.extract_toList s 0 s.size
  rw [show s.extract 0 s.size = s from by simp] at this
  rw [this, List.drop_zero, List.take_of_length_le (by simp)]
theorem data_app (a b : ByteArray) : (a ++ b).data.toList = a.data.toList ++ b.data.toList := by
  rw [ByteArray.data_append]; simp
/-- A row that a call owns, as a slice that is read. -/
theorem rdS_of_owns {α : Type} {enc : α → Value} {w : World} {base : Nat} {e : TypeId} {v : Value} {xs : List α} (h : w.ownsRow base e 1 v xs.length (xs.map enc)) : RdS enc w v xs := by
  rcases h.2 with ⟨h1, h2⟩ | ⟨g, cap, cur, rfl, h2, h3, h4, h5, h6, h7⟩
  · exact .inl ⟨h1, List.eq_nil_of_length_eq_zero h2⟩
  · refine .inr <| .inr ⟨g, 0, cap, rfl, (Array.getElem?_eq_some_iff.1 h3).1, h4, fun j x hx => ?_⟩
    have hj : j < xs.length := (List.getElem?_eq_some_iff.1 hx).1
    have := h.cells (g := g) rfl j (enc x) (by simp [hx])
    rw [Nat.zero_add]
    have e1 : (⟨g, 0, none⟩ : Addr).add j = ⟨g, j, none⟩ := by unfold Addr.add; split <;> simp_all
    rw [e1] at this
    exact this

theorem joinTail_le (sep : List UInt8) (n : Nat) : ∀ xs : List (List UInt8), (∀ x ∈ xs, x.length ≤ n) → (Lib.joinTail sep xs).length ≤ (n + sep.length) * xs.length
  | [], _ => by simp [Lib.joinTail]
  | x :: r, h => by
    have h1 := joinTail_le sep n r (fun y hy => h y (List.mem_cons_of_mem _ hy))
    have h2 := h x List.mem_cons_self
    simp only [Lib.joinTail, List.map_cons, List.flatten_cons, List.length_append, List.length_cons] at h1 ⊢
    rw [Nat.mul_add]
    omega
theorem join_le (sep : List UInt8) (n : Nat) (xs : List (List UInt8)) (h : ∀ x ∈ xs, x.length ≤ n) : (Lib.join xs sep).length ≤ (n + sep.length) * xs.length := by
  cases xs with
  | nil => simp [Lib.join_nil]
  | cons x r =>
    have h1 := joinTail_le sep n r (fun y hy => h y (List.mem_cons_of_mem _ hy))
    have h2 := h x List.mem_cons_self
    rw [Lib.join_cons, List.length_append, List.length_cons, Nat.mul_add]
    omega

theorem strOfNums_bytes (l : List UInt8) : strOfNums (l.map fun u => (u.toNat : Int)) = ⟨l.toArray⟩ := by
  apply ByteArray.ext
  apply Array.toList_inj.1
  rw [strOfNums_data]
  simp [Function.comp_def]
/-- 'string(b)': the text of a slice of octets that is read. -/
theorem run_string_of {src e : TypeId} (hs : Tryz.prog.underlying src = some (.slice e)) (he : Tryz.prog.underlying e = some (.int .u8)) (hd : Tryz.prog.underlying 9 = some .string) {w : World} {v : Value} {l : List UInt8} (h : RdS encB w v l) :
    (convert src 9 v).run Tryz.prog w = .ok (.string ⟨l.toArray⟩) w := by
  rcases h with ⟨rfl, rfl⟩ | ⟨a, c, rfl, rfl⟩ | ⟨b, off, c, rfl, -, -, h⟩
  · exact run_convert_bytes_nil w src e hs he 0 0 _ hd
  · rw [run_convert_bytes_string w src _ e _ 0 c hs he hd, run_bytesToString w _ 0 c [] (by simp [loadCells, loadCellsFrom])]
    rfl
  · rw [run_convert_bytes_arg w src e hs he b off l.length c (l.map fun u => (u.toNat : Int)) (by simp) (fun i hi => ?_) _ hd]
    · rw [strOfNums_bytes]
    · rw [h i l[i] (by simp [hi])]
      simp [encB, List.getD, hi]

/-- What every call leans on: the library's variables that the row lists. -/
structure Env (w : World) : Prop where
  pow : Lib.TabIs Tryz.prog w "internal/strconv.uint64pow10" .u64 Lib.pow10Tab
  powLt : 2 < w.heap.size
  ety : w.cell? ⟨0, 0, none⟩ = some (.iface 119 (.agg #[.pointer (some ⟨9, 49, none⟩)]))
  maxLen : ∃ m, w.cell? ⟨1, 0, none⟩ = some (.int .i64 m)
theorem Env.below {w w' : World} (h : Env w) (hb : Below w.heap.size w w') : Env w' := by
  have := h.powLt
  refine ⟨var?_below hb (by kernel_rfl) h.powLt h.pow, Nat.lt_of_lt_of_le h.powLt hb.size, (hb.cell (p := ⟨_, _, none⟩) (by simp; omega)).trans h.ety, ?_⟩
  obtain ⟨m, hm⟩ := h.maxLen
  exact ⟨m, (hb.cell (p := ⟨_, _, none⟩) (by simp; omega)).trans hm⟩
theorem itoa_any (u : Int) (h0 : -9223372036854775808 ≤ u) (h1 : u ≤ 9223372036854775807) (w : World) (he : Env w) :
    Calls Tryz.prog 30 #[.int .i64 u] w fun e w' => e = .returned (.string ⟨(Lib.itoa u).toArray⟩) ∧ Below w.heap.size w w' :=
  (Tryz.strconv_Itoa u h0 h1 w he.pow).mono fun _ _ ⟨h, k, os, e⟩ => ⟨h, by rw [e]; exact Lib.below_grow _ _ (Nat.le_refl _) _ _⟩
end Go.Proofs.YtcbdmaelgedbkaaGreatDoor
