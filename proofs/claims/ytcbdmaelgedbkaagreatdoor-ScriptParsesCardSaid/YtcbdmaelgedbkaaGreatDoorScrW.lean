/- strings.Split at one octet, in plain words; what is joined is split again. -/
import Derived.Test.YtcbdmaelgedbkaaGreatDoorScrV
import Derived.Lib.IndexBytes
import Derived.Lib.CountLaws
import Derived.Lib.Split
namespace Go.Proofs.YtcbdmaelgedbkaaGreatDoor
open Go.RowKit Go.Shelf

/-- The pieces between an octet. -/
def spl (c : UInt8) : List UInt8 → List (List UInt8)
  | [] => [[]]
  | x :: r => if x = c then [] :: spl c r else match spl c r with
    | [] => [[x]]
    | h :: t => (x :: h) :: t
theorem spl_ne (c : UInt8) (l : List UInt8) : spl c l ≠ [] := by
  cases l with
  | nil => simp [spl]
  | cons x r => unfold spl; split; · simp
                split <;> simp
theorem spl_none {c : UInt8} : ∀ {l : List UInt8}, c ∉ l → spl c l = [l]
  | [], _ => rfl
  | x :: r, h => by
    unfold spl
    rw [if_neg (fun e => h (by rw [e]; simp)), spl_none (fun e => h (List.mem_cons_of_mem _ e))]
theorem spl_app {c : UInt8} : ∀ {x : List UInt8} (r : List UInt8), c ∉ x → spl c (x ++ c :: r) = x :: spl c r
  | [], r, _ => by rw [List.nil_append, spl, if_pos rfl]
  | y :: x, r, h => by
    rw [List.cons_append, spl, if_neg (fun e => h (by rw [e]; simp)), spl_app r (fun e => h (List.mem_cons_of_mem _ e))]
theorem spl_mem {c : UInt8} : ∀ {l : List UInt8} {x : List UInt8}, x ∈ spl c l → c ∉ x
  | [], x, h => by simp [spl] at h; simp [h]
  | y :: r, x, h => by
    unfold spl at h
    split at h
    · rcases List.mem_cons.1 h with rfl | h
      · simp
      · exact spl_mem h
    · rename_i hy
      split at h
      · rename_i e; exact absurd e (spl_ne c r)
      · rename_i hd t e
        rcases List.mem_cons.1 h with rfl | h
        · intro hm
          rcases List.mem_cons.1 hm with h1 | h1
          · exact hy h1.symm
          · exact spl_mem (l := r) (x := hd) (by rw [e]; simp) h1
        · exact spl_mem (l := r) (by rw [e]; exact List.mem_cons_of_mem _ h)
theorem join_two (c : UInt8) (z z' : List UInt8) (zs : List (List UInt8)) : Lib.join (z :: z' :: zs) [c] = z ++ c :: Lib.join (z' :: zs) [c] := by
  rw [Lib.join_cons, Lib.join_cons]; simp [Lib.joinTail]
theorem join_spl (c : UInt8) : ∀ l : List UInt8, Lib.join (spl c l) [c] = l
  | [] => rfl
  | x :: r => by
    have ih := join_spl c r
    unfold spl
    split
    · rename_i hx
      obtain ⟨h, t, e⟩ := List.exists_cons_of_ne_nil (spl_ne c r)
      rw [e, join_two, ← e, ih, hx]; rfl
    · split
      · rename_i e; exact absurd e (spl_ne c r)
      · rename_i h t e
        rw [e] at ih
        rw [Lib.join_cons] at ih ⊢
        rw [← ih]; rfl
theorem spl_join {c : UInt8} : ∀ {xs : List (List UInt8)}, xs ≠ [] → (∀ x ∈ xs, c ∉ x) → spl c (Lib.join xs [c]) = xs
  | [x], _, h => by rw [Lib.join_one, spl_none (h x (by simp))]
  | x :: y :: r, _, h => by
    rw [join_two, spl_app _ (h x (by simp)), spl_join (xs := y :: r) (by simp) (fun z hz => h z (List.mem_cons_of_mem _ hz))]
/-- An octet is not there, or it parts the list at its first place. -/
theorem idx_parts (l : List UInt8) (c : UInt8) : (Lib.indexByte l c = -1 ∧ c ∉ l) ∨ ∃ (i : Nat) (x r : List UInt8), Lib.indexByte l c = i ∧ l = x ++ c :: r ∧ c ∉ x ∧ x.length = i := by
  have hge := Lib.indexByte_ge l c
  rcases Int.lt_or_le (Lib.indexByte l c) 0 with h | h
  · have h1 : Lib.indexByte l c = -1 := by omega
    refine .inl ⟨h1, fun hm => ?_⟩
    obtain ⟨k, hk, e⟩ := List.getElem_of_mem hm
    exact Lib.indexByte_none h1 k (by simp [hk, e])
  · obtain ⟨i, hi⟩ := Int.eq_ofNat_of_zero_le h
    obtain ⟨h1, h2⟩ := Lib.indexByte_some hi
    obtain ⟨hlt, he⟩ := List.getElem?_eq_some_iff.1 h1
    refine .inr ⟨i, l.take i, l.drop (i + 1), hi, ?_, ?_, by simp; omega⟩
    · rw [← he, List.getElem_cons_drop, List.take_append_drop]
    · intro hm
      obtain ⟨k, hk, e⟩ := List.getElem_of_mem hm
      have hk2 : k < i := by simp at hk; omega
      refine h2 k hk2 ?_
      rw [List.getElem_take] at e
      simp only [List.length_take] at hk
      rw [List.getElem?_eq_getElem (by omega), e]
theorem indexB_one (s : ByteArray) (c : UInt8) : Lib.indexB s ⟨#[c]⟩ = Lib.indexByte s.data.toList c := by
  show Lib.index s.data.toList [c] = _
  exact Lib.index_one _ _
theorem splitB_spl (c : UInt8) : ∀ (n : Nat) (s : ByteArray), s.size ≤ n → (Lib.splitB ⟨#[c]⟩ 0 (Lib.countB s ⟨#[c]⟩) s).map (·.data.toList) = spl c s.data.toList ∧ Lib.countB s ⟨#[c]⟩ + 1 = (spl c s.data.toList).length := by
  intro n
  induction n with
  | zero =>
    intro s hs
    have hnil : s.data.toList = [] := List.eq_nil_of_length_eq_zero (by rw [← Lib.size_eq]; omega)
    have hi : Lib.indexB s ⟨#[c]⟩ = -1 := by rw [indexB_one, hnil]; rfl
    rw [Lib.countB_miss _ _ hi, Lib.splitB_zero, hnil]
    simp [spl, hnil]
  | succ n ih =>
    intro s hs
    rcases idx_parts s.data.toList c with ⟨h1, h2⟩ | ⟨i, x, r, h1, h2, h3, h4⟩
    · have hi : Lib.indexB s ⟨#[c]⟩ = -1 := by rw [indexB_one, h1]
      rw [Lib.countB_miss _ _ hi, Lib.splitB_zero, spl_none h2]
      simp
    · have hi : Lib.indexB s ⟨#[c]⟩ = (i : Int) := by rw [indexB_one, h1]
      have hlen : s.size = x.length + 1 + r.length := by rw [Lib.size_eq, h2]; simp; omega
      have hx : (s.extract 0 (i + 0)).data.toList = x := by
        rw [Lib.extract_data, h2, Nat.add_zero, Nat.sub_zero, List.drop_zero, ← h4, List.take_left]
      have hr : (s.extract (i + 1) s.size).data.toList = r := by
        rw [Lib.extract_data, h2, ← h4]
        have : (x ++ c :: r).drop (x.length + 1) = r := by
          rw [show x ++ c :: r = (x ++ [c]) ++ r from by simp, List.drop_left' (by simp)]
        rw [this, List.take_of_length_le (by omega)]
      have hrs : (s.extract (i + 1) s.size).size ≤ n := by rw [Lib.size_eq, hr]; omega
      obtain ⟨e1, e2⟩ := ih _ hrs
      rw [hr] at e1 e2
      have hsz : (⟨#[c]⟩ : ByteArray).size = 1 := rfl
      have hct := Lib.countB_hit s ⟨#[c]⟩ i (by rw [hsz]; omega) hi
      rw [hsz] at hct
      rw [hct, Nat.add_comm 1, Lib.splitB_hit _ _ _ _ i hi, hsz, List.map_cons, e1, hx, h2, spl_app r h3]
      exact ⟨rfl, by simp; omega⟩

theorem ba_eta (x : ByteArray) : (⟨x.data.toList.toArray⟩ : ByteArray) = x := rfl
theorem split_any (s : ByteArray) (w : World) (hs : s.size ≤ 1000000) (he : Env w) :
    Calls Tryz.prog 35 #[.string s, .string ⟨#[32]⟩] w fun e w' => e = .returned (.slice (some ⟨w.heap.size, 0, none⟩) (spl 32 s.data.toList).length (spl 32 s.data.toList).length) ∧ Below w.heap.size w w' ∧ w'.heap.size = w.heap.size + 1 ∧
      ∀ j x, (spl 32 s.data.toList)[j]? = some x → w'.cell? ⟨w.heap.size, j, none⟩ = some (.string ⟨x.toArray⟩) := by
  obtain ⟨m, hm⟩ := he.maxLen
  obtain ⟨e1, e2⟩ := splitB_spl 32 s.size s (Nat.le_refl _)
  refine (Tryz.strings_Split s ⟨#[32]⟩ m w (by omega) hm (by decide)).mono ?_
  rintro e w1 ⟨rfl, rfl⟩
  refine ⟨by rw [e2], (Below.refl _ _).alloc (Nat.le_refl _) _, by simp, fun j x hj => ?_⟩
  rw [World.cell?_alloc_at _ _ _ _ rfl]
  rw [← e1, List.getElem?_map, Option.map_eq_some_iff] at hj
  obtain ⟨y, hy, rfl⟩ := hj
  simp [hy]
/-- strings.Cut at one octet. -/
theorem cut_parts (l : List UInt8) (c : UInt8) : (Lib.cut l [c] = (l, [], false) ∧ c ∉ l) ∨ ∃ x r : List UInt8, Lib.cut l [c] = (x, r, true) ∧ l = x ++ c :: r ∧ c ∉ x := by
  unfold Lib.cut
  rw [Lib.index_one]
  rcases idx_parts l c with ⟨h1, h2⟩ | ⟨i, x, r, h1, h2, h3, h4⟩
  · exact .inl ⟨by rw [if_neg (by omega)], h2⟩
  · refine .inr ⟨x, r, ?_, h2, h3⟩
    rw [if_pos (by omega), h1, Int.toNat_natCast, h2, ← h4, List.take_left]
    congr 2
    rw [show x ++ c :: r = (x ++ [c]) ++ r from by simp, List.drop_left' (by simp)]
end Go.Proofs.YtcbdmaelgedbkaaGreatDoor
