/- Walks: script.numbers; what a word gives a deed. -/
import Derived.Test.YtcbdmaelgedbkaaGreatDoorScrP
import Derived.Test.YtcbdmaelgedbkaaGreatDoorScrXC
namespace Go.Proofs.YtcbdmaelgedbkaaGreatDoor
open Go.RowKit Go.Shelf

theorem splitc_any (c : UInt8) (s : ByteArray) (w : World) (hs : s.size ≤ 1000000) (he : Env w) :
    Calls Tryz.prog 35 #[.string s, .string ⟨#[c]⟩] w fun e w' => e = .returned (.slice (some ⟨w.heap.size, 0, none⟩) (spl c s.data.toList).length (spl c s.data.toList).length) ∧ Below w.heap.size w w' ∧ w'.heap.size = w.heap.size + 1 ∧
      ∀ j x, (spl c s.data.toList)[j]? = some x → w'.cell? ⟨w.heap.size, j, none⟩ = some (.string ⟨x.toArray⟩) := by
  obtain ⟨m, hm⟩ := he.maxLen
  obtain ⟨e1, e2⟩ := splitB_spl c s.size s (Nat.le_refl _)
  refine (Tryz.strings_Split s ⟨#[c]⟩ m w (by omega) hm (by simp [ByteArray.size])).mono ?_
  rintro e w1 ⟨rfl, rfl⟩
  refine ⟨by rw [e2], (Below.refl _ _).alloc (Nat.le_refl _) _, by simp, fun j x hj => ?_⟩
  rw [World.cell?_alloc_at _ _ _ _ rfl]
  rw [← e1, List.getElem?_map, Option.map_eq_some_iff] at hj
  obtain ⟨y, hy, rfl⟩ := hj
  simp [hy]

/-- What a word says, as numbers. -/
def numsR : List (List UInt8) → Option (List Int)
  | [] => some []
  | x :: r => match numR x with
    | some t => (numsR r).map (t :: ·)
    | none => none
theorem numsR_snoc : ∀ {l : List (List UInt8)} {ns : List Int} {x : List UInt8} {t : Int}, numsR l = some ns → numR x = some t → numsR (l ++ [x]) = some (ns ++ [t])
  | [], ns, x, t, h, hx => by
    obtain rfl := Option.some.inj h
    simp [numsR, hx]
  | y :: l, ns, x, t, h, hx => by
    unfold numsR at h
    rw [List.cons_append]; unfold numsR
    cases hy : numR y with
    | none => rw [hy] at h; cases h
    | some u =>
      rw [hy] at h
      simp only [Option.map_eq_some_iff] at h
      obtain ⟨m, hm, rfl⟩ := h
      simp only [numsR_snoc hm hx]; rfl
theorem numsR_bad : ∀ {l : List (List UInt8)} {x : List UInt8}, x ∈ l → numR x = none → numsR l = none
  | y :: l, x, hm, hx => by
    unfold numsR
    rcases List.mem_cons.1 hm with rfl | hm
    · rw [hx]
    · cases numR y with
      | none => rfl
      | some u => simp only [numsR_bad hm hx]; rfl
theorem numsR_some : ∀ {r : List (List UInt8)} {ns : List Int}, numsR r = some ns → r = ns.map Lib.itoa ∧ ∀ z ∈ ns, I64 z
  | [], ns, h => by obtain rfl := Option.some.inj h; exact ⟨rfl, fun z hz => by simp at hz⟩
  | x :: r, ns, h => by
    unfold numsR at h
    split at h
    · rename_i t ht
      simp only [Option.map_eq_some_iff] at h
      obtain ⟨m, hm, rfl⟩ := h
      obtain ⟨h1, h2⟩ := numsR_some hm
      obtain ⟨h3, h4⟩ := numR_some ht
      refine ⟨by rw [List.map_cons, ← h3, ← h1], fun z hz => ?_⟩
      rcases List.mem_cons.1 hz with rfl | hz
      · exact h4
      · exact h2 z hz
    · cases h
def numbersR (l : List UInt8) : Option (List Int) := if l = [45] then some [] else numsR (spl 44 l)
theorem numbersR_some {l : List UInt8} {ns : List Int} (h : numbersR l = some ns) : l = listL ns ∧ ∀ z ∈ ns, I64 z := by
  unfold numbersR at h
  split at h
  · rename_i e
    obtain rfl := Option.some.inj h
    exact ⟨e, fun z hz => by simp at hz⟩
  · obtain ⟨h1, h2⟩ := numsR_some h
    have hne : ns ≠ [] := fun e => by subst e; exact spl_ne 44 l h1
    refine ⟨?_, h2⟩
    unfold listL
    rw [if_neg hne, ← h1, join_spl]
theorem info_int : (Tryz.prog.info? 3).map (fun i => (i.zero, i.size, i.bytes)) = some (some (.int .i64 0), 1, 8) := by kernel_rfl
/-- What script.numbers comes to. -/
def NumsP (o : Option (List Int)) (w : World) (e : Ending) (w' : World) : Prop :=
  (o = none → e = .returned (.tuple #[.slice none 0 0, argV])) ∧
  (∀ ns, o = some ns → ∃ A c, e = .returned (.tuple #[.slice A ns.length c, .nilIface]) ∧ RdS encI w' (.slice A ns.length c) ns ∧ ∀ b o, A = some ⟨b, o, none⟩ → w.heap.size ≤ b ∧ ∃ cs, w'.heap[b]? = some (.cells cs 3 (0, 0))) ∧ Below w.heap.size w w'

set_option maxRecDepth 100000 in
set_option maxHeartbeats 4000000 in
theorem numbers_any (s : ByteArray) (w : World) (hs : s.size ≤ 100000) (he : EnvT w) :
    Calls Tryz.prog 61 #[.string s] w (NumsP (numbersR s.data.toList) w) := by
  obtain ⟨i0, hi, hz0, hz1, hz2⟩ := info_parts info_int
  have HI := Lib.hid hi; have HZ0 := Lib.hid hz0; have HZ1 := Lib.hid hz1; have HZ2 := Lib.hid hz2; clear hi hz0 hz1 hz2
  obtain ⟨R, hR⟩ : ∃ R, numbersR s.data.toList = R := ⟨_, rfl⟩
  rw [hR]
  have HE := Lib.hid he; clear he
  by_cases h45 : s.data.toList = [45]
  · have HR : Hid (R = some []) := by unfold Hid; rw [← hR]; unfold numbersR; rw [if_pos h45]
    have hb : (s.toList == [45]) = true := by rw [toList_eq]; simp [h45]
    clear hR h45
    go_enter Tryz.func61, Tryz.ntmps61
    go_wp2_with fail
    go_ret2
    refine ⟨fun h => (by rw [HR.out] at h; cases h), fun ns h => ?_, Below.refl _ _⟩
    rw [HR.out] at h
    obtain rfl := Option.some.inj h
    exact ⟨none, 0, rfl, .inl ⟨rfl, rfl⟩, fun b o h => (by cases h)⟩
  have HR : Hid (R = numsR (spl 44 s.data.toList)) := by unfold Hid; rw [← hR]; unfold numbersR; rw [if_neg h45]
  have hb : (s.toList == [45]) = false := by rw [toList_eq]; simpa using h45
  clear hR h45
  obtain ⟨ws, hws⟩ : ∃ ws, spl 44 s.data.toList = ws := ⟨_, rfl⟩
  have hlens : (∀ x ∈ ws, x.length ≤ 100000) ∧ ws.length ≤ 100001 := by
    have h1 := join_spl 44 s.data.toList
    rw [hws] at h1
    have h2 := splitB_spl 44 s.size s (Nat.le_refl _)
    have h3 := Lib.countB_mul_le ⟨#[44]⟩ (by decide) s.size s (Nat.le_refl _)
    rw [hws] at h2
    have h4 := h2.2
    refine ⟨fun x hx => ?_, ?_⟩
    · rw [Lib.size_eq, ← h1] at hs; exact Nat.le_trans (mem_join_len hx) hs
    · have h5 : (⟨#[44]⟩ : ByteArray).size = 1 := rfl
      rw [h5, Nat.mul_one] at h3
      omega
  obtain ⟨hlen, hwl⟩ := hlens
  have HWS := Lib.hid hws; have HLN := Lib.hid hlen
  clear hws hlen
  go_enter Tryz.func61, Tryz.ntmps61
  go_wp2_with fail
  refine (splitc_any 44 s _ (by omega) HE.out.env).mono ?_
  rw [HWS.out]
  rintro e w1 ⟨rfl, hb1, hz1, hc1⟩
  have HC1 := Lib.hid hc1; have HB1 := Lib.hid hb1
  clear hc1 hb1
  obtain ⟨N, hN⟩ : ∃ N, ws.length = N := ⟨_, rfl⟩
  have HN := Lib.hid hN
  rw [hN] at hwl ⊢
  clear hN
  go_wp2_with fail
  go_loopw [4, 14] (fun v i wr => ∃ (k : Nat) (ns : List Int), k ≤ N ∧ i = .int .i64 k ∧ Hid (numsR (ws.take k) = some ns) ∧ ns.length = k ∧ wr.ownsRow (w.heap.size + 1) 3 1 v k (ns.map encI) ∧ Hid (Below w1.heap.size w1 wr)) (fun _ i _ => N - (intOf i).toNat)
  case atStart => exact ⟨0, [], Nat.zero_le _, rfl, rfl, rfl, World.ownsRow_nil _ _ _ _, Below.refl _ _⟩
  case round =>
    obtain ⟨k, ns, hk, rfl, hnum, hnl, hown, hbel⟩ := hrel
    have HNL := Lib.hid hnl; clear hnl
    by_cases hlt : k < N
    · obtain ⟨x, hx⟩ : ∃ x, ws[k]? = some x := ⟨ws[k]'(by rw [HN.out]; exact hlt), by simp [HN.out, hlt]⟩
      have hcell : wr.cell? ⟨w.heap.size, 0 + k, none⟩ = some (.string ⟨x.toArray⟩) := (hbel.out.cell (p := ⟨w.heap.size, 0 + k, none⟩) (by show w.heap.size < w1.heap.size; omega)).trans (by rw [Nat.zero_add]; exact HC1.out k x hx)
      have hxl := HLN.out x (List.mem_of_getElem? hx)
      simp only [Nat.zero_add] at hcell
      have HX := Lib.hid hx
      clear hx
      go_wp2_with fail
      have hbw : Hid (Below w.heap.size w wr) := HB1.out.trans (hbel.out.mono HB1.out.size)
      refine (number_any ⟨x.toArray⟩ _ (show x.length ≤ 1000000 by omega) (HE.out.below hbw.out)).mono ?_
      rw [show (⟨x.toArray⟩ : ByteArray).data.toList = x from rfl]
      rintro e w3 ⟨rfl, hb3⟩
      have hown3 := owns_below hown hb3
      have hbel3 : Below w1.heap.size w1 w3 := hbel.out.trans (hb3.mono hbel.out.size)
      clear hown hbel hb3 hcell hbw
      cases hn : numR x with
      | none =>
        have HRN : Hid (R = none) := by unfold Hid; rw [HR.out, HWS.out, numsR_bad (List.mem_of_getElem? HX.out) hn]
        have HB3 := Lib.hid hbel3
        clear hn hown3 hbel3
        simp only [numV, argV]
        go_wp2_with fail
        go_ret2
        exact ⟨fun _ => rfl, fun ns h => (by rw [HRN.out] at h; cases h), HB1.out.trans (HB3.out.mono HB1.out.size)⟩
      | some u =>
        have HNU : Hid (numsR (ws.take (k + 1)) = some (ns ++ [u])) := by
          unfold Hid
          rw [List.take_add_one, HX.out]
          exact numsR_snoc hnum.out hn
        clear hn hnum
        simp only [numV]
        go_wp2_with (at_builtin; refine wpList_append_own _ rfl _ _ 42 rfl (w.heap.size + 1) 3 i0 _ 1 8 Tryz.underlying42 HI.out HZ0.out HZ1.out HZ2.out rfl (by decide) _ _ _ rfl (hown3.alloc _) ⟨w3.heap.size, 0, none⟩ 1 1 [encI u] rfl rfl (cell_one_new _ _ _) (by simp [Value.oneCell', encI]) (by unfold maxLen; omega) (by omega) (by have := hbel3.size; simp; omega) ?_; intro v' w4 hown4 hgrow4 _)
        have hbel4 : Hid (Below w1.heap.size w1 w4) := (hbel3.alloc (by have := hbel3.size; omega) _).grown hgrow4 (by have := hbel3.size; simp; omega) (fun q hq => by have := (hown3.lt q hq).1; omega)
        have hown5 : w4.ownsRow (w.heap.size + 1) 3 1 v' (k + 1) ((ns ++ [u]).map encI) := by rw [List.map_append]; exact hown4
        clear hown3 hbel3 hgrow4 hown4
        go_wp2_with fail
        go_roundw
        case rel => exact ⟨k + 1, ns ++ [u], by omega, by go_num, HNU, by rw [List.length_append, HNL.out]; rfl, hown5, hbel4⟩
        case measure => simp [intOf]; omega
    · obtain rfl : k = N := by omega
      have HRN : Hid (R = some ns) := by unfold Hid; rw [HR.out, HWS.out, ← hnum.out, ← HN.out, List.take_length]
      obtain ⟨A, c, hv⟩ := ownsRow_slice hown
      subst hv
      have hrd : Hid (RdS encI wr (.slice A ns.length c) ns) := by
        have h1 := hown
        rw [← HNL.out] at h1
        exact rdS_of_owns h1
      have hst : Hid (∀ b o, A = some ⟨b, o, none⟩ → w.heap.size ≤ b ∧ ∃ cs, wr.heap[b]? = some (.cells cs 3 (0, 0))) := fun b o e => ⟨by have := (hown.lt b (by rw [e]; rfl)).1; omega, owns_block hown (by rw [e]; rfl)⟩
      clear hown hnum
      go_wp2_with fail
      go_ret2
      refine ⟨fun h => (by rw [HRN.out] at h; cases h), fun ms h => ?_, HB1.out.trans (hbel.out.mono HB1.out.size)⟩
      rw [HRN.out] at h
      obtain rfl := Option.some.inj h
      exact ⟨A, c, by rw [HNL.out]; rfl, hrd.out, hst.out⟩
end Go.Proofs.YtcbdmaelgedbkaaGreatDoor
