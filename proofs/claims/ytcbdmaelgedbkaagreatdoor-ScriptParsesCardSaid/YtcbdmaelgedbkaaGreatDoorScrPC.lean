/- Walks: what finds a line's kind. -/
import Derived.Test.YtcbdmaelgedbkaaGreatDoorScrPB
namespace Go.Proofs.YtcbdmaelgedbkaaGreatDoor
open Go.RowKit Go.Shelf

/-- The number of the kind that bears a name. -/
def kindOf (a : List UInt8) : Option Nat := kindsT.findIdx? fun x => x.1 == a
theorem kindOf_self : ∀ k : Fin 26, (kindsT[k.val]?.map fun x => kindOf x.1) = some (some k.val) := by decide +kernel
theorem kindOf_some {a : List UInt8} {k : Nat} {x : List UInt8 × List UInt8} (h : kindsT[k]? = some x) (e : x.1 = a) : kindOf a = some k := by
  have hk : k < 26 := (List.getElem?_eq_some_iff.1 h).1
  have := kindOf_self ⟨k, hk⟩
  simp only [h, Option.map_some, Option.some.injEq] at this
  rw [← e]; exact this
theorem kindOf_none {a : List UInt8} (h : ∀ (k : Nat) (x : List UInt8 × List UInt8), kindsT[k]? = some x → x.1 ≠ a) : kindOf a = none := by
  refine List.findIdx?_eq_none_iff.2 fun x hx => ?_
  obtain ⟨k, hk⟩ := List.getElem?_of_mem hx
  simpa using h k x hk
theorem kindOf_get {a : List UInt8} {k : Nat} (h : kindOf a = some k) : ∃ x, kindsT[k]? = some x ∧ x.1 = a := by
  obtain ⟨hk, he, -⟩ := List.findIdx?_eq_some_iff_getElem.1 h
  exact ⟨kindsT[k], by simp [hk], by simpa using he⟩

set_option maxRecDepth 100000 in
set_option maxHeartbeats 2000000 in
theorem deed1_any (x : List UInt8 × List UInt8) (hx : x ∈ kindsT) (a : List UInt8) (cb wb n cc : Nat) (w : World) (hn : 0 < n) (hc : w.cell? ⟨cb, 0, none⟩ = some (.slice (some ⟨wb, 0, none⟩) n cc)) (ha : w.cell? ⟨wb, 0, none⟩ = some (.string ⟨a.toArray⟩)) (he : Env w) :
    Calls Tryz.prog 42 #[.string ⟨(kindText x).toArray⟩, .pointer (some ⟨cb, 0, none⟩)] w fun e w' => e = .returned (.bool (x.1 == a)) ∧ ∃ n, w' = w.drewN n := by
  obtain ⟨mm, hmm⟩ := he.maxLen
  have HC := Lib.hid (cut_kind x hx)
  have HL := Lib.hid (kinds_len x hx)
  clear he hx
  have hszt : (kindText x).length < 20 := by
    have := HL.out
    unfold kindText
    split <;> simp <;> omega
  go_enter Tryz.func42, Tryz.ntmps42
  go_wp2_with fail
  refine (Tryz.strings_Cut ⟨(kindText x).toArray⟩ ⟨#[32]⟩ mm w (by show (kindText x).length < _; omega) hmm).mono ?_
  rintro e w2 ⟨rfl, n2, rfl⟩
  have e1 : Lib.cut ((⟨(kindText x).toArray⟩ : ByteArray)).data.toList ((⟨#[32]⟩ : ByteArray)).data.toList = (x.1, x.2, !x.2.isEmpty) := HC.out
  rw [e1]
  clear e1 hszt hmm
  have hc2 : (w.drewN n2).cell? ⟨cb, 0, none⟩ = some (.slice (some ⟨wb, 0, none⟩) n cc) := hc
  have ha2 : (w.drewN n2).cell? ⟨wb, 0 + 0, none⟩ = some (.string ⟨a.toArray⟩) := ha
  simp only [Nat.zero_add] at ha2
  clear hc ha
  go_wp2_with fail
  go_ret
  refine ⟨?_, n2, rfl⟩
  simp [toList_eq]

/-- What the number of a name is, or -1. -/
def idxV (a : List UInt8) : Int := match kindOf a with
  | some k => k
  | none => -1

set_option maxRecDepth 100000 in
set_option maxHeartbeats 2000000 in
theorem index_any (a : List UInt8) (kb cb wb n cc : Nat) (w : World) (hn : 0 < n) (hk : ∀ j x, kindsT[j]? = some x → w.cell? ⟨kb, j, none⟩ = some (.string ⟨(kindText x).toArray⟩)) (hc : w.cell? ⟨cb, 0, none⟩ = some (.slice (some ⟨wb, 0, none⟩) n cc)) (ha : w.cell? ⟨wb, 0, none⟩ = some (.string ⟨a.toArray⟩)) (he : Env w) :
    Calls Tryz.prog 40 #[.slice (some ⟨kb, 0, none⟩) 26 26, .func (.func 42) #[] #[.pointer (some ⟨cb, 0, none⟩)]] w fun e w' => e = .returned (.int .i64 (idxV a)) ∧ ∃ n, w' = w.drewN n := by
  have HK := Lib.hid hk; have HE := Lib.hid he; have HC := Lib.hid hc; have HA := Lib.hid ha
  clear hk he hc ha
  go_enter Tryz.func40, Tryz.ntmps40
  go_wp2_with fail
  go_loopw [8] (fun i wr => ∃ (k : Nat), k ≤ 26 ∧ i = .int .i64 k ∧ Hid (∀ j x, j < k → kindsT[j]? = some x → x.1 ≠ a) ∧ Hid (∃ q, wr = w.drewN q)) (fun i _ => 26 - (intOf i).toNat)
  case atStart => exact ⟨0, Nat.zero_le _, rfl, fun j x hj => (by omega), ⟨0, rfl⟩⟩
  case round =>
    obtain ⟨k, hk, rfl, hno, hq⟩ := hrel
    obtain ⟨q, hq⟩ := hq.out
    have HQ := Lib.hid hq
    by_cases hlt : k < 26
    · obtain ⟨x, hx⟩ := kind_at hlt
      have hcell : wr.cell? ⟨kb, 0 + k, none⟩ = some (.string ⟨(kindText x).toArray⟩) := by rw [hq, Nat.zero_add]; exact HK.out k x hx
      simp only [Nat.zero_add] at hcell
      have HX := Lib.hid hx
      clear hq hx
      go_wp2_with fail
      refine (deed1_any x (List.mem_of_getElem? HX.out) a cb wb n cc wr hn (by rw [HQ.out]; exact HC.out) (by rw [HQ.out]; exact HA.out) (by rw [HQ.out]; exact HE.out.below (below_drewN (Below.refl _ _) q))).mono ?_
      rintro e w3 ⟨rfl, n3, rfl⟩
      have HQ3 : Hid (∃ q, wr.drewN n3 = w.drewN q) := by
        have h1 : (w.drewN q).drewN n3 = w.drewN (q + n3) := by simp [World.drewN, Nat.add_assoc]
        exact ⟨q + n3, by rw [HQ.out]; exact h1⟩
      by_cases hxa : x.1 = a
      · have hb : (x.1 == a) = true := by simpa using hxa
        have HI : Hid (idxV a = k) := by unfold Hid idxV; rw [kindOf_some HX.out hxa]
        simp only [hb]
        clear hxa hb hcell
        go_wp2_with fail
        go_ret
        exact ⟨by rw [HI.out]; rfl, HQ3.out⟩
      · have hb : (x.1 == a) = false := by simpa using hxa
        have HNO : Hid (∀ j y, j < k + 1 → kindsT[j]? = some y → y.1 ≠ a) := fun j y hj hy => by
          rcases Nat.lt_or_ge j k with h | h
          · exact hno.out j y h hy
          · obtain rfl : j = k := by omega
            have := HX.out
            rw [this] at hy
            obtain rfl := Option.some.inj hy
            exact hxa
        simp only [hb]
        clear hxa hb hcell
        go_wp2_with fail
        go_roundw
        case rel => exact ⟨k + 1, by omega, by go_num, HNO, HQ3⟩
        case measure => simp [intOf]; omega
    · obtain rfl : k = 26 := by omega
      have HI : Hid (idxV a = -1) := by
        unfold Hid idxV
        rw [kindOf_none fun j y hy => hno.out j y (List.getElem?_eq_some_iff.1 hy).1 hy]
      clear hq
      go_wp2_with fail
      go_ret
      exact ⟨by rw [HI.out]; rfl, hq.out⟩
end Go.Proofs.YtcbdmaelgedbkaaGreatDoor
