/- The walk of the reference's Word. -/
import Derived.Test.YtcbdmaelgedbkaaGreatDoorScrTC
namespace Go.Proofs.YtcbdmaelgedbkaaGreatDoor
open Go.RowKit Go.Shelf

set_option maxRecDepth 100000 in
set_option maxHeartbeats 4000000 in
theorem refword_any (s : ByteArray) (w : World) (hs : s.size ≤ 1000000) :
    Calls Tryz.prog 16 #[.string s] w fun e w' => e = .returned (.string ⟨(wordL s.data.toList).toArray⟩) ∧ Below w.heap.size w w' := by
  by_cases h0 : s.data.toList = []
  · have h0' : s.toList.isEmpty = true := by rw [toList_eq]; simp [h0]
    have HW : Hid (wordL s.data.toList = [37]) := by unfold Hid wordL; rw [if_pos h0]
    clear h0
    go_enter Tryz.func16, Tryz.ntmps16
    go_wp2_with fail
    go_ret
    exact ⟨by rw [HW.out]; rfl, Below.refl _ _⟩
  have h0' : s.toList.isEmpty = false := by rw [toList_eq]; simpa using h0
  have HW : Hid (wordL s.data.toList = s.data.toList.flatMap wordC) := by unfold Hid wordL; rw [if_neg h0]
  clear h0
  go_enter Tryz.func16, Tryz.ntmps16
  go_wp2_with fail
  go_loopw [3, 4] (fun v i wr => ∃ (k : Nat) (T : ByteArray), k ≤ s.size ∧ i = .int .i64 k ∧ v = .string T ∧ T.size ≤ 3 * k ∧ Hid (T = ⟨((s.data.toList.take k).flatMap wordC).toArray⟩) ∧ Hid (Below w.heap.size w wr)) (fun _ i _ => s.size - (intOf i).toNat)
  case atStart => exact ⟨0, ⟨#[]⟩, Nat.zero_le _, rfl, rfl, Nat.le_refl 0, rfl, Below.refl _ _⟩
  case round =>
    obtain ⟨k, T, hk, rfl, rfl, hT, hTT, hbel⟩ := hrel
    by_cases hlt : k < s.size
    · obtain ⟨c, hc⟩ : ∃ c, s[k] = c := ⟨_, rfl⟩
      have hu256 : ((c.toNat : Nat) : Int) < 256 := by have := c.toNat_lt; omega
      have HT : Hid ((s.data.toList.take (k + 1)).flatMap wordC = (s.data.toList.take k).flatMap wordC ++ wordC c) := by
        unfold Hid
        rw [List.take_succ_eq_append_getElem (by simpa using hlt)]
        have : s.data.toList[k]'(by simpa using hlt) = c := hc
        simp [this]
      by_cases hcc : (33 : Int) ≤ c.toNat ∧ (c.toNat : Int) ≤ 126 ∧ (c.toNat : Int) ≠ 37
      · obtain ⟨h1, h2, h3⟩ := hcc
        have HC : Hid (wordC c = [c]) := by
          unfold Hid wordC
          rw [if_pos ⟨by rw [UInt8.lt_iff_toNat_lt]; simp; omega, by rw [UInt8.lt_iff_toNat_lt]; simp; omega, fun e => h3 (by rw [e]; rfl)⟩]
        have h3' : (((c.toNat : Nat) : Int) != 37) = true := by rw [bne_iff_ne]; exact h3
        have hex : Hid (s.extract k (k + 1) = ⟨[c].toArray⟩) := by
          unfold Hid
          apply ByteArray.ext
          apply Array.toList_inj.1
          rw [Lib.extract_data, show k + 1 - k = 1 from by omega, drop_at (by simpa using hlt)]
          have : s.data.toList[k]'(by simpa using hlt) = c := hc
          simp [this]
        have hT2 : Hid (T ++ s.extract k (k + 1) = ⟨((s.data.toList.take (k + 1)).flatMap wordC).toArray⟩) := by
          unfold Hid
          rw [hex.out, hTT.out, ba_app, HT.out, HC.out]
        have hTs : Hid ((T ++ s.extract k (k + 1)).size ≤ 3 * (k + 1)) := by
          unfold Hid
          rw [ByteArray.size_append, hex.out]; have h4 : (⟨[c].toArray⟩ : ByteArray).size = 1 := rfl; omega
        have hes : (s.extract k (k + 1)).size ≤ 1 := by rw [hex.out]; exact Nat.le_refl 1
        clear h3
        go_wp2_with fail
        go_roundw
        case rel => exact ⟨k + 1, _, by omega, by go_num, rfl, hTs.out, hT2, hbel⟩
        case measure => simp [intOf]; omega
      · have HC : Hid (wordC c = 37 :: hexL [c]) := by
          unfold Hid wordC
          rw [if_neg]
          rintro ⟨a1, a2, a3⟩
          refine hcc ⟨by rw [UInt8.lt_iff_toNat_lt] at a1; simp at a1; omega, by rw [UInt8.lt_iff_toNat_lt] at a2; simp at a2; omega, fun e => a3 ?_⟩
          exact UInt8.toNat_inj.1 (by simp; omega)
        have hl1 := hexL_length [c]
        have hT2 : Hid (T ++ ⟨#[37]⟩ ++ ⟨(hexL [c]).toArray⟩ = ⟨((s.data.toList.take (k + 1)).flatMap wordC).toArray⟩) := by
          unfold Hid
          rw [hTT.out, show (⟨#[37]⟩ : ByteArray) = ⟨[37].toArray⟩ from rfl, ba_app, ba_app, HT.out, HC.out]
          simp
        have hhs : (⟨(hexL [c]).toArray⟩ : ByteArray).size = 2 := by simp [ByteArray.size, hl1]
        have hTs : Hid ((T ++ ⟨#[37]⟩ ++ ⟨(hexL [c]).toArray⟩ : ByteArray).size ≤ 3 * (k + 1)) := by
          unfold Hid
          rw [ByteArray.size_append, ByteArray.size_append, hhs]; have h4 : (⟨#[37]⟩ : ByteArray).size = 1 := rfl; omega
        obtain ⟨H, hH⟩ : ∃ H : ByteArray, (⟨(hexL [c]).toArray⟩ : ByteArray) = H := ⟨_, rfl⟩
        rw [hH] at hT2 hTs hhs
        have hHle : H.size ≤ 2 := by omega
        have HH := Lib.hid hH
        have hcase : (c.toNat : Int) < 33 ∨ ((33 : Int) ≤ c.toNat ∧ (126 : Int) < c.toNat) ∨ ((33 : Int) ≤ c.toNat ∧ (c.toNat : Int) ≤ 126 ∧ (((c.toNat : Nat) : Int) != 37) = false) := by
          by_cases a1 : (33 : Int) ≤ c.toNat
          · by_cases a2 : (c.toNat : Int) ≤ 126
            · exact .inr (.inr ⟨a1, a2, by simp; omega⟩)
            · exact .inr (.inl ⟨a1, by omega⟩)
          · exact .inl (by omega)
        clear hcc hl1 hhs hH
        rcases hcase with a1 | ⟨a1, a2⟩ | ⟨a1, a2, a3⟩
        all_goals
          go_wp2_with fail
          refine (refhex_any wr.heap.size c _ (by simp)).mono ?_
          rintro e w1 ⟨rfl, hb1⟩
          rw [HH.out]
          have hbel3 : Hid (Below w.heap.size w w1) := hbel.out.trans ((((Below.refl _ _).alloc (Nat.le_refl _) _).trans (hb1.mono (by simp))).mono hbel.out.size)
          clear hb1 hbel
          go_wp2_with fail
          go_roundw
          case rel => exact ⟨k + 1, _, by omega, by go_num, rfl, hTs.out, hT2, hbel3⟩
          case measure => simp [intOf]; omega
    · obtain rfl : k = s.size := by omega
      have hTR : Hid (T = ⟨(wordL s.data.toList).toArray⟩) := by
        unfold Hid; rw [hTT.out, HW.out, List.take_of_length_le (by simp)]
      go_wp2_with fail
      go_ret
      exact ⟨by rw [hTR.out]; rfl, hbel.out⟩
end Go.Proofs.YtcbdmaelgedbkaaGreatDoor
