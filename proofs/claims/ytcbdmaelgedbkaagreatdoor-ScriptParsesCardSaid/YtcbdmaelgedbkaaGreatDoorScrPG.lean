/- The walk of the reference's word. -/
import Derived.Test.YtcbdmaelgedbkaaGreatDoorScrTE
import Derived.Test.YtcbdmaelgedbkaaGreatDoorScrPF
namespace Go.Proofs.YtcbdmaelgedbkaaGreatDoor
open Go.RowKit Go.Shelf

/-- The letter of what a kind has. -/
def letZ (z : Int) : UInt8 := if z = 1 then 80 else if z = 2 then 65 else if z = 3 then 78 else if z = 4 then 77 else if z = 5 then 75 else if z = 6 then 66 else 76
def wordZ (d : RDeed) (z : Int) : List UInt8 := partL d (letZ z).toNat

theorem joinI_take (l : List Int) (k : Nat) (x : Int) (h : l[k]? = some x) : Lib.join ((l.take (k + 1)).map Lib.itoa) [44] = Lib.join ((l.take k).map Lib.itoa) [44] ++ (if k = 0 then [] else [44]) ++ Lib.itoa x := by
  rw [List.take_add_one, h]
  cases k with
  | zero => simp [Lib.join_nil, Lib.join_one]
  | succ k =>
    rw [if_neg (by omega)]
    cases l with
    | nil => simp at h
    | cons y l =>
      simp only [List.take_succ_cons, List.cons_append, List.map_cons, List.map_append]
      rw [Lib.join_cons, Lib.join_cons]
      simp [Lib.joinTail]

set_option maxRecDepth 100000 in
set_option maxHeartbeats 4000000 in
theorem refpart_any (d : RDeed) (z : Int) (w : World) (hz : 1 ≤ z ∧ z ≤ 7) (hd : d.In w) :
    Calls Tryz.prog 27 #[d.val, .int .i64 z] w fun e w' => e = .returned (.string ⟨(wordZ d z).toArray⟩) ∧ Below w.heap.size w w' := by
  obtain ⟨kind, n, m, k, path, as_, bv, kv, b, keep⟩ := d
  obtain ⟨ab, cb, hbv⟩ := rdS_len hd.rb
  obtain ⟨ak, ck, hkv⟩ := rdS_len hd.rk
  simp only at hbv hkv
  have HD := Lib.hid hd; clear hd
  subst hbv hkv
  unfold RDeed.val
  simp only
  have hcase : z = 1 ∨ z = 2 ∨ z = 3 ∨ z = 4 ∨ z = 5 ∨ z = 6 ∨ z = 7 := by omega
  clear hz
  have hn := HD.out.n; have hm := HD.out.m; have hk := HD.out.k; have hps := HD.out.path; have has := HD.out.as_
  simp only at hn hm hk hps has
  rcases hcase with rfl | rfl | rfl | rfl | rfl | rfl | rfl
  · go_enter Tryz.func27, Tryz.ntmps27
    go_wp2_with fail
    refine (refword_any path _ (by omega)).mono ?_
    rintro e w1 ⟨rfl, hb1⟩
    go_wp2_with fail
    go_ret
    exact ⟨rfl, ((Below.refl _ _).alloc (Nat.le_refl _) _).trans (hb1.mono (by simp))⟩
  · go_enter Tryz.func27, Tryz.ntmps27
    go_wp2_with fail
    refine (refword_any as_ _ (by omega)).mono ?_
    rintro e w1 ⟨rfl, hb1⟩
    go_wp2_with fail
    go_ret
    exact ⟨rfl, ((Below.refl _ _).alloc (Nat.le_refl _) _).trans (hb1.mono (by simp))⟩
  · go_enter Tryz.func27, Tryz.ntmps27
    go_wp2_with fail
    refine (digits_any n _ hn.1 hn.2).mono ?_
    rintro e w1 ⟨rfl, hb1⟩
    go_wp2_with fail
    go_ret
    exact ⟨rfl, ((Below.refl _ _).alloc (Nat.le_refl _) _).trans (hb1.mono (by simp))⟩
  · go_enter Tryz.func27, Tryz.ntmps27
    go_wp2_with fail
    refine (digits_any m _ hm.1 hm.2).mono ?_
    rintro e w1 ⟨rfl, hb1⟩
    go_wp2_with fail
    go_ret
    exact ⟨rfl, ((Below.refl _ _).alloc (Nat.le_refl _) _).trans (hb1.mono (by simp))⟩
  · go_enter Tryz.func27, Tryz.ntmps27
    go_wp2_with fail
    refine (digits_any k _ hk.1 hk.2).mono ?_
    rintro e w1 ⟨rfl, hb1⟩
    go_wp2_with fail
    go_ret
    exact ⟨rfl, ((Below.refl _ _).alloc (Nat.le_refl _) _).trans (hb1.mono (by simp))⟩
  · have hb1 : Below w.heap.size w (w.alloc (.cells #[.int .i64 kind, .int .i64 n, .int .i64 m, .int .i64 k, .string path, .string as_, .slice ab b.length cb, .slice ak keep.length ck] 44)) := (Below.refl _ _).alloc (Nat.le_refl _) _
    have hconv := run_string_of (src := 41) (w := w.alloc (.cells #[.int .i64 kind, .int .i64 n, .int .i64 m, .int .i64 k, .string path, .string as_, .slice ab b.length cb, .slice ak keep.length ck] 44)) (v := .slice ab b.length cb) (l := b) Tryz.underlying41 Tryz.underlying5 Tryz.underlying9 (HD.out.rb.below hb1)
    have hbl := HD.out.b
    simp only at hbl
    go_enter Tryz.func27, Tryz.ntmps27
    go_wp2_with fail
    refine (refword_any ⟨b.toArray⟩ _ (show b.length ≤ 1000000 by omega)).mono ?_
    rintro e w1 ⟨rfl, hb2⟩
    clear hconv
    go_wp2_with fail
    go_ret
    exact ⟨rfl, hb1.trans (hb2.mono hb1.size)⟩
  · have hkl := HD.out.keepN
    simp only at hkl
    go_enter Tryz.func27, Tryz.ntmps27
    go_wp2_with fail
    obtain ⟨W0, hW0⟩ : ∃ W0, w.alloc (.cells #[.int .i64 kind, .int .i64 n, .int .i64 m, .int .i64 k, .string path, .string as_, .slice ab b.length cb, .slice ak keep.length ck] 44) = W0 := ⟨_, rfl⟩
    have hbox : W0.heap[w.heap.size]? = some (.cells #[.int .i64 kind, .int .i64 n, .int .i64 m, .int .i64 k, .string path, .string as_, .slice ab b.length cb, .slice ak keep.length ck] 44 (0, 0)) := by rw [← hW0]; exact heap_alloc_new _ _
    have HB0 : Hid (Below w.heap.size w W0) := by unfold Hid; rw [← hW0]; exact (Below.refl _ _).alloc (Nat.le_refl _) _
    have HBOX := Lib.hid hbox
    rw [hW0]
    clear hW0 hbox
    have HKI : Hid (∀ x ∈ keep, I64 x) := HD.out.keep
    have HRK : Hid (RdS encI w (.slice ak keep.length ck) keep) := HD.out.rk
    clear HD
    go_loopw [5, 6] (fun sv i wr => ∃ (j : Nat) (T : ByteArray), j ≤ keep.length ∧ i = .int .i64 j ∧ sv = .string T ∧ T.size ≤ 22 * j ∧ Hid (T = ⟨(Lib.join ((keep.take j).map Lib.itoa) [44]).toArray⟩) ∧ Hid (Below W0.heap.size W0 wr)) (fun _ i _ => keep.length - (intOf i).toNat)
    case atStart => exact ⟨0, ⟨#[]⟩, Nat.zero_le _, rfl, rfl, Nat.le_refl _, by unfold Hid; simp [Lib.join_nil], Below.refl _ _⟩
    case round =>
      obtain ⟨j, T, hj, rfl, rfl, hT, hTT, hbel⟩ := hrel
      have hc7 : wr.cell? ⟨w.heap.size, 7, none⟩ = some (.slice ak keep.length ck) := by
        have := (hbel.out.block _ (heap_lt HBOX.out)).trans HBOX.out
        simp [World.cell?, this]
      by_cases hlt : j < keep.length
      · obtain ⟨x, hx⟩ : ∃ x, keep[j]? = some x := ⟨keep[j], by simp [hlt]⟩
        obtain ⟨b1, o1, rfl, hcell⟩ := rdS_at (HRK.out.below (HB0.out.trans (hbel.out.mono HB0.out.size))) hx
        simp only [encI] at hcell
        obtain ⟨x1, x2⟩ := HKI.out x (List.mem_of_getElem? hx)
        have hxl := Lib.itoa_length_le x x1 x2
        have hnx := joinI_take keep j x hx
        have HNX := Lib.hid hnx
        clear hx hnx
        by_cases h0 : j = 0
        · subst h0
          simp only [Nat.add_zero] at hcell
          have hT2 : Hid (T ++ ⟨(Lib.itoa x).toArray⟩ = ⟨(Lib.join ((keep.take 1).map Lib.itoa) [44]).toArray⟩) := by
            unfold Hid; rw [HNX.out, hTT.out, ba_app]; simp
          have hTs : Hid ((T ++ ⟨(Lib.itoa x).toArray⟩ : ByteArray).size ≤ 22 * 1) := by
            unfold Hid; rw [ByteArray.size_append]; have : (⟨(Lib.itoa x).toArray⟩ : ByteArray).size = (Lib.itoa x).length := rfl; omega
          go_wp2_with fail
          refine (digits_any x _ x1 x2).mono ?_
          rintro e w1 ⟨rfl, hb1⟩
          have hbel3 : Hid (Below W0.heap.size W0 w1) := hbel.out.trans (hb1.mono hbel.out.size)
          clear hb1 hbel hc7 hcell
          go_wp2_with fail
          go_roundw
          case rel => exact ⟨1, _, by omega, by go_num, rfl, hTs.out, hT2, hbel3⟩
          case measure => simp [intOf]; omega
        · have hT2 : Hid (T ++ ⟨#[44]⟩ ++ ⟨(Lib.itoa x).toArray⟩ = ⟨(Lib.join ((keep.take (j + 1)).map Lib.itoa) [44]).toArray⟩) := by
            unfold Hid; rw [HNX.out, hTT.out, if_neg h0, show (⟨#[44]⟩ : ByteArray) = ⟨[44].toArray⟩ from rfl, ba_app, ba_app]
          have hTs : Hid ((T ++ ⟨#[44]⟩ ++ ⟨(Lib.itoa x).toArray⟩ : ByteArray).size ≤ 22 * (j + 1)) := by
            unfold Hid; rw [ByteArray.size_append, ByteArray.size_append]; have : (⟨(Lib.itoa x).toArray⟩ : ByteArray).size = (Lib.itoa x).length := rfl; have h4 : (⟨#[44]⟩ : ByteArray).size = 1 := rfl; omega
          have h0' : (0 : Int) < j := by omega
          go_wp2_with fail
          refine (digits_any x _ x1 x2).mono ?_
          rintro e w1 ⟨rfl, hb1⟩
          have hbel3 : Hid (Below W0.heap.size W0 w1) := hbel.out.trans (hb1.mono hbel.out.size)
          clear hb1 hbel hc7 hcell
          go_wp2_with fail
          go_roundw
          case rel => exact ⟨j + 1, _, by omega, by go_num, rfl, hTs.out, hT2, hbel3⟩
          case measure => simp [intOf]; omega
      · obtain rfl : j = keep.length := by omega
        rw [List.take_length] at hTT
        have hW : Hid (wordZ ⟨kind, n, m, k, path, as_, .slice ab b.length cb, .slice ak keep.length ck, b, keep⟩ 7 = listL keep) := rfl
        by_cases h0 : keep = []
        · have hTe : (T.toList == []) = true := by rw [toList_eq, hTT.out, h0]; rfl
          have hW2 : Hid (listL keep = [45]) := by unfold Hid listL; rw [if_pos h0]
          clear h0
          go_wp2_with fail
          go_ret
          exact ⟨by rw [hW.out, hW2.out]; rfl, HB0.out.trans (hbel.out.mono HB0.out.size)⟩
        · have hTe : (T.toList == []) = false := by
            rw [toList_eq, hTT.out]
            cases keep with
            | nil => exact absurd rfl h0
            | cons y l =>
              simp only [List.map_cons, Lib.join_cons]
              simp [(itoa_ne y).1]
          have hW2 : Hid (listL keep = Lib.join (keep.map Lib.itoa) [44]) := by unfold Hid listL; rw [if_neg h0]
          clear h0
          go_wp2_with fail
          go_ret
          exact ⟨by rw [hW.out, hW2.out, hTT.out]; rfl, HB0.out.trans (hbel.out.mono HB0.out.size)⟩
end Go.Proofs.YtcbdmaelgedbkaaGreatDoor
