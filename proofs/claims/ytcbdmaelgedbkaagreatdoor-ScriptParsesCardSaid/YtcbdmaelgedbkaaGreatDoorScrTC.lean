/- Walks of the reference's Digits, Hex, Word. -/
import Derived.Test.YtcbdmaelgedbkaaGreatDoorScrTB
import Derived.Laws.Bits64
import Derived.Deep.QuietTactic
import Derived.BigQuiet
import Derived.IntWalk
namespace Go.Proofs.YtcbdmaelgedbkaaGreatDoor
open Go.RowKit Go.Shelf

theorem decDigits_step (m : Nat) (h : 9 < m) : Lib.decDigits m = Lib.decDigits (m / 10) ++ [UInt8.ofNat (48 + m % 10)] := by
  rw [Lib.decDigits]; rw [dif_neg (by omega)]
theorem decDigits_one (m : Nat) (h : m ≤ 9) : Lib.decDigits m = [UInt8.ofNat (48 + m)] := by
  rw [Lib.decDigits]; rw [dif_pos (by omega)]
theorem ba_app (a b : List UInt8) : ((⟨a.toArray⟩ : ByteArray) ++ ⟨b.toArray⟩) = ⟨(a ++ b).toArray⟩ := by
  apply ByteArray.ext
  rw [ByteArray.data_append]; simp
set_option maxRecDepth 100000 in
set_option maxHeartbeats 4000000 in
theorem digits_any (n : Int) (w : World) (h0 : -9223372036854775808 ≤ n) (h1 : n ≤ 9223372036854775807) :
    Calls Tryz.prog 15 #[.int .i64 n] w fun e w' => e = .returned (.string ⟨(Lib.itoa n).toArray⟩) ∧ Below w.heap.size w w' := by
  obtain ⟨D, hD⟩ : ∃ D, Lib.decDigits n.natAbs = D := ⟨_, rfl⟩
  have hDL : D.length ≤ 21 := by
    have := Lib.itoa_length_le n h0 h1
    unfold Lib.itoa at this
    split at this
    · rw [hD] at this; simp at this; omega
    · rw [show n.toNat = n.natAbs from by omega, hD] at this; exact this
  have HD := Lib.hid hD; have HDL := Lib.hid hDL; clear hD hDL
  by_cases hn : n < 0
  · go_enter Tryz.func15, Tryz.ntmps15
    go_wp2_with fail
    rw [show IntKind.u64.wrap (-IntKind.u64.wrap n) = (n.natAbs : Int) from by rw [IntKind.wrap_u64, IntKind.wrap_u64]; omega]
    go_loopw [3, 4] (fun sv uv wr => ∃ (m : Nat) (t : List UInt8), m ≤ 9223372036854775808 ∧ uv = .int .u64 m ∧ sv = .string ⟨t.toArray⟩ ∧ t.length ≤ 21 ∧ Hid (Lib.decDigits m ++ t = D) ∧ Hid (Below w.heap.size w wr)) (fun _ uv _ => (intOf uv).toNat)
    case atStart => exact ⟨n.natAbs, [], by omega, rfl, rfl, by simp, by unfold Hid; rw [HD.out]; simp, Below.refl _ _⟩
    case round =>
      obtain ⟨m, t, hm, rfl, rfl, ht, hD, hbel⟩ := hrel
      by_cases h9 : 9 < m
      · obtain ⟨c, hc⟩ : ∃ c, UInt8.ofNat (48 + m % 10) = c := ⟨_, rfl⟩
        have hcn : (48 : Int) + (m : Int) % 10 = ((c.toNat : Nat) : Int) := by
          rw [← hc, UInt8.toNat_ofNat_of_lt' (by show 48 + m % 10 < 256; omega)]; omega
        have hD2 : Hid (Lib.decDigits (m / 10) ++ (c :: t) = D) := by
          unfold Hid; rw [← hD.out, decDigits_step m h9, hc]; simp
        have hlen : (c :: t).length ≤ 21 := by
          have := congrArg List.length hD2.out
          have h2 := HDL.out
          simp at this h2 ⊢; omega
        have hc256 : ((c.toNat : Nat) : Int) < 256 := by have := c.toNat_lt; omega
        have hconv := run_string_of (src := 41) (w := wr.alloc (.cells #[.int .u8 (c.toNat : Int)] 5)) (v := .slice (some ⟨wr.heap.size, 0, none⟩) 1 1) (l := [c]) Tryz.underlying41 Tryz.underlying5 Tryz.underlying9 (.inr (.inr ⟨wr.heap.size, 0, 1, rfl, by simp, Nat.le_refl _, fun j x hj => by
          match j, hj with
          | 0, hj => cases hj; simp [encB]⟩))
        have hlen2 : t.length + 1 ≤ 21 := hlen
        clear hc hD hlen
        go_wp2_with fail
        go_roundw
        case rel => exact ⟨m / 10, c :: t, by omega, by simp, congrArg Value.string (ba_app [c] t), hlen2, hD2, hbel.out.alloc hbel.out.size _⟩
        case measure => simp [intOf]; omega
      · have h9' : m ≤ 9 := by omega
        obtain ⟨c, hc⟩ : ∃ c, UInt8.ofNat (48 + m) = c := ⟨_, rfl⟩
        have hcn : (48 : Int) + (m : Int) = ((c.toNat : Nat) : Int) := by
          rw [← hc, UInt8.toNat_ofNat_of_lt' (by show 48 + m < 256; omega)]; omega
        have hD2 : Hid (c :: t = D) := by
          unfold Hid; rw [← hD.out, decDigits_one m h9', hc]; rfl
        have hc256 : ((c.toNat : Nat) : Int) < 256 := by have := c.toNat_lt; omega
        have hconv := run_string_of (src := 41) (w := wr.alloc (.cells #[.int .u8 (c.toNat : Int)] 5)) (v := .slice (some ⟨wr.heap.size, 0, none⟩) 1 1) (l := [c]) Tryz.underlying41 Tryz.underlying5 Tryz.underlying9 (.inr (.inr ⟨wr.heap.size, 0, 1, rfl, by simp, Nat.le_refl _, fun j x hj => by
          match j, hj with
          | 0, hj => cases hj; simp [encB]⟩))
        clear hc hD
        go_wp2_with fail
        go_ret
        refine ⟨?_, hbel.out.alloc hbel.out.size _⟩
        unfold Lib.itoa
        rw [if_pos hn, HD.out, ← hD2.out]
        exact congrArg (fun x => Ending.returned (Value.string x)) ((congrArg (fun x => (⟨#[45]⟩ : ByteArray) ++ x) (ba_app [c] t)).trans (ba_app [45] (c :: t)))
  · have hn' : 0 ≤ n := by omega
    go_enter Tryz.func15, Tryz.ntmps15
    go_wp2_with fail
    go_loopw [3, 4] (fun sv uv wr => ∃ (m : Nat) (t : List UInt8), m ≤ 9223372036854775808 ∧ uv = .int .u64 m ∧ sv = .string ⟨t.toArray⟩ ∧ t.length ≤ 21 ∧ Hid (Lib.decDigits m ++ t = D) ∧ Hid (Below w.heap.size w wr)) (fun _ uv _ => (intOf uv).toNat)
    case atStart => exact ⟨n.natAbs, [], by omega, by rw [Int.natAbs_of_nonneg hn'], rfl, by simp, by unfold Hid; rw [HD.out]; simp, Below.refl _ _⟩
    case round =>
      obtain ⟨m, t, hm, rfl, rfl, ht, hD, hbel⟩ := hrel
      by_cases h9 : 9 < m
      · obtain ⟨c, hc⟩ : ∃ c, UInt8.ofNat (48 + m % 10) = c := ⟨_, rfl⟩
        have hcn : (48 : Int) + (m : Int) % 10 = ((c.toNat : Nat) : Int) := by
          rw [← hc, UInt8.toNat_ofNat_of_lt' (by show 48 + m % 10 < 256; omega)]; omega
        have hD2 : Hid (Lib.decDigits (m / 10) ++ (c :: t) = D) := by
          unfold Hid; rw [← hD.out, decDigits_step m h9, hc]; simp
        have hlen : (c :: t).length ≤ 21 := by
          have := congrArg List.length hD2.out
          have h2 := HDL.out
          simp at this h2 ⊢; omega
        have hc256 : ((c.toNat : Nat) : Int) < 256 := by have := c.toNat_lt; omega
        have hconv := run_string_of (src := 41) (w := wr.alloc (.cells #[.int .u8 (c.toNat : Int)] 5)) (v := .slice (some ⟨wr.heap.size, 0, none⟩) 1 1) (l := [c]) Tryz.underlying41 Tryz.underlying5 Tryz.underlying9 (.inr (.inr ⟨wr.heap.size, 0, 1, rfl, by simp, Nat.le_refl _, fun j x hj => by
          match j, hj with
          | 0, hj => cases hj; simp [encB]⟩))
        have hlen2 : t.length + 1 ≤ 21 := hlen
        clear hc hD hlen
        go_wp2_with fail
        go_roundw
        case rel => exact ⟨m / 10, c :: t, by omega, by simp, congrArg Value.string (ba_app [c] t), hlen2, hD2, hbel.out.alloc hbel.out.size _⟩
        case measure => simp [intOf]; omega
      · have h9' : m ≤ 9 := by omega
        obtain ⟨c, hc⟩ : ∃ c, UInt8.ofNat (48 + m) = c := ⟨_, rfl⟩
        have hcn : (48 : Int) + (m : Int) = ((c.toNat : Nat) : Int) := by
          rw [← hc, UInt8.toNat_ofNat_of_lt' (by show 48 + m < 256; omega)]; omega
        have hD2 : Hid (c :: t = D) := by
          unfold Hid; rw [← hD.out, decDigits_one m h9', hc]; rfl
        have hc256 : ((c.toNat : Nat) : Int) < 256 := by have := c.toNat_lt; omega
        have hconv := run_string_of (src := 41) (w := wr.alloc (.cells #[.int .u8 (c.toNat : Int)] 5)) (v := .slice (some ⟨wr.heap.size, 0, none⟩) 1 1) (l := [c]) Tryz.underlying41 Tryz.underlying5 Tryz.underlying9 (.inr (.inr ⟨wr.heap.size, 0, 1, rfl, by simp, Nat.le_refl _, fun j x hj => by
          match j, hj with
          | 0, hj => cases hj; simp [encB]⟩))
        clear hc hD
        go_wp2_with fail
        go_ret
        refine ⟨?_, hbel.out.alloc hbel.out.size _⟩
        unfold Lib.itoa
        rw [if_neg (by omega), show n.toNat = n.natAbs from by omega, HD.out, ← hD2.out]
        exact congrArg (fun x => Ending.returned (Value.string x)) (ba_app [c] t)

theorem dig_cut (n : Nat) (h : n < 16) : (ByteArray.mk #[48, 49, 50, 51, 52, 53, 54, 55, 56, 57, 97, 98, 99, 100, 101, 102]).extract n (n + 1) = ⟨#[hexd n]⟩ := by
  have : ∀ m : Fin 16, ((ByteArray.mk #[48, 49, 50, 51, 52, 53, 54, 55, 56, 57, 97, 98, 99, 100, 101, 102]).extract m.val (m.val + 1)).data.toList = [hexd m.val] := by decide +kernel
  have h2 := this ⟨n, h⟩
  apply ByteArray.ext
  apply Array.toList_inj.1
  exact h2
set_option maxRecDepth 100000 in
set_option maxHeartbeats 4000000 in
theorem refhex_any (b : Nat) (u : UInt8) (w : World) (hc : w.cell? ⟨b, 0, none⟩ = some (.int .u8 (u.toNat : Int))) :
    Calls Tryz.prog 33 #[.slice (some ⟨b, 0, none⟩) 1 1] w fun e w' => e = .returned (.string ⟨(hexL [u]).toArray⟩) ∧ Below w.heap.size w w' := by
  obtain ⟨x, hx⟩ : ∃ x : Nat, u.toNat / 16 = x := ⟨_, rfl⟩
  obtain ⟨y, hy⟩ : ∃ x : Nat, u.toNat % 16 = x := ⟨_, rfl⟩
  have hu := u.toNat_lt
  have hxx : (u.toNat : Int) / 16 = (x : Int) := by omega
  have hyy : (u.toNat : Int) % 16 = (y : Int) := by omega
  have hu256 : (u.toNat : Int) < 256 := by omega
  have hx16 : x < 16 := by omega
  have hy16 : y < 16 := by omega
  have hwx : IntKind.i64.wrap ((x : Int) + 1) = (x : Int) + 1 := IntWalk.i64_in _ (by omega)
  have hwy : IntKind.i64.wrap ((y : Int) + 1) = (y : Int) + 1 := IntWalk.i64_in _ (by omega)
  have HX := Lib.hid hx; have HY := Lib.hid hy; clear hx hy hu
  go_enter Tryz.func33, Tryz.ntmps33
  go_wp2_with fail
  refine wp_loop_rounds 2 ?_
  rw [rounds_succ]
  go_wp2_with fail
  go_quiet (fail)
  go_wp2_with fail
  go_quiet (fail)
  rw [dig_cut x hx16, dig_cut y hy16]
  go_wp2_with fail
  rw [rounds_succ]
  go_wp2_with fail
  go_ret
  refine ⟨?_, below_drewN (Below.refl _ _) _⟩
  have e : hexL [u] = [hexd x, hexd y] := by simp [hexL, HX.out, HY.out]
  rw [e]
  exact congrArg (fun z => Ending.returned (Value.string z)) ((congrArg (fun z => z ++ (⟨[hexd y].toArray⟩ : ByteArray)) (ba_app [] [hexd x])).trans (ba_app [hexd x] [hexd y]))
end Go.Proofs.YtcbdmaelgedbkaaGreatDoor
