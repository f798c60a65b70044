/- Walks of package script's small functions: octets.Hex, script.word, script.list, script.names. -/
import Derived.Test.YtcbdmaelgedbkaaGreatDoorScrBase
namespace Go.Proofs.YtcbdmaelgedbkaaGreatDoor
open Go.RowKit Go.Shelf

/-- The hexadecimal digit of a number below 16. -/
def hexd (n : Nat) : UInt8 := if n < 10 then (48 + n).toUInt8 else (87 + n).toUInt8
def hexL (l : List UInt8) : List UInt8 := l.flatMap fun c => [hexd (c.toNat / 16), hexd (c.toNat % 16)]
/-- What stands for an octet in a word. -/
def wordC (c : UInt8) : List UInt8 := if 32 < c ∧ c < 127 ∧ c ≠ 37 then [c] else 37 :: hexL [c]
def wordL (l : List UInt8) : List UInt8 := if l = [] then [37] else l.flatMap wordC

theorem dig_idx (n : Nat) (h : n < (ByteArray.mk #[48, 49, 50, 51, 52, 53, 54, 55, 56, 57, 97, 98, 99, 100, 101, 102]).size) : (ByteArray.mk #[48, 49, 50, 51, 52, 53, 54, 55, 56, 57, 97, 98, 99, 100, 101, 102])[n] = hexd n := by
  have : ∀ m : Fin 16, (ByteArray.mk #[48, 49, 50, 51, 52, 53, 54, 55, 56, 57, 97, 98, 99, 100, 101, 102])[m.val]'m.isLt = hexd m.val := by decide
  exact this ⟨n, h⟩

theorem hexL_snoc (l : List UInt8) (c : UInt8) : hexL (l ++ [c]) = hexL l ++ [hexd (c.toNat / 16)] ++ [hexd (c.toNat % 16)] := by simp [hexL]
theorem hexL_length (l : List UInt8) : (hexL l).length = 2 * l.length := by
  induction l with
  | nil => rfl
  | cons c l ih => simp only [hexL, List.flatMap_cons, List.length_append, List.length_cons, List.length_nil] at *; omega

set_option maxRecDepth 100000 in
set_option maxHeartbeats 400000 in
theorem hex_any (b off c : Nat) (l : List UInt8) (w : World) (hc : ∀ j u, l[j]? = some u → w.cell? ⟨b, off + j, none⟩ = some (.int .u8 (u.toNat : Int))) (hl : l.length ≤ 1000000) (hb : b < w.heap.size) :
    Calls Tryz.prog 49 #[.slice (some ⟨b, off, none⟩) l.length c] w fun e w' => e = .returned (.string ⟨(hexL l).toArray⟩) ∧ Below w.heap.size w w' := by
  have HC := Lib.hid hc; clear hc
  go_enter Tryz.func49, Tryz.ntmps49
  go_wp2_with fail
  go_loopw [8] (fun i wr => ∃ k : Nat, k ≤ l.length ∧ i = .int .i64 k ∧ Lib.IsBuilder 47 5 w.heap.size w.heap.size (Lib.byteCells (hexL (l.take k))) wr ∧ Below w.heap.size w wr) (fun i _ => l.length - (intOf i).toNat)
  case atStart =>
    refine ⟨0, Nat.zero_le _, rfl, .inl ⟨Nat.le_refl _, _, heap_alloc_new w _, ?_, ?_⟩, (Below.refl _ _).alloc (Nat.le_refl _) _⟩
    · exact World.ownsRow_nil _ _ _ _
    · simp [Value.ownBlock]
  case round =>
    obtain ⟨k, hk, rfl, hB, hbel⟩ := hrel
    by_cases hlt : k < l.length
    · obtain ⟨u, hu⟩ : ∃ u, l[k]? = some u := ⟨l[k], by simp [hlt]⟩
      have hcell : wr.cell? ⟨b, off + k, none⟩ = some (.int .u8 (u.toNat : Int)) := (hbel.cell (p := ⟨b, off + k, none⟩) hb).trans (HC.out k u hu)
      have hu256 : (u.toNat : Int) < 256 := by have := u.toNat_lt; omega
      have h16 : (u.toNat : Int) / 16 < 16 := by omega
      have h16' : (u.toNat : Int) % 16 < 16 := by omega
      have hlen := hexL_length (l.take k)
      have hlen' : (l.take k).length ≤ l.length := by simp; omega
      have HU := Lib.hid hu; clear hu
      have HL := Lib.hid hlen; clear hlen
      go_wp2_with fail
      rw [dig_idx]
      refine (Tryz.Builder_WriteByte _ _ _ _ _ hB (by simp [Lib.byteCells, HL.out]; omega) hbel.size).mono ?_
      rintro e w1 ⟨rfl, hB1, hbel1⟩
      go_wp2_with fail
      rw [dig_idx]
      refine (Tryz.Builder_WriteByte _ _ _ _ _ (.inr hB1) (by simp [Lib.byteCells, HL.out]; omega) (by have := hbel1.size; have := hbel.size; omega)).mono ?_
      rintro e w2 ⟨rfl, hB2, hbel2⟩
      have hbel3 : Below w.heap.size w w2 := hbel.trans (hbel1.trans hbel2)
      clear hB hbel hB1 hbel1 hbel2 hcell
      go_wp2_with fail
      go_roundw
      case rel =>
        refine ⟨k + 1, by omega, by go_num, .inr ?_, hbel3⟩
        rw [show l.take (k + 1) = l.take k ++ [u] from by rw [List.take_add_one, HU.out]; rfl, hexL_snoc, byteCells_append, byteCells_append]
        exact hB2
      case measure => simp [intOf]; omega
    · obtain rfl : k = l.length := by omega
      rw [List.take_length] at hB
      go_wp2_with fail
      refine (Tryz.Builder_String_any _ _ _ _ hB hbel.size).mono ?_
      rintro e w1 ⟨rfl, hbel1⟩
      go_wp2_with fail
      go_ret
      exact ⟨rfl, hbel.trans hbel1⟩



theorem wordL_le (l : List UInt8) : (l.flatMap wordC).length ≤ 3 * l.length := by
  induction l with
  | nil => simp
  | cons c l ih =>
    have : (wordC c).length ≤ 3 := by unfold wordC; split <;> simp [hexL]
    simp only [List.flatMap_cons, List.length_append, List.length_cons]; omega

set_option maxRecDepth 100000 in
set_option maxHeartbeats 1000000 in
theorem word_any (s : ByteArray) (w : World) (hs : s.size ≤ 1000000000) :
    Calls Tryz.prog 31 #[.string s] w fun e w' => e = .returned (.string ⟨(wordL s.data.toList).toArray⟩) ∧ Below w.heap.size w w' := by
  by_cases h0 : s.data.toList = []
  · have h0' : s.toList.isEmpty = true := by rw [toList_eq]; simp [h0]
    have HW : Hid (wordL s.data.toList = [37]) := by unfold Hid wordL; rw [if_pos h0]
    clear h0
    go_enter Tryz.func31, Tryz.ntmps31
    go_wp2_with fail
    go_ret
    exact ⟨by rw [HW.out]; rfl, Below.refl _ _⟩
  have h0' : s.toList.isEmpty = false := by rw [toList_eq]; simpa using h0
  have HW : Hid (wordL s.data.toList = s.data.toList.flatMap wordC) := by unfold Hid wordL; rw [if_neg h0]
  clear h0
  go_enter Tryz.func31, Tryz.ntmps31
  go_wp2_with fail
  go_loopw [10] (fun i wr => ∃ k : Nat, k ≤ s.size ∧ i = .int .i64 k ∧ Lib.IsBuilder 47 5 w.heap.size w.heap.size (Lib.byteCells ((s.data.toList.take k).flatMap wordC)) wr ∧ Below w.heap.size w wr) (fun i _ => s.size - (intOf i).toNat)
  case atStart =>
    refine ⟨0, Nat.zero_le _, rfl, .inl ⟨Nat.le_refl _, _, heap_alloc_new w _, ?_, ?_⟩, (Below.refl _ _).alloc (Nat.le_refl _) _⟩
    · exact World.ownsRow_nil _ _ _ _
    · simp [Value.ownBlock]
  case round =>
    obtain ⟨k, hk, rfl, hB, hbel⟩ := hrel
    by_cases hlt : k < s.size
    · have hu256 : ((s[k].toNat : Nat) : Int) < 256 := by have := s[k].toNat_lt; omega
      have hwl := wordL_le (s.data.toList.take k)
      have hlen' : (s.data.toList.take k).length ≤ s.size := by simp; omega
      have HL := Lib.hid (Nat.le_trans hwl (Nat.mul_le_mul_left 3 hlen')); clear hwl hlen'
      have HT : Hid ((s.data.toList.take (k + 1)).flatMap wordC = (s.data.toList.take k).flatMap wordC ++ wordC s[k]) := by
        unfold Hid
        rw [List.take_succ_eq_append_getElem (by simpa using hlt)]
        simp
        rfl
      by_cases hc : (32 : Int) < s[k].toNat ∧ (s[k].toNat : Int) < 127 ∧ (s[k].toNat : Int) ≠ 37
      · obtain ⟨h1, h2, h3⟩ := hc
        have HC : Hid (wordC s[k] = [s[k]]) := by
          unfold Hid wordC
          rw [if_pos ⟨by rw [UInt8.lt_iff_toNat_lt]; simp; omega, by rw [UInt8.lt_iff_toNat_lt]; simp; omega, fun e => h3 (by rw [e]; rfl)⟩]
        have h3' : (((s[k].toNat : Nat) : Int) != 37) = true := by rw [bne_iff_ne]; exact h3
        clear h3
        go_wp2_with fail
        refine (Tryz.Builder_WriteByte _ _ _ _ _ hB (by rw [byteCells_length]; have := HL.out; omega) hbel.size).mono ?_
        rintro e w1 ⟨rfl, hB1, hbel1⟩
        have hbel3 : Below w.heap.size w w1 := hbel.trans hbel1
        clear hB hbel hbel1
        go_wp2_with fail
        go_roundw
        case rel =>
          refine ⟨k + 1, by omega, by go_num, .inr ?_, hbel3⟩
          rw [HT.out, HC.out, byteCells_append]
          exact hB1
        case measure => simp [intOf]; omega
      · have HC : Hid (wordC s[k] = 37 :: hexL [s[k]]) := by
          unfold Hid wordC
          rw [if_neg]
          rintro ⟨a1, a2, a3⟩
          refine hc ⟨by rw [UInt8.lt_iff_toNat_lt] at a1; simp at a1; omega, by rw [UInt8.lt_iff_toNat_lt] at a2; simp at a2; omega, fun e => a3 ?_⟩
          exact UInt8.toNat_inj.1 (by simp; omega)
        have hcc : (s[k].toNat : Int) ≤ 32 ∨ ((32 : Int) < s[k].toNat ∧ (127 : Int) ≤ s[k].toNat) ∨ ((32 : Int) < s[k].toNat ∧ (s[k].toNat : Int) < 127 ∧ (((s[k].toNat : Nat) : Int) != 37) = false) := by
          by_cases a1 : (32 : Int) < s[k].toNat
          · by_cases a2 : (s[k].toNat : Int) < 127
            · exact .inr (.inr ⟨a1, a2, by simp; omega⟩)
            · exact .inr (.inl ⟨a1, by omega⟩)
          · exact .inl (by omega)
        have hl1 := hexL_length [s[k]]
        have HX := Lib.hid hl1
        clear hc hl1
        rcases hcc with a1 | ⟨a1, a2⟩ | ⟨a1, a2, a3⟩
        all_goals
          go_wp2_with fail
          refine (hex_any wr.heap.size 0 1 [s[k]] _ (fun j u hj => by cases j with | zero => simp at hj; subst hj; simp [go_sem] | succ j => simp at hj) (by simp) (by simp)).mono ?_
          rintro e w1 ⟨rfl, hb1⟩
          go_wp2_with fail
          have hb2 : Below wr.heap.size wr w1 := ((Below.refl _ _).alloc (Nat.le_refl _) _).trans (hb1.mono (by simp))
          have hsz := hb2.size
          have hsz0 := hbel.size
          refine (Tryz.Builder_WriteString _ _ _ _ _ (isBuilder_below hB hb2) (by
            rw [byteCells_length, Lib.size_eq, data_app]
            have := HL.out
            have := HX.out
            simp at *
            omega) (by omega)).mono ?_
          rintro e w2 ⟨rfl, hB2, hb3⟩
          have hbel3 : Below w.heap.size w w2 := hbel.trans ((hb2.mono hbel.size).trans hb3)
          clear hB hbel hb1 hb2 hb3 hsz hsz0
          go_wp2_with fail
          go_roundw
          case rel =>
            refine ⟨k + 1, by omega, by go_num, .inr ?_, hbel3⟩
            rw [HT.out, HC.out, byteCells_append]
            have e1 : Lib.strCells (⟨#[37]⟩ ++ ⟨(hexL [s[k]]).toArray⟩) = Lib.byteCells (37 :: hexL [s[k]]) := by
              rw [Lib.strCells, Lib.byteCells, data_app]
              rfl
            rw [e1] at hB2
            exact hB2
          case measure => simp [intOf]; omega
    · obtain rfl : k = s.size := by omega
      rw [List.take_of_length_le (by simp)] at hB
      go_wp2_with fail
      refine (Tryz.Builder_String_any _ _ _ _ hB hbel.size).mono ?_
      rintro e w1 ⟨rfl, hbel1⟩
      go_wp2_with fail
      go_ret
      exact ⟨by rw [HW.out]; rfl, hbel.trans hbel1⟩
end Go.Proofs.YtcbdmaelgedbkaaGreatDoor
