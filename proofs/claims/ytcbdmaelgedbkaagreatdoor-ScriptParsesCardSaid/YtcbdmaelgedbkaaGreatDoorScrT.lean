/- Walks of package script's readers of words: number, octets.Unhex, text. -/
import Derived.Test.YtcbdmaelgedbkaaGreatDoorScrGA
import Derived.Lib.AtoiAllCases
import Derived.Deep.QuietTactic
import Derived.BigQuiet
namespace Go.Proofs.YtcbdmaelgedbkaaGreatDoor
open Go.RowKit Go.Shelf

/-- .. and the library's errors of numerals. -/
structure EnvT (w : World) : Prop where
  env : Env w
  sx : ∃ t p, w.cell? ⟨3, 0, none⟩ = some (.iface t p)
  rx : ∃ t p, w.cell? ⟨4, 0, none⟩ = some (.iface t p)
theorem EnvT.below {w w' : World} (h : EnvT w) (hb : Below w.heap.size w w') : EnvT w' := by
  obtain ⟨h1, ⟨t, p, h2⟩, ⟨t', p', h3⟩⟩ := h
  exact ⟨h1.below hb, ⟨t, p, (hb.cell (p := ⟨_, _, none⟩) (Lib.lt_of_cell h2)).trans h2⟩, ⟨t', p', (hb.cell (p := ⟨_, _, none⟩) (Lib.lt_of_cell h3)).trans h3⟩⟩

/-! numerals are read as what they are of -/
theorem parse_app : ∀ (l r : List UInt8) (acc : Nat), Lib.parseUint10 acc (l ++ r) = match Lib.parseUint10 acc l with | .ok v => Lib.parseUint10 v r | e => e
  | [], r, acc => rfl
  | c :: l, r, acc => by
    simp only [List.cons_append, Lib.parseUint10]
    split
    · split
      · rfl
      · split
        · rfl
        · exact parse_app l r _
    · rfl
theorem parse_dec : ∀ u : Nat, u < 18446744073709551616 → Lib.parseUint10 0 (Lib.decDigits u) = .ok u := by
  intro u
  induction u using Nat.strongRecOn with
  | _ u ih =>
    intro hu
    have one : ∀ (a d : Nat), d < 10 → a * 10 + d < 18446744073709551616 → Lib.parseUint10 a [UInt8.ofNat (48 + d)] = .ok (a * 10 + d) := by
      intro a d hd h
      have e : (UInt8.ofNat (48 + d)).toNat = 48 + d := by rw [UInt8.toNat_ofNat_of_lt' (by show 48 + d < 256; omega)]
      simp only [Lib.parseUint10, e]
      rw [if_pos ⟨by omega, by omega⟩, if_neg (by omega), if_neg (by omega)]
      congr 1; omega
    rw [Lib.decDigits]
    split
    · rename_i h
      have := one 0 u h (by omega)
      simpa using this
    · rename_i h
      rw [parse_app, ih (u / 10) (by omega) (by omega)]
      have := one (u / 10) (u % 10) (by omega) (by omega)
      rw [show u / 10 * 10 + u % 10 = u from by omega] at this
      exact this
theorem dec_head (u : Nat) : ∃ c r, Lib.decDigits u = c :: r ∧ 48 ≤ c.toNat ∧ c.toNat ≤ 57 := by
  have hd : ∀ {n : Nat}, n < 10 → (UInt8.ofNat (48 + n)).toNat = 48 + n := fun h => by rw [UInt8.toNat_ofNat_of_lt' (by show 48 + _ < 256; omega)]
  induction u using Nat.strongRecOn with
  | _ u ih =>
    rw [Lib.decDigits]
    split
    · rename_i h
      exact ⟨_, [], rfl, by rw [hd h]; omega, by rw [hd h]; omega⟩
    · rename_i h
      obtain ⟨c, r, e, h1, h2⟩ := ih (u / 10) (by omega)
      exact ⟨c, r ++ _, by rw [e]; rfl, h1, h2⟩
theorem atoi_itoa {n : Int} (h : I64 n) : Lib.atoiAll (Lib.itoa n) = .ok n := by
  obtain ⟨h0, h1⟩ := h
  have hm : ∀ u : Nat, u < 18446744073709551616 → Lib.parseMag (Lib.decDigits u) = .ok u := fun u hu => by
    unfold Lib.parseMag
    obtain ⟨c, r, e, -⟩ := dec_head u
    rw [if_neg (by rw [e]; simp), parse_dec u hu]
  unfold Lib.itoa
  split
  · rename_i h
    rw [Lib.atoiAll_minus, hm _ (by omega)]
    simp only [Lib.signed]
    rw [if_neg (by omega)]
    congr 1; omega
  · rename_i h
    obtain ⟨c, r, e, h2, h3⟩ := dec_head n.toNat
    have := hm n.toNat (by omega)
    rw [e] at this ⊢
    rw [Lib.atoiAll_plain c r (by omega) (by omega), this]
    simp only [Lib.signless]
    rw [if_neg (by omega)]
    congr 1; omega

/-- What a word says, as a number. -/
def numR (l : List UInt8) : Option Int := match Lib.atoiAll l with
  | .ok v => if Lib.itoa v = l then some v else none
  | _ => none
theorem numR_some {l : List UInt8} {v : Int} (h : numR l = some v) : l = Lib.itoa v ∧ I64 v := by
  unfold numR at h
  split at h
  · rename_i v' e
    split at h
    · rename_i e2
      obtain rfl := Option.some.inj h
      exact ⟨e2.symm, Lib.atoiAll_bounds e⟩
    · cases h
  · cases h
theorem numR_itoa {v : Int} (h : I64 v) : numR (Lib.itoa v) = some v := by
  unfold numR
  rw [atoi_itoa h]
  simp
def argV : Value := .iface 24 (.int .i64 2)
def numV : Option Int → Value
  | some v => .tuple #[.int .i64 v, .nilIface]
  | none => .tuple #[.int .i64 0, argV]

set_option maxRecDepth 100000 in
set_option maxHeartbeats 1000000 in
theorem number_any (s : ByteArray) (w : World) (hs : s.size ≤ 1000000) (he : EnvT w) :
    Calls Tryz.prog 36 #[.string s] w fun e w' => e = .returned (numV (numR s.data.toList)) ∧ Below w.heap.size w w' := by
  have HE := Lib.hid he; clear he
  obtain ⟨R, hR⟩ : ∃ R, numR s.data.toList = R := ⟨_, rfl⟩
  rw [hR]
  cases ha : Lib.atoiAll s.data.toList with
  | ok v =>
    have hb := Lib.atoiAll_bounds ha
    by_cases hv : Lib.itoa v = s.data.toList
    · have HR : Hid (R = some v) := by unfold Hid; rw [← hR]; unfold numR; rw [ha]; simp [hv]
      have hne : (Lib.itoa v == s.toList) = true := by rw [toList_eq]; simp [hv]
      have HA := Lib.hid ha
      clear ha hR hv
      go_enter Tryz.func36, Tryz.ntmps36
      go_wp2_with fail
      refine (Tryz.strconv_Atoi_ok s (by omega) v HA.out _).mono ?_
      rintro e w1 ⟨rfl, hw⟩
      have hb1 : Below w.heap.size w w1 := by
        rcases hw with rfl | ⟨t, rfl⟩
        · exact Below.refl _ _
        · exact Lib.bytesWorld_below _ _ _
      clear hw
      go_wp2_with fail
      refine (itoa_any v hb.1 hb.2 _ (HE.out.env.below hb1)).mono ?_
      rintro e w2 ⟨rfl, hb2⟩
      go_wp2_with fail
      go_ret2
      exact ⟨by rw [HR.out]; rfl, hb1.trans (hb2.mono hb1.size)⟩
    · have HR : Hid (R = none) := by unfold Hid; rw [← hR]; unfold numR; rw [ha]; simp [hv]
      have hne : (Lib.itoa v == s.toList) = false := by rw [toList_eq]; simp [hv]
      have HA := Lib.hid ha
      clear ha hR hv
      go_enter Tryz.func36, Tryz.ntmps36
      go_wp2_with fail
      refine (Tryz.strconv_Atoi_ok s (by omega) v HA.out _).mono ?_
      rintro e w1 ⟨rfl, hw⟩
      have hb1 : Below w.heap.size w w1 := by
        rcases hw with rfl | ⟨t, rfl⟩
        · exact Below.refl _ _
        · exact Lib.bytesWorld_below _ _ _
      clear hw
      go_wp2_with fail
      refine (itoa_any v hb.1 hb.2 _ (HE.out.env.below hb1)).mono ?_
      rintro e w2 ⟨rfl, hb2⟩
      go_wp2_with fail
      go_ret2
      exact ⟨by rw [HR.out]; rfl, hb1.trans (hb2.mono hb1.size)⟩
  | range =>
    have HR : Hid (R = none) := by unfold Hid; rw [← hR]; unfold numR; rw [ha]
    have HA := Lib.hid ha
    clear ha hR
    obtain ⟨t, p, hx⟩ := HE.out.rx
    have HX := Lib.hid hx; clear hx
    go_enter Tryz.func36, Tryz.ntmps36
    go_wp2_with fail
    refine (Tryz.strconv_Atoi_range s (by omega) HA.out _ _ HX.out (.inr ⟨_, _, rfl⟩)).mono ?_
    rintro e w1 ⟨N, rfl, -, -, hb1⟩
    go_wp2_with fail
    go_ret2
    exact ⟨by rw [HR.out]; rfl, hb1⟩
  | _ =>
    have HR : Hid (R = none) := by unfold Hid; rw [← hR]; unfold numR; rw [ha]
    have HA := Lib.hid ha
    clear ha hR
    obtain ⟨t, p, hx⟩ := HE.out.sx
    have HX := Lib.hid hx; clear hx
    go_enter Tryz.func36, Tryz.ntmps36
    go_wp2_with fail
    refine (Tryz.strconv_Atoi_bad s (by omega) ⟨fun v e => (by rw [HA.out] at e; cases e), fun e => (by rw [HA.out] at e; cases e)⟩ _ _ HX.out (.inr ⟨_, _, rfl⟩)).mono ?_
    rintro e w1 ⟨N, rfl, -, -, hb1⟩
    go_wp2_with fail
    go_ret2
    exact ⟨by rw [HR.out]; rfl, hb1⟩
end Go.Proofs.YtcbdmaelgedbkaaGreatDoor
