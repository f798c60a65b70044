/- Walks of octets.Unhex at two octets or fewer, and of script.text. -/
import Derived.Test.YtcbdmaelgedbkaaGreatDoorScrT
import Derived.Deep.AppendLies
namespace Go.Proofs.YtcbdmaelgedbkaaGreatDoor
open Go.RowKit Go.Shelf

def hexDigs : List UInt8 := [48, 49, 50, 51, 52, 53, 54, 55, 56, 57, 97, 98, 99, 100, 101, 102]
/-- The octet of two digits. -/
def unhexR : List UInt8 → Option UInt8
  | [a, b] => if Lib.indexByte hexDigs a < 0 ∨ Lib.indexByte hexDigs b < 0 then none else some (UInt8.ofNat ((Lib.indexByte hexDigs a).toNat * 16 + (Lib.indexByte hexDigs b).toNat))
  | _ => none
theorem hexIdx_lt (c : UInt8) : Lib.indexByte hexDigs c < 16 := by
  have := Lib.indexByte_ge hexDigs c
  rcases Int.lt_or_le (Lib.indexByte hexDigs c) 0 with h | h
  · omega
  · obtain ⟨o, ho⟩ := Int.eq_ofNat_of_zero_le h
    have := (Lib.indexByte_some ho).1
    have := (List.getElem?_eq_some_iff.1 this).1
    simp [hexDigs] at this
    omega
theorem or_hex : ∀ h k : Fin 16, bits .or .i64 ((h.val : Int) * 16) (k.val : Int) = ((UInt8.ofNat (h.val * 16 + k.val)).toNat : Int) := by decide +kernel
theorem info_u8 : (Tryz.prog.info? 5).map (fun i => (i.zero, i.size, i.bytes)) = some (some (.int .u8 0), 1, 1) := by kernel_rfl
def UnhexP (o : Option UInt8) (w : World) (e : Ending) (w' : World) : Prop :=
  (∀ c, o = some c → ∃ g cap, e = .returned (.tuple #[.slice (some ⟨g, 0, none⟩) 1 cap, .bool true]) ∧ w'.cell? ⟨g, 0, none⟩ = some (.int .u8 (c.toNat : Int))) ∧
  (o = none → ∃ ok, e = .returned (.tuple #[.slice none 0 0, .bool ok])) ∧ Below w.heap.size w w'

set_option maxRecDepth 100000 in
set_option maxHeartbeats 1000000 in
theorem unhex_any (s : ByteArray) (w : World) (hs : s.size ≤ 2) :
    Calls Tryz.prog 54 #[.string s] w (UnhexP (unhexR s.data.toList) w) := by
  obtain ⟨R, hR⟩ : ∃ R, unhexR s.data.toList = R := ⟨_, rfl⟩
  rw [hR]
  have HR := Lib.hid hR; clear hR
  rcases (by omega : s.size = 0 ∨ s.size = 1 ∨ s.size = 2) with h | h | h
  · have hn : Hid (R = none) := by
      unfold Hid; rw [← HR.out]
      have : s.data.toList = [] := List.eq_nil_of_length_eq_zero (by rw [← Lib.size_eq]; exact h)
      rw [this]; rfl
    go_enter Tryz.func54, Tryz.ntmps54
    go_wp2_with fail
    refine wp_loop_rounds 1 ?_
    rw [rounds_succ]
    go_wp2_with fail
    go_ret2
    exact ⟨fun c hc => (by rw [hn.out] at hc; cases hc), fun _ => ⟨_, rfl⟩, Below.refl _ _⟩
  · have hn : Hid (R = none) := by
      unfold Hid; rw [← HR.out]
      obtain ⟨a, ha⟩ : ∃ a, s.data.toList = [a] := List.length_eq_one_iff.1 (by rw [← Lib.size_eq]; exact h)
      rw [ha]; rfl
    go_enter Tryz.func54, Tryz.ntmps54
    go_wp2_with fail
    go_ret2
    exact ⟨fun c hc => (by rw [hn.out] at hc; cases hc), fun _ => ⟨_, rfl⟩, Below.refl _ _⟩
  · obtain ⟨a, b, hab⟩ : ∃ a b, s.data.toList = [a, b] := by
      have : s.data.toList.length = 2 := by rw [← Lib.size_eq]; exact h
      match s.data.toList, this with
      | [a, b], _ => exact ⟨a, b, rfl⟩
    have h0 : s[0] = a := by have : s.data.toList[0]'(by rw [hab]; simp) = a := by simp [hab]
                             exact this
    have h1 : s[1] = b := by have : s.data.toList[1]'(by rw [hab]; simp) = b := by simp [hab]
                             exact this
    have HAB := Lib.hid hab; clear hab
    obtain ⟨x, hx⟩ : ∃ x, Lib.indexByte hexDigs a = x := ⟨_, rfl⟩
    obtain ⟨y, hy⟩ : ∃ x, Lib.indexByte hexDigs b = x := ⟨_, rfl⟩
    have idx : Hid (∀ (c : UInt8) (z : Int), Lib.indexByte hexDigs c = z → ∀ w, Calls Tryz.prog 45 #[.string ⟨#[48, 49, 50, 51, 52, 53, 54, 55, 56, 57, 97, 98, 99, 100, 101, 102]⟩, .int .u8 (c.toNat : Int)] w fun e w' => e = .returned (.int .i64 z) ∧ w' = w) := by
      intro c z hz w
      have := Tryz.strings_IndexByte ⟨#[48, 49, 50, 51, 52, 53, 54, 55, 56, 57, 97, 98, 99, 100, 101, 102]⟩ (c.toNat : Int) w
      rw [show ((c.toNat : Int)).toNat.toUInt8 = c from by simp] at this
      rw [← hz]
      exact this
    have hxl := hexIdx_lt a
    have hyl := hexIdx_lt b
    rw [hx] at hxl
    rw [hy] at hyl
    have HX := Lib.hid hx; have HY := Lib.hid hy
    have hR : Hid (R = if x < 0 ∨ y < 0 then none else some (UInt8.ofNat (x.toNat * 16 + y.toNat))) := by
      unfold Hid; rw [← HR.out, HAB.out]
      simp only [unhexR, hx, hy]
    have cx := idx.out a x hx
    have cy := idx.out b y hy
    clear hx hy
    have CX := Lib.hid cx; have CY := Lib.hid cy; clear cx cy idx
    go_enter Tryz.func54, Tryz.ntmps54
    go_wp2_with fail
    refine wp_loop_rounds 2 ?_
    rw [rounds_succ]
    go_wp2_with fail
    go_quiet (first | (go_at_call_of 45 (Value.int .u8 (a.toNat : Int)); exact Calls.quiet_of_same (CX.out _)) | (go_at_call_of 45 (Value.int .u8 (b.toNat : Int)); exact Calls.quiet_of_same (CY.out _)))
    by_cases c1 : x < 0
    · have hn : Hid (R = none) := by unfold Hid; rw [hR.out, if_pos (.inl c1)]
      go_wp2_with fail
      go_ret2
      exact ⟨fun c hc => (by rw [hn.out] at hc; cases hc), fun _ => ⟨_, rfl⟩, below_drewN (Below.refl _ _) _⟩
    by_cases c2 : y < 0
    · have hn : Hid (R = none) := by unfold Hid; rw [hR.out, if_pos (.inr c2)]
      go_wp2_with fail
      go_ret2
      exact ⟨fun c hc => (by rw [hn.out] at hc; cases hc), fun _ => ⟨_, rfl⟩, below_drewN (Below.refl _ _) _⟩
    obtain ⟨c, hc⟩ : ∃ c, UInt8.ofNat (x.toNat * 16 + y.toNat) = c := ⟨_, rfl⟩
    have hn : Hid (R = some c) := by unfold Hid; rw [hR.out, if_neg (by omega), hc]
    have hbits : bits BinOp.or IntKind.i64 (x * 16) y = ((c.toNat : Nat) : Int) := by
      have := or_hex ⟨x.toNat, by omega⟩ ⟨y.toNat, by omega⟩
      simp only [Int.toNat_of_nonneg (by omega : 0 ≤ x), Int.toNat_of_nonneg (by omega : 0 ≤ y), hc] at this
      exact this
    have c1' : 0 ≤ x := by omega
    have c2' : 0 ≤ y := by omega
    have hc256 : ((c.toNat : Nat) : Int) < 256 := by have := c.toNat_lt; omega
    clear c1 c2 hc
    obtain ⟨i0, hi, hz0, hz1, hz2⟩ := info_parts info_u8
    have HI := Lib.hid hi; have HZ0 := Lib.hid hz0; have HZ1 := Lib.hid hz1; have HZ2 := Lib.hid hz2; clear hi hz0 hz1 hz2
    go_wp2_with (at_builtin; refine wpList_append_own _ rfl _ _ 41 rfl w.heap.size 5 i0 _ 1 1 Tryz.underlying41 HI.out HZ0.out HZ1.out HZ2.out rfl (by decide) _ 0 [] rfl (World.ownsRow_nil _ _ _ _) ⟨w.heap.size, 0, none⟩ 1 1 [.int .u8 (c.toNat : Int)] rfl rfl (cell_one_new (w.drewN nq) _ _) (by simp [Value.oneCell']) (by unfold maxLen; omega) (by omega) (by simp) ?_; intro v' w2 hown2 hgrow2 _)
    obtain ⟨g, cap, hv, -, hlt⟩ := hown2.form (by omega)
    have hcell := hown2.cells (g := g) (by rw [hv]; rfl) 0 _ rfl
    have hbel : Below w.heap.size w w2 := ((below_drewN (Below.refl _ _) nq).alloc (by simp) _).grown hgrow2 (by simp) (fun q hq => by cases hq)
    subst hv
    clear hown2 hgrow2
    have HC := Lib.hid hcell; have HB := Lib.hid hbel; clear hcell hbel
    go_wp2_with fail
    rw [rounds_succ]
    go_wp2_with fail
    go_ret2
    refine ⟨fun c' hc' => ?_, fun hc' => (by rw [hn.out] at hc'; cases hc'), HB.out⟩
    rw [hn.out] at hc'
    obtain rfl := Option.some.inj hc'
    exact ⟨_, _, rfl, HC.out⟩

/-- What a word's octets are read as. -/
def unesc : List UInt8 → Option (List UInt8)
  | [] => some []
  | x :: r => if x = 37 then match unhexR (r.take 2) with
      | some c => (unesc (r.drop 2)).map (c :: ·)
      | none => none
    else (unesc r).map (x :: ·)
termination_by l => l.length
decreasing_by all_goals (simp; try omega)
theorem unhexR_len {l : List UInt8} {c : UInt8} (h : unhexR l = some c) : l.length = 2 := by
  match l, h with
  | [], h => cases h
  | [_], h => cases h
  | [_, _], _ => rfl
  | _ :: _ :: _ :: _, h => cases h
/-- What a word says, as a text. -/
def textC (l : List UInt8) : Option (List UInt8) → Option (List UInt8)
  | some t => if wordL t = l then some t else none
  | none => none
def textR (l : List UInt8) : Option (List UInt8) := if l = [37] then some [] else textC l (unesc l)
def textV : Option (List UInt8) → Value
  | some t => .tuple #[.string ⟨t.toArray⟩, .nilIface]
  | none => .tuple #[.string ⟨#[]⟩, argV]
theorem map_app {o : Option (List UInt8)} (acc : List UInt8) (c : UInt8) : (o.map (c :: ·)).map (acc ++ ·) = o.map ((acc ++ [c]) ++ ·) := by
  cases o <;> simp
theorem drop_at {l : List UInt8} {k : Nat} (h : k < l.length) : l.drop k = l[k] :: l.drop (k + 1) := by simp
theorem unesc_plain {x : UInt8} {r : List UInt8} (h : x ≠ 37) : unesc (x :: r) = (unesc r).map (x :: ·) := by rw [unesc, if_neg h]
theorem unesc_hex {r : List UInt8} : unesc (37 :: r) = match unhexR (r.take 2) with
    | some c => (unesc (r.drop 2)).map (c :: ·)
    | none => none := by rw [unesc, if_pos rfl]
end Go.Proofs.YtcbdmaelgedbkaaGreatDoor
