/- The walk of script.Parse. -/
import Derived.Test.YtcbdmaelgedbkaaGreatDoorScrYP
import Derived.Test.YtcbdmaelgedbkaaGreatDoorScrPE
import Derived.Test.YtcbdmaelgedbkaaGreatDoorScrTF
namespace Go.Proofs.YtcbdmaelgedbkaaGreatDoor
open Go.RowKit Go.Shelf

theorem dflat_get : ∀ (ds : List RDeed) (j : Nat) (u : Value), (ds.flatMap RDeed.cells)[j]? = some u ↔ ∃ d, ds[j / 8]? = some d ∧ d.cells[j % 8]? = some u
  | [], j, u => by simp
  | d :: ds, j, u => by
    rw [List.flatMap_cons, List.getElem?_append, show d.cells.length = 8 from rfl]
    by_cases h : j < 8
    · rw [if_pos h, Nat.div_eq_of_lt h, Nat.mod_eq_of_lt h]
      simp
    · rw [if_neg h, dflat_get ds (j - 8) u]
      rw [show j / 8 = (j - 8) / 8 + 1 from by omega, show j % 8 = (j - 8) % 8 from by omega]
      simp
theorem rdDeeds_owns {w : World} {base : Nat} {e : TypeId} {v : Value} {ds : List RDeed} (h : w.ownsRow base e 8 v ds.length (ds.flatMap RDeed.cells)) : RdDeeds w v ds := by
  rcases h.2 with ⟨h1, h2⟩ | ⟨g, cap, cur, rfl, h2, h3, h4, h5, h6, h7⟩
  · exact .inl ⟨h1, List.eq_nil_of_length_eq_zero h2⟩
  · refine .inr <| .inr ⟨g, 0, cap, rfl, (Array.getElem?_eq_some_iff.1 h3).1, h4, fun j d hd i u hu => ?_⟩
    have hi : i < 8 := (List.getElem?_eq_some_iff.1 hu).1
    have := h.cells (g := g) rfl (j * 8 + i) u ((dflat_get ds _ u).2 ⟨d, by rw [show (j * 8 + i) / 8 = j from by omega]; exact hd, by rw [show (j * 8 + i) % 8 = i from by omega]; exact hu⟩)
    have e1 : (⟨g, 0, none⟩ : Addr).add (j * 8 + i) = ⟨g, 0 + j * 8 + i, none⟩ := by unfold Addr.add; split <;> simp_all
    rw [e1] at this; exact this

/-- What script.Parse comes to. -/
def ParseP (o : List RDeed × Option Nat) (w : World) (e : Ending) (w' : World) : Prop :=
  (∀ n, o.2 = some n → e = .returned (.tuple #[.slice none 0 0, .int .i64 n, .int .i64 2]) ∧ Below w.heap.size w w') ∧
  (o.2 = none → ∃ A c rs, e = .returned (.tuple #[.slice A rs.length c, .int .i64 0, .int .i64 0]) ∧ rs.map strip = o.1 ∧ RdDeeds w' (.slice A rs.length c) rs ∧ (∀ r ∈ rs, DeedAt w' r) ∧ Below w.heap.size w w')

set_option maxRecDepth 100000 in
set_option maxHeartbeats 2000000 in
theorem parse_any (s : ByteArray) (w : World) (hs : s.size ≤ 1000000) (hcount : s.size ≤ 4000 ∨ s.data.toList.count 10 ≤ 900) (hline : ∀ u x v, s.data.toList = u ++ (x ++ v) → (10 : UInt8) ∉ x → x.length ≤ 4000) (h4 : ∀ x a, deedR x = some a → 4 ≤ x.length) (he : EnvT w) :
    Calls Tryz.prog 9 #[.string s] w (ParseP (linesR deedR (s.size + 1) 1 s.data.toList) w) := by
  obtain ⟨R, hR⟩ : ∃ R, linesR deedR (s.size + 1) 1 s.data.toList = R := ⟨_, rfl⟩
  rw [hR]
  have hJ0 : ParseJ w w.heap.size [] (w.alloc (.cells #[.slice none 0 0] 33)) :=
    ⟨⟨none, 0, [], heap_alloc_new _ _, rfl, World.ownsRow_nil _ _ _ _, fun r hr => by simp at hr⟩, (Below.refl _ _).alloc (Nat.le_refl _) _, he, Nat.le_refl _⟩
  have hcall := lines_parse deedR (ParseJ w w.heap.size) ⟨w.heap.size, 0, none⟩ w w.heap.size s (w.alloc (.cells #[.slice none 0 0] 33)) hs hcount hline h4
    (fun pre W hJ => ⟨hJ.bel, (hJ.env.below hJ.bel).env⟩) (Nat.le_refl _) (fun pre W n hJ => hJ.drewN n) (fun pre l W h1 h2 hJ => parse_each w w.heap.size pre l W h1 h2 hJ) hJ0
  rw [hR] at hcall
  have HC := Lib.hid hcall; have HE := Lib.hid he
  clear hJ0 hcall hR hcount hline h4 he
  go_enter Tryz.func9, Tryz.ntmps9
  go_wp2_with fail
  refine HC.out.mono ?_
  rintro e w1 ⟨h1, h2⟩
  clear HC
  obtain ⟨ps, on⟩ := R
  cases on with
  | none =>
    obtain ⟨rfl, hJ⟩ := h1 rfl
    obtain ⟨A, c, rs, b1, b2, b3, b4⟩ := hJ.box
    have d0 : w1.cell? ⟨w.heap.size, 0, none⟩ = some (.slice A rs.length c) := by simp [World.cell?, b1]
    have HB2 := Lib.hid b2; have HB3 := Lib.hid b3; have HB4 := Lib.hid b4; have HJ := Lib.hid hJ
    clear h1 h2 b1 b2 b3 b4 hJ
    go_wp2_with fail
    go_ret3
    refine ⟨fun n hn => (by cases hn), fun _ => ⟨A, c, rs, rfl, HB2.out, rdDeeds_owns HB3.out, HB4.out, HJ.out.bel⟩⟩
  | some n =>
    obtain ⟨fb, rfl, hfb, hbel⟩ := h2 n rfl
    have HFB := Lib.hid hfb; have HBL := Lib.hid hbel
    clear h1 h2 hfb hbel
    go_wp2_with fail
    refine (split_fault fb n w1 (HE.out.below HBL.out).env HFB.out).mono ?_
    rintro e w2 ⟨rfl, hb2⟩
    go_wp2_with fail
    go_ret3
    refine ⟨fun m hm => ?_, fun hm => (by cases hm)⟩
    obtain rfl := Option.some.inj hm
    exact ⟨rfl, HBL.out.trans (hb2.mono HBL.out.size)⟩
end Go.Proofs.YtcbdmaelgedbkaaGreatDoor
