/- The walk of script.Read. -/
import Derived.Test.YtcbdmaelgedbkaaGreatDoorScrZB
import Derived.Test.YtcbdmaelgedbkaaGreatDoorScrYR
import Derived.Test.YtcbdmaelgedbkaaGreatDoorScrTE
namespace Go.Proofs.YtcbdmaelgedbkaaGreatDoor
open Go.RowKit Go.Shelf

theorem linesR_mem {α : Type} {each : List UInt8 → Option α} : ∀ (f n : Nat) (s : List UInt8) (p : α), p ∈ (linesR each f n s).1 → ∃ u x v, s = u ++ (x ++ v) ∧ (10 : UInt8) ∉ x ∧ each x = some p
  | 0, n, s, p, h => by simp [linesR] at h
  | f + 1, n, s, p, h => by
    unfold linesR at h
    split at h
    · simp at h
    · split at h
      · simp at h
      · rename_i x r hc
        obtain ⟨e1, e2⟩ := cutNL_some hc
        split at h
        · simp at h
        · rename_i a ha
          rcases List.mem_cons.1 h with rfl | h
          · exact ⟨[], x, 10 :: r, by rw [e1]; rfl, e2, ha⟩
          · obtain ⟨u, y, v, h1, h2, h3⟩ := linesR_mem f (n + 1) r p h
            exact ⟨x ++ [10] ++ u, y, v, by rw [e1, h1]; simp, h2, h3⟩
theorem linesR_pos {α : Type} {each : List UInt8 → Option α} : ∀ (f n : Nat) (s : List UInt8) (m : Nat), (linesR each f n s).2 = some m → n ≤ m
  | 0, n, s, m, h => by simp [linesR] at h; omega
  | f + 1, n, s, m, h => by
    unfold linesR at h
    split at h
    · simp at h
    · split at h
      · simp at h; omega
      · split at h
        · simp at h; omega
        · have := linesR_pos f (n + 1) _ m h
          omega

/-- What script.Read comes to. -/
def ReadP (o : List POut × Option Nat) (w : World) (e : Ending) (w' : World) : Prop :=
  (∀ n, o.2 = some n → e = .returned (.tuple #[.slice none 0 0, .int .i64 n, .int .i64 2]) ∧ Below w.heap.size w w') ∧
  (o.2 = none → ∃ A c rs, e = .returned (.tuple #[.slice A rs.length c, .int .i64 0, .int .i64 0]) ∧ rs.map (·.1) = o.1 ∧ RdOuts w' (.slice A rs.length c) rs ∧ (∀ r ∈ rs, RdS encStr w' r.2 r.1.names ∧ I64 r.1.err ∧ I64 r.1.n) ∧ Below w.heap.size w w')

theorem oflat_get : ∀ (ds : List (POut × Value)) (j : Nat) (u : Value), (ds.flatMap oCells4)[j]? = some u ↔ ∃ d, ds[j / 4]? = some d ∧ (oCells4 d)[j % 4]? = some u
  | [], j, u => by simp
  | d :: ds, j, u => by
    rw [List.flatMap_cons, List.getElem?_append, show (oCells4 d).length = 4 from rfl]
    by_cases h : j < 4
    · rw [if_pos h, Nat.div_eq_of_lt h, Nat.mod_eq_of_lt h]
      simp
    · rw [if_neg h, oflat_get ds (j - 4) u]
      rw [show j / 4 = (j - 4) / 4 + 1 from by omega, show j % 4 = (j - 4) % 4 from by omega]
      simp
theorem rdOuts_owns {w : World} {base : Nat} {e : TypeId} {v : Value} {ds : List (POut × Value)} (h : w.ownsRow base e 4 v ds.length (ds.flatMap oCells4)) : RdOuts w v ds := by
  rcases h.2 with ⟨h1, h2⟩ | ⟨g, cap, cur, rfl, h2, h3, h4, h5, h6, h7⟩
  · exact .inl ⟨h1, List.eq_nil_of_length_eq_zero h2⟩
  · refine .inr <| .inr ⟨g, 0, cap, rfl, (Array.getElem?_eq_some_iff.1 h3).1, h4, fun j d hd i u hu => ?_⟩
    have hi : i < 4 := (List.getElem?_eq_some_iff.1 hu).1
    have := h.cells (g := g) rfl (j * 4 + i) u ((oflat_get ds _ u).2 ⟨d, by rw [show (j * 4 + i) / 4 = j from by omega]; exact hd, by rw [show (j * 4 + i) % 4 = i from by omega]; exact hu⟩)
    have e1 : (⟨g, 0, none⟩ : Addr).add (j * 4 + i) = ⟨g, 0 + j * 4 + i, none⟩ := by unfold Addr.add; split <;> simp_all
    rw [e1] at this; exact this

set_option maxRecDepth 100000 in
set_option maxHeartbeats 2000000 in
theorem read_any (s : ByteArray) (w : World) (hs : s.size ≤ 1000000) (hcount : s.size ≤ 4000 ∨ s.data.toList.count 10 ≤ 900) (hline : ∀ u x v, s.data.toList = u ++ (x ++ v) → (10 : UInt8) ∉ x → x.length ≤ 4000) (h4 : ∀ x a, outcomeR x = some a → 4 ≤ x.length) (he : EnvT w) :
    Calls Tryz.prog 8 #[.string s] w (ReadP (linesR outcomeR (s.size + 1) 1 s.data.toList) w) := by
  obtain ⟨R, hR⟩ : ∃ R, linesR outcomeR (s.size + 1) 1 s.data.toList = R := ⟨_, rfl⟩
  rw [hR]
  have hJ0 : ReadJ w w.heap.size [] (w.alloc (.cells #[.slice none 0 0] 22)) :=
    ⟨⟨none, 0, [], heap_alloc_new _ _, rfl, World.ownsRow_nil _ _ _ _, fun r hr => by simp at hr⟩, (Below.refl _ _).alloc (Nat.le_refl _) _, he, Nat.le_refl _⟩
  have hcall := lines_read outcomeR (ReadJ w w.heap.size) ⟨w.heap.size, 0, none⟩ w w.heap.size s (w.alloc (.cells #[.slice none 0 0] 22)) hs hcount hline h4
    (fun pre W hJ => ⟨hJ.bel, (hJ.env.below hJ.bel).env⟩) (Nat.le_refl _) (fun pre W n hJ => hJ.drewN n) (fun pre l W h1 h2 hJ => read_each w w.heap.size pre l W h1 h2 hJ) hJ0
  rw [hR] at hcall
  have HC := Lib.hid hcall; have HE := Lib.hid he
  clear hJ0 hcall hR hcount hline h4 he
  go_enter Tryz.func8, Tryz.ntmps8
  go_wp2_with fail
  refine HC.out.mono ?_
  rintro e w1 ⟨h1, h2⟩
  clear HC
  obtain ⟨ps, on⟩ := R
  cases on with
  | none =>
    obtain ⟨rfl, hJ⟩ := h1 rfl
    obtain ⟨A, c, rs, b1, b2, b3, b4⟩ := hJ.box
    have d0 : w1.cell? ⟨w.heap.size, 0, none⟩ = some (.slice A rs.length c) := by simp [World.cell?, b1]
    have HB2 := Lib.hid b2; have HB3 := Lib.hid b3; have HB4 := Lib.hid b4; have HJ := Lib.hid hJ
    clear h1 h2 b1 b2 b3 b4 hJ
    go_wp2_with fail
    go_ret3
    refine ⟨fun n hn => (by cases hn), fun _ => ⟨A, c, rs, rfl, HB2.out, rdOuts_owns HB3.out, fun r hr => ⟨?_, (HB4.out r hr).2⟩, HJ.out.bel⟩⟩
    obtain ⟨A', n', c', -, h3, -⟩ := (HB4.out r hr).1
    exact h3
  | some n =>
    obtain ⟨fb, rfl, hfb, hbel⟩ := h2 n rfl
    have HFB := Lib.hid hfb; have HBL := Lib.hid hbel
    clear h1 h2 hfb hbel
    go_wp2_with fail
    refine (split_fault fb n w1 (HE.out.below HBL.out).env HFB.out).mono ?_
    rintro e w2 ⟨rfl, hb2⟩
    go_wp2_with fail
    go_ret3
    refine ⟨fun m hm => ?_, fun hm => (by cases hm)⟩
    obtain rfl := Option.some.inj hm
    exact ⟨rfl, HBL.out.trans (hb2.mono HBL.out.size)⟩
end Go.Proofs.YtcbdmaelgedbkaaGreatDoor
