/- The walk of script.outcome: lines that are none, and those of 'ok'. -/
import Derived.Test.YtcbdmaelgedbkaaGreatDoorScrX
import Derived.Deep.RegionHeld3
namespace Go.Proofs.YtcbdmaelgedbkaaGreatDoor
open Go.RowKit Go.Shelf

set_option maxRecDepth 100000 in
set_option maxHeartbeats 4000000 in
theorem outcome_bad (s : ByteArray) (a : List UInt8) (r : List (List UInt8)) (w : World) (hs : s.size ≤ 100000) (he : EnvT w) (hw : spl 32 s.data.toList = a :: r)
    (h : (r.length = 1 ∧ a ≠ errorL) ∨ (r.length ≠ 1 ∧ r.length < 3) ∨ (3 ≤ r.length ∧ a ≠ okL)) :
    Calls Tryz.prog 19 #[.string s] w fun e w' => e = .returned (.tuple #[zOut, argV]) ∧ Below w.heap.size w w' := by
  have HE := Lib.hid he; have HW := Lib.hid hw
  obtain ⟨N, hN⟩ : ∃ N, (a :: r).length = N := ⟨_, rfl⟩
  have hN' : N = r.length + 1 := by rw [← hN]; rfl
  have h' : (N = 2 ∧ (a == [101, 114, 114, 111, 114]) = false) ∨ ((N : Int) == 2) = false ∧ (N : Int) < 4 ∨ ((N : Int) == 2) = false ∧ (4 : Int) ≤ N ∧ (a == [111, 107]) = false := by
    rcases h with ⟨h1, h2⟩ | ⟨h1, h2⟩ | ⟨h1, h2⟩
    · exact .inl ⟨by omega, by simpa [errorL] using h2⟩
    · exact .inr (.inl ⟨by simp; omega, by omega⟩)
    · exact .inr (.inr ⟨by simp; omega, by omega, by simpa [okL] using h2⟩)
  have HN := Lib.hid hN; have HH := Lib.hid h'
  have hN1 : 1 ≤ N := by omega
  clear he hw h hN hN' h'
  go_enter Tryz.func19, Tryz.ntmps19
  go_wp2_with fail
  refine (split_any s _ (by omega) (HE.out.env.below ((Below.refl _ _).alloc (Nat.le_refl _) _))).mono ?_
  rw [HW.out, HN.out]
  rintro e w1 ⟨rfl, hb1, hz1, hc1⟩
  have q0 := hc1 0 a rfl
  have hres : w1.heap[w.heap.size]? = some (.cells #[.int .i64 0, .int .i64 0, .string ⟨#[]⟩, .slice none 0 0] 27 (0, 0)) := (hb1.block _ (by simp)).trans (heap_alloc_new w _)
  have hbel : Below w.heap.size w w1 := ((Below.refl _ _).alloc (Nat.le_refl _) _).trans (hb1.mono (by simp))
  obtain ⟨⟨c0, c1, c2, c3⟩, f0, f1, f2, f3⟩ := box4 hres
  have HB := Lib.hid hbel
  clear hc1 hz1 hb1 hres hbel
  simp only [World.size_alloc] at q0
  rcases HH.out with ⟨rfl, h2⟩ | ⟨h1, h2⟩ | ⟨h1, h2, h3⟩
  all_goals
    clear HH
    go_wp2_with fail
    refine bodyPost_ret (v := .tuple #[zOut, argV]) (by simp [results, Tryz.results19, go_sem, zOut, argV, c0, c1, c2, c3, f0, f1, f2, f3]) rfl ⟨rfl, ?_⟩
    iterate 4 (refine Below.setCell ?_ (by simp) _)
    exact HB.out
end Go.Proofs.YtcbdmaelgedbkaaGreatDoor
