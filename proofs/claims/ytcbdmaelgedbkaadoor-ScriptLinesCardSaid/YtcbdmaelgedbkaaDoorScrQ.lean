/- The walk of ScriptLines: its drawn region. -/
import Derived.Test.YtcbdmaelgedbkaaDoorScrP
import Derived.Test.YtcbdmaelgedbkaaDoorScrI
import Derived.Deep.RegionHeld3
import Derived.Deep.RegionWith
import Derived.Deep.DeepCutAuto
namespace Go.Proofs.YtcbdmaelgedbkaaDoor
open Go.RowKit Go.Shelf

theorem onlyD_in {d : RDeed} {w : World} (h : d.In w) : (onlyD d).In w := by
  refine ⟨?_, ?_, ?_, ?_, ?_, ?_, ?_, ?_, ?_, ?_, ?_⟩ <;> (unfold onlyD onlyTo) <;> dsimp only
  · split
    · exact h.rb
    · exact .inl ⟨rfl, rfl⟩
  · split
    · exact h.rk
    · exact .inl ⟨rfl, rfl⟩
  · exact h.kind
  · split
    · exact h.n
    · unfold I64; omega
  · split
    · exact h.m
    · unfold I64; omega
  · split
    · exact h.k
    · unfold I64; omega
  · split
    · exact h.path
    · decide
  · split
    · exact h.as_
    · decide
  · split
    · exact h.b
    · simp
  · split
    · exact h.keepN
    · simp
  · split
    · exact h.keep
    · simp

theorem in_raw {d : RDeed} {w : World} (h : d.In w) : d.Raw w := ⟨h.rb, h.rk, h.kind, h.n, h.m, h.k, by have := h.path; omega, by have := h.as_; omega, h.keep⟩
theorem heap2 (w : World) (A B : Obj) : ((w.alloc A).alloc B).heap[w.heap.size]? = some A ∧ ((w.alloc A).alloc B).heap[w.heap.size + 1]? = some B := by
  have e1 : (w.alloc A).heap.size = w.heap.size + 1 := by simp
  refine ⟨?_, ?_⟩
  · rw [Below.heap_alloc _ _ _ (by omega)]; exact heap_alloc_new w A
  · rw [← e1]; exact heap_alloc_new _ B

theorem news2 {W w' : World} {A B : Obj} (h : Below ((W.alloc A).alloc B).heap.size ((W.alloc A).alloc B) w') : w'.heap[W.heap.size]? = some A ∧ w'.heap[W.heap.size + 1]? = some B :=
  ⟨(h.block _ (by simp; omega)).trans (heap2 W A B).1, (h.block _ (by simp)).trans (heap2 W A B).2⟩
theorem news1 {W w' : World} {A : Obj} (h : Below (W.alloc A).heap.size (W.alloc A) w') : w'.heap[W.heap.size]? = some A := (h.block _ (by simp)).trans (heap_alloc_new W A)
theorem news2d {W w' : World} {A B : Obj} (h : Below ((W.alloc A).alloc B).drew.heap.size ((W.alloc A).alloc B).drew w') : w'.heap[W.heap.size]? = some A ∧ w'.heap[W.heap.size + 1]? = some B :=
  ⟨(h.block _ (by simp; omega)).trans (heap2 W A B).1, (h.block _ (by simp)).trans (heap2 W A B).2⟩
theorem news1d {W w' : World} {A : Obj} (h : Below (W.alloc A).drew.heap.size (W.alloc A).drew w') : w'.heap[W.heap.size]? = some A := (h.block _ (by simp)).trans (heap_alloc_new W A)
theorem hp_lt {w : World} {p : Nat} {o : Obj} (h : w.heap[p]? = some o) : p < w.heap.size := by
  rcases Nat.lt_or_ge p w.heap.size with h1 | h1
  · exact h1
  · rw [Array.getElem?_eq_none (by omega)] at h; cases h
theorem olda {w : World} {p : Nat} {A B : Obj} (n : w.heap[p]? = some A) : (w.alloc B).heap[p]? = some A := by
  rw [Below.heap_alloc _ _ _ (hp_lt n)]; exact n
theorem old0 {W w' : World} {p : Nat} {A : Obj} (h : Below W.heap.size W w') (n : W.heap[p]? = some A) : w'.heap[p]? = some A := (h.block _ (hp_lt n)).trans n
theorem old1 {W w' : World} {p : Nat} {A B : Obj} (h : Below (W.alloc B).heap.size (W.alloc B) w') (n : W.heap[p]? = some A) : w'.heap[p]? = some A := old0 h (olda n)
theorem old2 {W w' : World} {p : Nat} {A B C : Obj} (h : Below ((W.alloc B).alloc C).heap.size ((W.alloc B).alloc C) w') (n : W.heap[p]? = some A) : w'.heap[p]? = some A := old0 h (olda (olda n))
def zDeed : Array Value := #[.int .i64 0, .int .i64 0, .int .i64 0, .int .i64 0, .string ⟨#[]⟩, .string ⟨#[]⟩, .slice none 0 0, .slice none 0 0]
theorem zero_facts {w : World} {b : Nat} {t : TypeId} (h : w.heap[b]? = some (.cells #[.int .i64 0, .int .i64 0, .int .i64 0, .int .i64 0, .string ⟨#[]⟩, .string ⟨#[]⟩, .slice none 0 0, .slice none 0 0] t (0, 0))) :
    (w.cell? ⟨b, 0, none⟩ = some (.int .i64 0) ∧ w.cell? ⟨b, 1, none⟩ = some (.int .i64 0) ∧ w.cell? ⟨b, 2, none⟩ = some (.int .i64 0) ∧ w.cell? ⟨b, 3, none⟩ = some (.int .i64 0)
      ∧ w.cell? ⟨b, 4, none⟩ = some (.string ⟨#[]⟩) ∧ w.cell? ⟨b, 5, none⟩ = some (.string ⟨#[]⟩) ∧ w.cell? ⟨b, 6, none⟩ = some (.slice none 0 0) ∧ w.cell? ⟨b, 7, none⟩ = some (.slice none 0 0))
    ∧ (w.frozen? ⟨b, 0, none⟩ = false ∧ w.frozen? ⟨b, 1, none⟩ = false ∧ w.frozen? ⟨b, 2, none⟩ = false ∧ w.frozen? ⟨b, 3, none⟩ = false ∧ w.frozen? ⟨b, 4, none⟩ = false ∧ w.frozen? ⟨b, 5, none⟩ = false ∧ w.frozen? ⟨b, 6, none⟩ = false ∧ w.frozen? ⟨b, 7, none⟩ = false) :=
  ⟨box_cells (d := ⟨0, 0, 0, 0, ⟨#[]⟩, ⟨#[]⟩, .slice none 0 0, .slice none 0 0, [], []⟩) h, frozen_box h 0, frozen_box h 1, frozen_box h 2, frozen_box h 3, frozen_box h 4, frozen_box h 5, frozen_box h 6, frozen_box h 7⟩

theorem zero_facts1 {w : World} {b : Nat} {t : TypeId} (h : w.heap[b]? = some (.cells #[.int .i64 0, .int .i64 0, .int .i64 0, .int .i64 0, .string ⟨#[]⟩, .string ⟨#[]⟩, .slice none 0 0, .slice none 0 0] t (0, 0))) :
    b ≠ w.heap.size ∧ ¬ (w.heap.size = b) ∧ ((∀ o, (w.alloc o).cell? ⟨b, 0, none⟩ = some (.int .i64 0)) ∧ (∀ o, (w.alloc o).cell? ⟨b, 1, none⟩ = some (.int .i64 0)) ∧ (∀ o, (w.alloc o).cell? ⟨b, 2, none⟩ = some (.int .i64 0)) ∧ (∀ o, (w.alloc o).cell? ⟨b, 3, none⟩ = some (.int .i64 0))
      ∧ (∀ o, (w.alloc o).cell? ⟨b, 4, none⟩ = some (.string ⟨#[]⟩)) ∧ (∀ o, (w.alloc o).cell? ⟨b, 5, none⟩ = some (.string ⟨#[]⟩)) ∧ (∀ o, (w.alloc o).cell? ⟨b, 6, none⟩ = some (.slice none 0 0)) ∧ (∀ o, (w.alloc o).cell? ⟨b, 7, none⟩ = some (.slice none 0 0)))
    ∧ ((∀ o, (w.alloc o).frozen? ⟨b, 0, none⟩ = false) ∧ (∀ o, (w.alloc o).frozen? ⟨b, 1, none⟩ = false) ∧ (∀ o, (w.alloc o).frozen? ⟨b, 2, none⟩ = false) ∧ (∀ o, (w.alloc o).frozen? ⟨b, 3, none⟩ = false) ∧ (∀ o, (w.alloc o).frozen? ⟨b, 4, none⟩ = false) ∧ (∀ o, (w.alloc o).frozen? ⟨b, 5, none⟩ = false) ∧ (∀ o, (w.alloc o).frozen? ⟨b, 6, none⟩ = false) ∧ (∀ o, (w.alloc o).frozen? ⟨b, 7, none⟩ = false)) := by
  have hl := hp_lt h
  have H := fun o => zero_facts (olda (B := o) h)
  exact ⟨by omega, by omega, ⟨fun o => (H o).1.1, fun o => (H o).1.2.1, fun o => (H o).1.2.2.1, fun o => (H o).1.2.2.2.1, fun o => (H o).1.2.2.2.2.1, fun o => (H o).1.2.2.2.2.2.1, fun o => (H o).1.2.2.2.2.2.2.1, fun o => (H o).1.2.2.2.2.2.2.2⟩,
    fun o => (H o).2.1, fun o => (H o).2.2.1, fun o => (H o).2.2.2.1, fun o => (H o).2.2.2.2.1, fun o => (H o).2.2.2.2.2.1, fun o => (H o).2.2.2.2.2.2.1, fun o => (H o).2.2.2.2.2.2.2.1, fun o => (H o).2.2.2.2.2.2.2.2⟩

theorem st_same {w : World} {p : Nat} {t : TypeId} {u0 u1 u2 u3 u4 u5 u6 u7 : Value} (h : w.heap[p]? = some (.cells #[u0, u1, u2, u3, u4, u5, u6, u7] t (0, 0))) (v0 v1 v2 v3 v4 v5 v6 v7 : Value) :
    ((((((((w.setCell ⟨p, 0, none⟩ v0).setCell ⟨p, 1, none⟩ v1).setCell ⟨p, 2, none⟩ v2).setCell ⟨p, 3, none⟩ v3).setCell ⟨p, 4, none⟩ v4).setCell ⟨p, 5, none⟩ v5).setCell ⟨p, 6, none⟩ v6).setCell ⟨p, 7, none⟩ v7).heap[p]? = some (.cells #[v0, v1, v2, v3, v4, v5, v6, v7] t (0, 0)) := by
  have h0 := set_box h 0 v0
  have h1 := set_box h0 1 v1
  have h2 := set_box h1 2 v2
  have h3 := set_box h2 3 v3
  have h4 := set_box h3 4 v4
  have h5 := set_box h4 5 v5
  have h6 := set_box h5 6 v6
  have h7 := set_box h6 7 v7
  simpa using h7
theorem st_other {w : World} {p c : Nat} {o : Obj} (h : w.heap[c]? = some o) (hne : c ≠ p) (v0 v1 v2 v3 v4 v5 v6 v7 : Value) :
    ((((((((w.setCell ⟨p, 0, none⟩ v0).setCell ⟨p, 1, none⟩ v1).setCell ⟨p, 2, none⟩ v2).setCell ⟨p, 3, none⟩ v3).setCell ⟨p, 4, none⟩ v4).setCell ⟨p, 5, none⟩ v5).setCell ⟨p, 6, none⟩ v6).setCell ⟨p, 7, none⟩ v7).heap[c]? = some o :=
  set_other (set_other (set_other (set_other (set_other (set_other (set_other (set_other h hne _ _) hne _ _) hne _ _) hne _ _) hne _ _) hne _ _) hne _ _) hne _ _
set_option maxRecDepth 100000 in
set_option maxHeartbeats 20000000 in
theorem lines_core (ka kb : Nat) (an am ak bn bm bk : Int) (pa sa pb sb : ByteArray) (a1 a4 b1 b4 : Option Addr) (a2 a3 a5 a6 b2 b3 b5 b6 : Nat) (la lb : List UInt8) (ea eb : List Int)
    (xn xm xk yn ym yk : Int) (xp xs yp ys : ByteArray) (x1 x4 y1 y4 : Option Addr) (x2 x3 x5 x6 y2 y3 y5 y6 : Nat) (lx ly : List UInt8) (ex ey : List Int)
    (w : World) (a b X Y : RDeed)
    (haa : a = ⟨ka, an, am, ak, pa, sa, .slice a1 a2 a3, .slice a4 a5 a6, la, ea⟩) (hbb : b = ⟨kb, bn, bm, bk, pb, sb, .slice b1 b2 b3, .slice b4 b5 b6, lb, eb⟩)
    (hxx : X = ⟨ka, xn, xm, xk, xp, xs, .slice x1 x2 x3, .slice x4 x5 x6, lx, ex⟩) (hyy : Y = ⟨kb, yn, ym, yk, yp, ys, .slice y1 y2 y3, .slice y4 y5 y6, ly, ey⟩)
    (hX : onlyD a = X) (hY : onlyD b = Y)
    (ha : a.In w) (hb : b.In w) (he : Env w) (hs : smallR [a, b] = true) (ka1 : ka < 26) (kb1 : kb < 26) :
    Calls Tryd.prog 4 #[.agg #[.int .i64 ka, .int .i64 an, .int .i64 am, .int .i64 ak, .string pa, .string sa, .slice a1 a2 a3, .slice a4 a5 a6], .agg #[.int .i64 kb, .int .i64 bn, .int .i64 bm, .int .i64 bk, .string pb, .string sb, .slice b1 b2 b3, .slice b4 b5 b6]] w fun e w' => e = .returned (.bool true) ∧ Below w.heap.size w w' := by
  have OA : Hid (∀ w, Calls Tryd.prog 8 #[.agg #[.int .i64 ka, .int .i64 an, .int .i64 am, .int .i64 ak, .string pa, .string sa, .slice a1 a2 a3, .slice a4 a5 a6]] w fun e w' => e = .returned (.agg #[.int .i64 ka, .int .i64 xn, .int .i64 xm, .int .i64 xk, .string xp, .string xs, .slice x1 x2 x3, .slice x4 x5 x6]) ∧ Below w.heap.size w w') := by
    intro w
    have := only_any a w (by simp [haa]) (by simp [haa]; omega) (by simp [haa]) (by simp [haa])
    rw [hX] at this
    simpa [haa, hxx, RDeed.val] using this
  have OB : Hid (∀ w, Calls Tryd.prog 8 #[.agg #[.int .i64 kb, .int .i64 bn, .int .i64 bm, .int .i64 bk, .string pb, .string sb, .slice b1 b2 b3, .slice b4 b5 b6]] w fun e w' => e = .returned (.agg #[.int .i64 kb, .int .i64 yn, .int .i64 ym, .int .i64 yk, .string yp, .string ys, .slice y1 y2 y3, .slice y4 y5 y6]) ∧ Below w.heap.size w w') := by
    intro w
    have := only_any b w (by simp [hbb]) (by simp [hbb]; omega) (by simp [hbb]) (by simp [hbb])
    rw [hY] at this
    simpa [hbb, hyy, RDeed.val] using this
  have HA := Lib.hid ha; have HB := Lib.hid hb; have HE := Lib.hid he; have HS := Lib.hid hs
  have HAA := Lib.hid haa; have HBB := Lib.hid hbb; have HXX := Lib.hid hxx; have HYY := Lib.hid hyy; have HX := Lib.hid hX; have HY := Lib.hid hY
  clear ha hb he haa hbb hxx hyy hX hY hs
  go_enter Tryd.func4, Tryd.ntmps4
  go_wp2_with fail
  refine (awake_any _ (HE.out.below (((Below.refl _ _).alloc (Nat.le_refl _) _).alloc (by simp) _))).mono ?_
  rintro e w1 ⟨rfl, hb1⟩
  have hx0 : w1.heap[w.heap.size]? = some (.cells #[.int .i64 ka, .int .i64 an, .int .i64 am, .int .i64 ak, .string pa, .string sa, .slice a1 a2 a3, .slice a4 a5 a6] 32 (0, 0)) := (hb1.block _ (by simp; omega)).trans (heap2 w _ _).1
  have hx1 : w1.heap[w.heap.size + 1]? = some (.cells #[.int .i64 kb, .int .i64 bn, .int .i64 bm, .int .i64 bk, .string pb, .string sb, .slice b1 b2 b3, .slice b4 b5 b6] 32 (0, 0)) := (hb1.block _ (by simp)).trans (heap2 w _ _).2
  have hbel : Below w.heap.size w w1 := ((((Below.refl _ w).alloc (Nat.le_refl _) _).alloc (by simp) _)).trans (hb1.mono (by simp; omega))
  have hsz : w.heap.size + 2 ≤ w1.heap.size := by have := hb1.size; simp at this; omega
  have k0 : ¬ ((ka : Int) < 0) := by omega
  have k1 : ¬ ((25 : Int) < ka) := by omega
  have k2 : ¬ ((kb : Int) < 0) := by omega
  have k3 : ¬ ((25 : Int) < kb) := by omega
  obtain ⟨q0, q1, q2, q3, q4, q5, q6, q7⟩ := box_cells (d := ⟨ka, an, am, ak, pa, sa, .slice a1 a2 a3, .slice a4 a5 a6, [], []⟩) hx0
  obtain ⟨r0, r1, r2, r3, r4, r5, r6, r7⟩ := box_cells (d := ⟨kb, bn, bm, bk, pb, sb, .slice b1 b2 b3, .slice b4 b5 b6, [], []⟩) hx1
  have HX0 := Lib.hid hx0; have HX1 := Lib.hid hx1; have HBL := Lib.hid hbel
  clear hx0 hx1 hbel hb1
  go_wp2_with fail
  refine (small_any _ [a, b] _ (.inr <| .inr ⟨w1.heap.size, 0, 2, rfl, by simp, by simp, ?hc⟩) ?hd).mono ?_
  case hc =>
    intro j d hj i u hu
    rw [World.cell?_alloc_at _ _ _ _ rfl]
    have hi : i < 8 := (List.getElem?_eq_some_iff.1 hu).1
    match j, hj with
    | 0, hj =>
      cases hj
      rw [HAA.out] at hu
      rcases (by omega : i = 0 ∨ i = 1 ∨ i = 2 ∨ i = 3 ∨ i = 4 ∨ i = 5 ∨ i = 6 ∨ i = 7) with rfl | rfl | rfl | rfl | rfl | rfl | rfl | rfl <;> simpa [RDeed.cells] using hu
    | 1, hj =>
      cases hj
      rw [HBB.out] at hu
      rcases (by omega : i = 0 ∨ i = 1 ∨ i = 2 ∨ i = 3 ∨ i = 4 ∨ i = 5 ∨ i = 6 ∨ i = 7) with rfl | rfl | rfl | rfl | rfl | rfl | rfl | rfl <;> simpa [RDeed.cells] using hu
    | j + 2, hj => cases hj
  case hd =>
    have hbw1 : Below w.heap.size w (w1.alloc (.cells #[.int .i64 ka, .int .i64 an, .int .i64 am, .int .i64 ak, .string pa, .string sa, .slice a1 a2 a3, .slice a4 a5 a6, .int .i64 kb, .int .i64 bn, .int .i64 bm, .int .i64 bk, .string pb, .string sb, .slice b1 b2 b3, .slice b4 b5 b6] 32)) := HBL.out.alloc HBL.out.size _
    intro d hd
    rcases List.mem_cons.1 hd with rfl | hd
    · exact in_raw (HA.out.below hbw1)
    · obtain rfl := List.mem_singleton.1 hd
      exact in_raw (HB.out.below hbw1)
  rw [HS.out]
  rintro e w2 ⟨rfl, hw⟩
  have hx0 : w2.heap[w.heap.size]? = some (.cells #[.int .i64 ka, .int .i64 an, .int .i64 am, .int .i64 ak, .string pa, .string sa, .slice a1 a2 a3, .slice a4 a5 a6] 32 (0, 0)) := by
    rw [← hw, Below.heap_alloc _ _ _ (by omega)]; exact HX0.out
  have hx1 : w2.heap[w.heap.size + 1]? = some (.cells #[.int .i64 kb, .int .i64 bn, .int .i64 bm, .int .i64 bk, .string pb, .string sb, .slice b1 b2 b3, .slice b4 b5 b6] 32 (0, 0)) := by
    rw [← hw, Below.heap_alloc _ _ _ (by omega)]; exact HX1.out
  have hbel : Below w.heap.size w w2 := by
    rw [← hw]; exact HBL.out.alloc HBL.out.size _
  have hsz2 : w.heap.size + 2 ≤ w2.heap.size := by rw [← hw, World.size_alloc]; omega
  clear hw q0 q1 q2 q3 q4 q5 q6 q7 r0 r1 r2 r3 r4 r5 r6 r7 HX0 HX1 HBL hsz
  obtain ⟨q0, q1, q2, q3, q4, q5, q6, q7⟩ := box_cells (d := ⟨ka, an, am, ak, pa, sa, .slice a1 a2 a3, .slice a4 a5 a6, [], []⟩) hx0
  obtain ⟨r0, r1, r2, r3, r4, r5, r6, r7⟩ := box_cells (d := ⟨kb, bn, bm, bk, pb, sb, .slice b1 b2 b3, .slice b4 b5 b6, [], []⟩) hx1
  have HX0 := Lib.hid hx0; have HX1 := Lib.hid hx1; have HBL := Lib.hid hbel
  clear hx0 hx1 hbel
  have KS : Hid (∀ W, Below w2.heap.size w2 W → w2.heap.size ≤ W.heap.size ∧ Hid (Below w2.heap.size w2 W) ∧ W.cell? ⟨w.heap.size, 0, none⟩ = some (.int .i64 ka) ∧ W.cell? ⟨w.heap.size, 1, none⟩ = some (.int .i64 an) ∧ W.cell? ⟨w.heap.size, 2, none⟩ = some (.int .i64 am) ∧ W.cell? ⟨w.heap.size, 3, none⟩ = some (.int .i64 ak) ∧ W.cell? ⟨w.heap.size, 4, none⟩ = some (.string pa) ∧ W.cell? ⟨w.heap.size, 5, none⟩ = some (.string sa) ∧ W.cell? ⟨w.heap.size, 6, none⟩ = some (.slice a1 a2 a3) ∧ W.cell? ⟨w.heap.size, 7, none⟩ = some (.slice a4 a5 a6) ∧ W.cell? ⟨w.heap.size + 1, 0, none⟩ = some (.int .i64 kb) ∧ W.cell? ⟨w.heap.size + 1, 1, none⟩ = some (.int .i64 bn) ∧ W.cell? ⟨w.heap.size + 1, 2, none⟩ = some (.int .i64 bm) ∧ W.cell? ⟨w.heap.size + 1, 3, none⟩ = some (.int .i64 bk) ∧ W.cell? ⟨w.heap.size + 1, 4, none⟩ = some (.string pb) ∧ W.cell? ⟨w.heap.size + 1, 5, none⟩ = some (.string sb) ∧ W.cell? ⟨w.heap.size + 1, 6, none⟩ = some (.slice b1 b2 b3) ∧ W.cell? ⟨w.heap.size + 1, 7, none⟩ = some (.slice b4 b5 b6)) := by
    intro W hW
    have hw0 : W.heap[w.heap.size]? = _ := (hW.block _ (by omega)).trans HX0.out
    have hw1 : W.heap[w.heap.size + 1]? = _ := (hW.block _ (by omega)).trans HX1.out
    obtain ⟨q0, q1, q2, q3, q4, q5, q6, q7⟩ := box_cells (d := ⟨ka, an, am, ak, pa, sa, .slice a1 a2 a3, .slice a4 a5 a6, [], []⟩) hw0
    obtain ⟨r0, r1, r2, r3, r4, r5, r6, r7⟩ := box_cells (d := ⟨kb, bn, bm, bk, pb, sb, .slice b1 b2 b3, .slice b4 b5 b6, [], []⟩) hw1
    exact ⟨hW.size, hW, q0, q1, q2, q3, q4, q5, q6, q7, r0, r1, r2, r3, r4, r5, r6, r7⟩
  go_upto_region 3 with fail
  go_cut [5, 6] (fun s5 s6 wx => ∃ p q : Nat, s5 = .pointer (some ⟨p, 0, none⟩) ∧ s6 = .pointer (some ⟨q, 0, none⟩) ∧ Hid (wx.heap[p]? = some (.cells #[.int .i64 ka, .int .i64 xn, .int .i64 xm, .int .i64 xk, .string xp, .string xs, .slice x1 x2 x3, .slice x4 x5 x6] 32 (0, 0))) ∧ Hid (wx.heap[q]? = some (.cells #[.int .i64 kb, .int .i64 yn, .int .i64 ym, .int .i64 yk, .string yp, .string ys, .slice y1 y2 y3, .slice y4 y5 y6] 32 (0, 0))) ∧ Hid (Below w2.heap.size w2 wx))
  case first =>
    have HD0 : Hid (Below w2.heap.size w2 w2.drew) := (Below.refl _ _).drew
    have hD1 : w2.heap.size ≤ w2.drew.heap.size := Nat.le_refl _
    go_region_held3 (fun w' => w2.heap.size ≤ w'.heap.size ∧ Hid (Below w2.heap.size w2 w') ∧ w'.cell? ⟨w.heap.size, 0, none⟩ = some (.int .i64 ka) ∧ w'.cell? ⟨w.heap.size, 1, none⟩ = some (.int .i64 an) ∧ w'.cell? ⟨w.heap.size, 2, none⟩ = some (.int .i64 am) ∧ w'.cell? ⟨w.heap.size, 3, none⟩ = some (.int .i64 ak) ∧ w'.cell? ⟨w.heap.size, 4, none⟩ = some (.string pa) ∧ w'.cell? ⟨w.heap.size, 5, none⟩ = some (.string sa) ∧ w'.cell? ⟨w.heap.size, 6, none⟩ = some (.slice a1 a2 a3) ∧ w'.cell? ⟨w.heap.size, 7, none⟩ = some (.slice a4 a5 a6) ∧ w'.cell? ⟨w.heap.size + 1, 0, none⟩ = some (.int .i64 kb) ∧ w'.cell? ⟨w.heap.size + 1, 1, none⟩ = some (.int .i64 bn) ∧ w'.cell? ⟨w.heap.size + 1, 2, none⟩ = some (.int .i64 bm) ∧ w'.cell? ⟨w.heap.size + 1, 3, none⟩ = some (.int .i64 bk) ∧ w'.cell? ⟨w.heap.size + 1, 4, none⟩ = some (.string pb) ∧ w'.cell? ⟨w.heap.size + 1, 5, none⟩ = some (.string sb) ∧ w'.cell? ⟨w.heap.size + 1, 6, none⟩ = some (.slice b1 b2 b3) ∧ w'.cell? ⟨w.heap.size + 1, 7, none⟩ = some (.slice b4 b5 b6)) (
        (refine KS.out _ ?_
         (first | ((repeat (first | refine Below.setCell ?_ (by first | omega | (simp; done) | (simp; omega)) _ | refine Below.alloc ?_ (by first | omega | (simp; done) | (simp; omega)) _ | refine Below.drew ?_)); (first | exact Hid.out (by assumption) | exact Below.refl _ _)) | (refine Below.trans ?_ (Below.mono (by assumption) (by first | omega | (simp; done) | (simp; omega))); ((repeat (first | refine Below.setCell ?_ (by first | omega | (simp; done) | (simp; omega)) _ | refine Below.alloc ?_ (by first | omega | (simp; done) | (simp; omega)) _ | refine Below.drew ?_)); (first | exact Hid.out (by assumption) | exact Below.refl _ _))))))
      (first
        | (go_at_call_of 8 (Value.string pa)
           refine (OA.out _).mono ?_
           rintro e wa ⟨rfl, hba⟩
           have hA0 : Below w2.heap.size w2 wa := by (first | ((repeat (first | refine Below.setCell ?_ (by first | omega | (simp; done) | (simp; omega)) _ | refine Below.alloc ?_ (by first | omega | (simp; done) | (simp; omega)) _ | refine Below.drew ?_)); (first | exact Hid.out (by assumption) | exact Below.refl _ _)) | (refine Below.trans ?_ (Below.mono (by assumption) (by first | omega | (simp; done) | (simp; omega))); ((repeat (first | refine Below.setCell ?_ (by first | omega | (simp; done) | (simp; omega)) _ | refine Below.alloc ?_ (by first | omega | (simp; done) | (simp; omega)) _ | refine Below.drew ?_)); (first | exact Hid.out (by assumption) | exact Below.refl _ _))))
           have hA1 := hA0.size
           have HA0 := Lib.hid hA0
           clear hA0
           first
             | (obtain ⟨n1, n2⟩ := news2d hba
                have z1 := zero_facts n1
                have z2 := zero_facts n2
                go_split_ands)
             | (have n1 := news1d hba
                have z1 := zero_facts n1
                go_split_ands)
             | skip)
        | (go_at_call_of 8 (Value.string pb)
           refine (OB.out _).mono ?_
           rintro e wb ⟨rfl, hbb⟩
           have hB0 : Below w2.heap.size w2 wb := by (first | ((repeat (first | refine Below.setCell ?_ (by first | omega | (simp; done) | (simp; omega)) _ | refine Below.alloc ?_ (by first | omega | (simp; done) | (simp; omega)) _ | refine Below.drew ?_)); (first | exact Hid.out (by assumption) | exact Below.refl _ _)) | (refine Below.trans ?_ (Below.mono (by assumption) (by first | omega | (simp; done) | (simp; omega))); ((repeat (first | refine Below.setCell ?_ (by first | omega | (simp; done) | (simp; omega)) _ | refine Below.alloc ?_ (by first | omega | (simp; done) | (simp; omega)) _ | refine Below.drew ?_)); (first | exact Hid.out (by assumption) | exact Below.refl _ _))))
           have hB1 := hB0.size
           have HB0 := Lib.hid hB0
           clear hB0
           first
             | (obtain ⟨m1, m2⟩ := news2 hbb
                have z1 := zero_facts m1
                have z2 := zero_facts m2
                go_split_ands)
             | (have m1 := news1 hbb
                have z1 := zero_facts m1
                have m2 := old1 hbb n1
                have z2 := zero_facts m2
                have nq1 := (zero_facts1 n1).1
                have nq2 := (zero_facts1 n1).2.1
                go_split_ands)
             | (have m1 := news1 hbb
                have z1 := zero_facts m1
                have z2 := zero_facts1 m1
                go_split_ands)
             | (have m1 := old0 hbb n1
                have z1 := zero_facts m1
                have m2 := old0 hbb n2
                have z2 := zero_facts m2
                go_split_ands)
             | (have m1 := old0 hbb n1
                have z1 := zero_facts m1
                have z2 := zero_facts1 m1
                go_split_ands)
             | skip))
    all_goals (go_wp2_with fail; go_meet; refine ⟨_, _, rfl, rfl, ?_, ?_, ?_⟩)
    all_goals unfold Hid
    all_goals first
      | (with_reducible refine Eq.trans ?_ rfl
         (first
          | with_reducible exact (heap2 _ _ _).1
          | with_reducible exact (heap2 _ _ _).2
          | with_reducible exact st_same (by (first | assumption | exact heap_alloc_new _ _ | exact olda (by assumption))) _ _ _ _ _ _ _ _
          | with_reducible exact st_other (by (first | assumption | exact heap_alloc_new _ _ | exact olda (by assumption))) (by (first | assumption | exact Ne.symm (by assumption) | omega)) _ _ _ _ _ _ _ _
          | with_reducible exact st_other (st_same (by (first | assumption | exact heap_alloc_new _ _ | exact olda (by assumption))) _ _ _ _ _ _ _ _) (by (first | assumption | exact Ne.symm (by assumption) | omega)) _ _ _ _ _ _ _ _
          | with_reducible exact st_same (st_other (by (first | assumption | exact heap_alloc_new _ _ | exact olda (by assumption))) (by (first | assumption | exact Ne.symm (by assumption) | omega)) _ _ _ _ _ _ _ _) _ _ _ _ _ _ _ _))
      | (
        repeat (first | with_reducible refine Below.setCell ?_ (by first | omega | (simp; done) | (simp; omega)) _ | with_reducible refine Below.alloc ?_ (by first | omega | (simp; done) | (simp; omega)) _ | with_reducible refine Below.drew ?_)
        first | with_reducible exact Hid.out (by assumption))
  case rest =>
    obtain ⟨p, q, rfl, rfl, hp, hq, hbw⟩ := hcut
    have hwc : Hid (Below w.heap.size w wc) := HBL.out.trans (hbw.out.mono (by omega))
    have hx0 : Hid (wc.heap[w.heap.size]? = some (.cells #[.int .i64 ka, .int .i64 an, .int .i64 am, .int .i64 ak, .string pa, .string sa, .slice a1 a2 a3, .slice a4 a5 a6] 32 (0, 0))) := (hbw.out.block _ (by omega)).trans HX0.out
    have hXin : Hid (X.In wc) := by unfold Hid; rw [← HX.out]; exact onlyD_in (HA.out.below hwc.out)
    have hYin : Hid (Y.In wc) := by unfold Hid; rw [← HY.out]; exact onlyD_in (HB.out.below hwc.out)
    have hszc : w.heap.size + 2 ≤ wc.heap.size := by have := hbw.out.size; omega
    clear KS OA OB q0 q1 q2 q3 q4 q5 q6 q7 r0 r1 r2 r3 r4 r5 r6 r7 HX0 HX1 HBL hbw hsz2
    obtain ⟨q0, q1, q2, q3, q4, q5, q6, q7⟩ := box_cells (d := ⟨ka, xn, xm, xk, xp, xs, .slice x1 x2 x3, .slice x4 x5 x6, [], []⟩) hp.out
    go_wp2_with fail
    have hbx : Below wc.heap.size wc (wc.alloc (.cells #[.int .i64 ka, .int .i64 xn, .int .i64 xm, .int .i64 xk, .string xp, .string xs, .slice x1 x2 x3, .slice x4 x5 x6] 32)) := (Below.refl _ _).alloc (Nat.le_refl _) _
    have HBX := Lib.hid hbx; clear hbx
    refine (print_any _ [X] _ (.inr <| .inr ⟨wc.heap.size, 0, 1, rfl, by simp, by simp, ?hcx⟩) (by simp) ?hdx (HE.out.below (hwc.out.trans (HBX.out.mono hwc.out.size)))).mono ?_
    case hcx =>
      intro j d hj i u hu
      cases j with
      | succ j => simp at hj
      | zero =>
        simp at hj; subst hj
        rw [World.cell?_alloc_at _ _ _ _ rfl]
        simpa [RDeed.cells, HXX.out] using hu
    case hdx =>
      intro d hd
      obtain rfl := List.mem_singleton.1 hd
      exact hXin.out.below HBX.out
    rintro e wd ⟨rfl, hbd⟩
    have hwd : Hid (Below wc.heap.size wc wd) := HBX.out.trans (hbd.mono (by simp))
    clear hbd HBX q0 q1 q2 q3 q4 q5 q6 q7
    obtain ⟨S, hS⟩ : ∃ S : ByteArray, (⟨(printR [X]).2.toArray⟩ : ByteArray) = S := ⟨_, rfl⟩
    obtain ⟨ex1, hex1⟩ : ∃ n, (printR [X]).1 = n := ⟨_, rfl⟩
    rw [hS, hex1]
    have HSS := Lib.hid hS; have HEX := Lib.hid hex1; clear hS hex1
    have hszd : wc.heap.size ≤ wd.heap.size := hwd.out.size
    obtain ⟨q0, q1, q2, q3, q4, q5, q6, q7⟩ := box_cells (d := ⟨kb, yn, ym, yk, yp, ys, .slice y1 y2 y3, .slice y4 y5 y6, [], []⟩) ((hwd.out.block _ (hp_lt hq.out)).trans hq.out)
    go_wp2_with fail
    have hby : Below wd.heap.size wd (wd.alloc (.cells #[.int .i64 kb, .int .i64 yn, .int .i64 ym, .int .i64 yk, .string yp, .string ys, .slice y1 y2 y3, .slice y4 y5 y6] 32)) := (Below.refl _ _).alloc (Nat.le_refl _) _
    have HBY := Lib.hid (hwd.out.trans (hby.mono hwd.out.size)); clear hby
    refine (print_any _ [Y] _ (.inr <| .inr ⟨wd.heap.size, 0, 1, rfl, by simp, by simp, ?hcy⟩) (by simp) ?hdy (HE.out.below (hwc.out.trans (HBY.out.mono hwc.out.size)))).mono ?_
    case hcy =>
      intro j d hj i u hu
      cases j with
      | succ j => simp at hj
      | zero =>
        simp at hj; subst hj
        rw [World.cell?_alloc_at _ _ _ _ rfl]
        simpa [RDeed.cells, HYY.out] using hu
    case hdy =>
      intro d hd
      obtain rfl := List.mem_singleton.1 hd
      exact hYin.out.below HBY.out
    rintro e we ⟨rfl, hbe⟩
    have hwe : Hid (Below wc.heap.size wc we) := HBY.out.trans (hbe.mono (by simp; omega))
    clear hbe HBY hwd q0 q1 q2 q3 q4 q5 q6 q7
    obtain ⟨T, hT⟩ : ∃ S : ByteArray, (⟨(printR [Y]).2.toArray⟩ : ByteArray) = S := ⟨_, rfl⟩
    obtain ⟨ey1, hey1⟩ : ∃ n, (printR [Y]).1 = n := ⟨_, rfl⟩
    rw [hT, hey1]
    have HTT := Lib.hid hT; have HEY := Lib.hid hey1; clear hT hey1
    have hwe0 : Hid (Below w.heap.size w we) := hwc.out.trans (hwe.out.mono hwc.out.size)
    by_cases hpx : ex1 = 0
    case neg =>
      have hpx' : (ex1 != 0) = true := by simp [hpx]
      clear hpx
      go_wp2_with fail
      go_ret
      exact ⟨rfl, hwe0.out⟩
    by_cases hpy : ey1 = 0
    case neg =>
      have hpx' : (ex1 != 0) = false := by simp [hpx]
      have hpy' : (ey1 != 0) = true := by simp [hpy]
      clear hpx hpy
      go_wp2_with fail
      go_ret
      exact ⟨rfl, hwe0.out⟩
    have hlaw : ∃ x, kindsT[ka]? = some x ∧ S.data.toList.count 32 = (hasL ka).length ∧ x.1.length < S.size ∧ S.data.toList.take x.1.length = x.1 ∧ (S.toList == T.toList) = sameR X Y ∧ S.size ≤ 4097 := by
      have o1 := printR_find.1 (show (printR [X]).1 = 0 by rw [HEX.out]; exact hpx)
      have o2 := printR_find.1 (show (printR [Y]).1 = 0 by rw [HEY.out]; exact hpy)
      have sX : S.data.toList = lineNL X := by rw [← HSS.out, printR_ok o1]; simp
      have sY : T.data.toList = lineNL Y := by rw [← HTT.out, printR_ok o2]; simp
      have eka : a.kind = ka := by rw [HAA.out]
      have ekb : b.kind = kb := by rw [HBB.out]
      obtain ⟨x, y1, y2, y3, y4, y5⟩ := lines_law a b (by rw [eka]; omega) (by rw [eka]; omega) (by rw [ekb]; omega) (by rw [ekb]; omega) (by rw [HX.out]; exact o1 X (by simp)) (by rw [HY.out]; exact o2 Y (by simp))
      rw [HX.out] at y2 y3 y4 y5
      rw [HY.out] at y5
      rw [eka, Int.toNat_natCast] at y1 y2
      have hlx := lineR_len X
      refine ⟨x, y1, by rw [sX]; exact y2, by rw [Lib.size_eq, sX]; exact y3, by rw [sX]; exact y4, by rw [toList_eq, toList_eq, sX, sY]; exact y5, ?_⟩
      rw [Lib.size_eq, sX]
      simp [lineNL]; omega
    obtain ⟨kx, z1, z2, z3, z4, z5, z6⟩ := hlaw
    have hpx' : (ex1 != 0) = false := by simp [hpx]
    have hpy' : (ey1 != 0) = false := by simp [hpy]
    clear hpx hpy HSS HTT HEX HEY
    have Y1 := Lib.hid z1; have Y2 := Lib.hid z2; have Y4 := Lib.hid z4; have Y5 := Lib.hid z5
    clear z1 z2 z4 z5
    go_wp2_with fail
    go_loop [11, 12] (fun n i => ∃ k : Nat, k ≤ S.size ∧ i = .int .i64 k ∧ n = .int .i64 ((S.data.toList.take k).count 32 : Nat)) (fun _ i => S.size - (intOf i).toNat)
    case atStart => exact ⟨0, Nat.zero_le _, rfl, rfl⟩
    case round =>
      obtain ⟨k, hk, rfl, rfl⟩ := hrel
      by_cases hlt : k < S.size
      · have hts := List.take_succ_eq_append_getElem (l := S.data.toList) (i := k) (by simpa using hlt)
        have hcn : (S.data.toList.take k).count 32 ≤ k := Nat.le_trans List.count_le_length (by simp; omega)
        by_cases hc : (S[k].toNat : Int) = 32
        · have hcb : ((S[k].toNat : Int) == 32) = true := by simp [hc]
          have HT2 : Hid ((S.data.toList.take (k + 1)).count 32 = (S.data.toList.take k).count 32 + 1) := by
            unfold Hid
            rw [hts, List.count_append]
            have : S.data.toList[k]'(by simpa using hlt) = 32 := UInt8.toNat_inj.1 (by have : S.data.toList[k]'(by simpa using hlt) = S[k] := rfl; rw [this]; simp; omega)
            rw [this]; rfl
          clear hc hts
          go_wp2_with fail
          go_round
          case rel => exact ⟨k + 1, by omega, by go_num, by rw [HT2.out]; go_num⟩
          case measure => simp [intOf]; omega
        · have hcb : ((S[k].toNat : Int) == 32) = false := by simp; omega
          have HT2 : Hid ((S.data.toList.take (k + 1)).count 32 = (S.data.toList.take k).count 32) := by
            unfold Hid
            rw [hts, List.count_append]
            have : S.data.toList[k]'(by simpa using hlt) ≠ 32 := fun e => hc (by have e2 : S.data.toList[k]'(by simpa using hlt) = S[k] := rfl; rw [← e2, e]; rfl)
            rw [List.count_singleton, if_neg (by rw [beq_iff_eq]; exact this)]; rfl
          clear hc hts
          go_wp2_with fail
          go_round
          case rel => exact ⟨k + 1, by omega, by go_num, by rw [HT2.out]⟩
          case measure => simp [intOf]; omega
      · obtain rfl : k = S.size := by omega
        have HCN : Hid ((S.data.toList.take S.size).count 32 = (hasL ka).length) := by
          unfold Hid
          rw [List.take_of_length_le (by simp), Y2.out]
        rw [HCN.out]
        go_wp2_with fail
        obtain ⟨q0, -⟩ := box_cells (d := ⟨ka, an, am, ak, pa, sa, .slice a1 a2 a3, .slice a4 a5 a6, [], []⟩) ((hwe.out.block _ (by omega)).trans hx0.out)
        have hsze : w.heap.size + 2 ≤ we.heap.size := by have := hwe.out.size; omega
        obtain ⟨NM, hNM⟩ : ∃ N : ByteArray, (⟨kx.1.toArray⟩ : ByteArray) = N := ⟨_, rfl⟩
        have HNM := Lib.hid hNM; clear hNM
        have y3' : NM.size < S.size := by rw [← HNM.out]; exact z3
        have y3b : ((S.extract 0 NM.size).toList == NM.toList) = true := by
          rw [toList_eq, toList_eq, ← HNM.out, Lib.extract_data]
          simp only [ByteArray.size, List.size_toArray, List.drop_zero, Nat.sub_zero, Y4.out]; simp
        have kz : (0 : Int) ≤ (ka : Int) := by omega
        have kl : (ka : Int) < 26 := by omega
        go_region_with
          (first
            | (go_at_call 9
               refine (refNames_any _).mono ?_
               rintro e wn ⟨rfl, hbn, hzn, hcn⟩
               have q1 : wn.cell? ⟨we.heap.size, ka, none⟩ = some (.string NM) := by rw [← HNM.out]; exact hcn ka kx Y1.out
               have q0' := (hbn.cell (p := ⟨w.heap.size, 0, none⟩) (by simp; omega)).trans q0
               clear hcn))
        all_goals
          have hwn : Below wc.heap.size wc wn := (Below.drew hwe.out).trans (hbn.mono (by have := hwe.out.size; simpa using this))
          have HWN := Lib.hid hwn; clear hwn hbn hzn q1 q0
          go_wp2_with fail
          refine (has_any ka ka1 _).mono ?_
          rintro e wh ⟨v, rfl, hr, hbh, -⟩
          obtain ⟨lv, lc, rfl⟩ := rdS_len hr
          have HWH := Lib.hid (HWN.out.trans (hbh.mono (by have := HWN.out.size; simpa using this)))
          clear hbh hr HWN q0'
          obtain ⟨p0, p1, p2, p3, p4, p5, p6, p7⟩ := box_cells (d := ⟨ka, xn, xm, xk, xp, xs, .slice x1 x2 x3, .slice x4 x5 x6, [], []⟩) ((HWH.out.block _ (hp_lt hp.out)).trans hp.out)
          obtain ⟨q0, q1, q2, q3, q4, q5, q6, q7⟩ := box_cells (d := ⟨kb, yn, ym, yk, yp, ys, .slice y1 y2 y3, .slice y4 y5 y6, [], []⟩) ((HWH.out.block _ (hp_lt hq.out)).trans hq.out)
          go_wp2_with fail
          have hsm := same_any X Y wh (hXin.out.below HWH.out) (hYin.out.below HWH.out)
          rw [show X.val = .agg #[.int .i64 ka, .int .i64 xn, .int .i64 xm, .int .i64 xk, .string xp, .string xs, .slice x1 x2 x3, .slice x4 x5 x6] from by rw [HXX.out]; rfl,
            show Y.val = .agg #[.int .i64 kb, .int .i64 yn, .int .i64 ym, .int .i64 yk, .string yp, .string ys, .slice y1 y2 y3, .slice y4 y5 y6] from by rw [HYY.out]; rfl] at hsm
          refine hsm.mono ?_
          clear hsm
          rintro e wz ⟨rfl, hbz⟩
          have hwz : Below w.heap.size w wz := (hwc.out.trans (HWH.out.mono hwc.out.size)).trans (hbz.mono (by have h1 := hwc.out.size; have h2 := HWH.out.size; omega))
          rw [← Y5.out]
          clear p0 p1 p2 p3 p4 p5 p6 p7 q0 q1 q2 q3 q4 q5 q6 q7
          have HWZ := Lib.hid hwz; clear hwz hbz
          go_wp2_with fail
          go_ret
          refine ⟨?_, HWZ.out⟩
          simp
end Go.Proofs.YtcbdmaelgedbkaaDoor
