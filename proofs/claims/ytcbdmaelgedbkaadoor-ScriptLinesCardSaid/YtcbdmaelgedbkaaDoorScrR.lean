/- The walk of ScriptLines, whatever the deeds. -/
import Derived.Test.YtcbdmaelgedbkaaDoorScrQ
namespace Go.Proofs.YtcbdmaelgedbkaaDoor
open Go.RowKit Go.Shelf

theorem deed_form {d : RDeed} {w : World} (h : d.Raw w) : ∃ (kd n m k : Int) (p s : ByteArray) (a1 : Option Addr) (a2 a3 : Nat) (a4 : Option Addr) (a5 a6 : Nat) (l : List UInt8) (e : List Int), d = ⟨kd, n, m, k, p, s, .slice a1 a2 a3, .slice a4 a5 a6, l, e⟩ := by
  obtain ⟨ab, nb, cb, hbv⟩ := rdS_slice h.rb
  obtain ⟨ak, nk, ck, hkv⟩ := rdS_slice h.rk
  obtain ⟨kd, n, m, k, p, s, bv, kv, l, e⟩ := d
  simp only at hbv hkv
  subst hbv hkv
  exact ⟨_, _, _, _, _, _, _, _, _, _, _, _, _, _, rfl⟩

set_option maxRecDepth 100000 in
set_option maxHeartbeats 4000000 in
theorem lines_out (a b : RDeed) (w : World) (ha : a.Raw w) (hb : b.Raw w) (he : Env w) (h : smallR [a, b] = false ∨ a.kind < 0 ∨ (0 ≤ a.kind ∧ 25 < a.kind) ∨ (0 ≤ a.kind ∧ a.kind ≤ 25 ∧ b.kind < 0) ∨ (0 ≤ a.kind ∧ a.kind ≤ 25 ∧ 0 ≤ b.kind ∧ 25 < b.kind)) :
    Calls Tryd.prog 4 #[a.val, b.val] w fun e w' => e = .returned (.bool true) ∧ Below w.heap.size w w' := by
  obtain ⟨ka, an, am, ak, pa, sa, a1, a2, a3, a4, a5, a6, la, ea, haa⟩ := deed_form ha
  obtain ⟨kb, bn, bm, bk, pb, sb, b1, b2, b3, b4, b5, b6, lb, eb, hbb⟩ := deed_form hb
  rw [show a.val = .agg #[.int .i64 ka, .int .i64 an, .int .i64 am, .int .i64 ak, .string pa, .string sa, .slice a1 a2 a3, .slice a4 a5 a6] from by rw [haa]; rfl,
    show b.val = .agg #[.int .i64 kb, .int .i64 bn, .int .i64 bm, .int .i64 bk, .string pb, .string sb, .slice b1 b2 b3, .slice b4 b5 b6] from by rw [hbb]; rfl]
  obtain ⟨sm, hsm⟩ : ∃ s, smallR [a, b] = s := ⟨_, rfl⟩
  have h' : sm = false ∨ (sm = true ∧ ka < 0) ∨ (sm = true ∧ 0 ≤ ka ∧ 25 < ka) ∨ (sm = true ∧ 0 ≤ ka ∧ ka ≤ 25 ∧ kb < 0) ∨ (sm = true ∧ 0 ≤ ka ∧ ka ≤ 25 ∧ 0 ≤ kb ∧ 25 < kb) := by
    rw [hsm, haa, hbb] at h
    cases sm with
    | false => exact .inl rfl
    | true => simpa using h
  have HA := Lib.hid ha; have HB := Lib.hid hb; have HE := Lib.hid he; have HAA := Lib.hid haa; have HBB := Lib.hid hbb; have HSM := Lib.hid hsm
  clear ha hb he haa hbb hsm h
  go_enter Tryd.func4, Tryd.ntmps4
  go_wp2_with fail
  refine (awake_any _ (HE.out.below (((Below.refl _ _).alloc (Nat.le_refl _) _).alloc (by simp) _))).mono ?_
  rintro e w1 ⟨rfl, hb1⟩
  have hx0 : w1.heap[w.heap.size]? = some (.cells #[.int .i64 ka, .int .i64 an, .int .i64 am, .int .i64 ak, .string pa, .string sa, .slice a1 a2 a3, .slice a4 a5 a6] 32 (0, 0)) := (hb1.block _ (by simp; omega)).trans (heap2 w _ _).1
  have hx1 : w1.heap[w.heap.size + 1]? = some (.cells #[.int .i64 kb, .int .i64 bn, .int .i64 bm, .int .i64 bk, .string pb, .string sb, .slice b1 b2 b3, .slice b4 b5 b6] 32 (0, 0)) := (hb1.block _ (by simp)).trans (heap2 w _ _).2
  have hbel : Below w.heap.size w w1 := ((((Below.refl _ w).alloc (Nat.le_refl _) _).alloc (by simp) _)).trans (hb1.mono (by simp; omega))
  have hsz : w.heap.size + 2 ≤ w1.heap.size := by have := hb1.size; simp at this; omega
  obtain ⟨q0, q1, q2, q3, q4, q5, q6, q7⟩ := box_cells (d := ⟨ka, an, am, ak, pa, sa, .slice a1 a2 a3, .slice a4 a5 a6, [], []⟩) hx0
  obtain ⟨r0, r1, r2, r3, r4, r5, r6, r7⟩ := box_cells (d := ⟨kb, bn, bm, bk, pb, sb, .slice b1 b2 b3, .slice b4 b5 b6, [], []⟩) hx1
  have HBL := Lib.hid hbel
  have HH' := Lib.hid h'
  clear hx0 hx1 hbel hb1 h'
  go_wp2_with fail
  refine (small_any _ [a, b] _ (.inr <| .inr ⟨w1.heap.size, 0, 2, rfl, by simp, by simp, ?hc⟩) ?hd).mono ?_
  case hc =>
    intro j d hj i u hu
    rw [World.cell?_alloc_at _ _ _ _ rfl]
    have hi : i < 8 := (List.getElem?_eq_some_iff.1 hu).1
    match j, hj with
    | 0, hj =>
      cases hj
      rw [HAA.out] at hu
      rcases (by omega : i = 0 ∨ i = 1 ∨ i = 2 ∨ i = 3 ∨ i = 4 ∨ i = 5 ∨ i = 6 ∨ i = 7) with rfl | rfl | rfl | rfl | rfl | rfl | rfl | rfl <;> simpa [RDeed.cells] using hu
    | 1, hj =>
      cases hj
      rw [HBB.out] at hu
      rcases (by omega : i = 0 ∨ i = 1 ∨ i = 2 ∨ i = 3 ∨ i = 4 ∨ i = 5 ∨ i = 6 ∨ i = 7) with rfl | rfl | rfl | rfl | rfl | rfl | rfl | rfl <;> simpa [RDeed.cells] using hu
    | j + 2, hj => cases hj
  case hd =>
    have hbw1 : Below w.heap.size w (w1.alloc (.cells #[.int .i64 ka, .int .i64 an, .int .i64 am, .int .i64 ak, .string pa, .string sa, .slice a1 a2 a3, .slice a4 a5 a6, .int .i64 kb, .int .i64 bn, .int .i64 bm, .int .i64 bk, .string pb, .string sb, .slice b1 b2 b3, .slice b4 b5 b6] 32)) := HBL.out.alloc HBL.out.size _
    intro d hd
    rcases List.mem_cons.1 hd with rfl | hd
    · exact HA.out.below hbw1
    · obtain rfl := List.mem_singleton.1 hd
      exact HB.out.below hbw1
  rw [HSM.out]
  rintro e w2 ⟨rfl, hw⟩
  have hbel : Below w.heap.size w w2 := by
    rw [← hw]; exact HBL.out.alloc HBL.out.size _
  have c0 : w2.cell? ⟨w.heap.size, 0, none⟩ = some (.int .i64 ka) := by
    rw [← hw, World.cell?_alloc_lt _ _ ⟨w.heap.size, 0, none⟩ (by simp; omega)]; exact q0
  have c1 : w2.cell? ⟨w.heap.size + 1, 0, none⟩ = some (.int .i64 kb) := by
    rw [← hw, World.cell?_alloc_lt _ _ ⟨w.heap.size + 1, 0, none⟩ (by simp; omega)]; exact r0
  have HB2 := Lib.hid hbel
  clear hw q0 q1 q2 q3 q4 q5 q6 q7 r0 r1 r2 r3 r4 r5 r6 r7 HBL hsz hbel
  have h' := HH'.out
  clear HH'
  rcases h' with rfl | ⟨rfl, h1⟩ | ⟨rfl, h1, h2⟩ | ⟨rfl, h1, h2, h3⟩ | ⟨rfl, h1, h2, h3, h4⟩
  all_goals
    go_wp2_with fail
    refine (awake_any _ (HE.out.below HB2.out)).mono ?_
    rintro e w3 ⟨rfl, hb3⟩
    go_wp2_with fail
    go_ret
    exact ⟨rfl, HB2.out.trans (hb3.mono HB2.out.size)⟩

theorem lines_walk (a b : RDeed) (w : World) (ha : a.Raw w) (hb : b.Raw w) (he : Env w) :
    Calls Tryd.prog 4 #[a.val, b.val] w fun e w' => e = .returned (.bool true) ∧ Below w.heap.size w w' := by
  by_cases hs : smallR [a, b] = true
  case neg => exact lines_out a b w ha hb he (.inl (by simpa using hs))
  by_cases h1 : 0 ≤ a.kind ∧ a.kind ≤ 25 ∧ 0 ≤ b.kind ∧ b.kind ≤ 25
  case neg => exact lines_out a b w ha hb he (.inr (by omega))
  obtain ⟨k1, k2, k3, k4⟩ := h1
  have hsa := (smallR_all hs).2
  have ia := ha.in (hsa a (by simp))
  have ib := hb.in (hsa b (by simp))
  obtain ⟨ka, an, am, ak, pa, sa, a1, a2, a3, a4, a5, a6, la, ea, haa⟩ := deed_form ha
  obtain ⟨kb, bn, bm, bk, pb, sb, b1, b2, b3, b4, b5, b6, lb, eb, hbb⟩ := deed_form hb
  obtain ⟨kx, xn, xm, xk, xp, xs, x1, x2, x3, x4, x5, x6, lx, ex, hxx⟩ := deed_form (in_raw (onlyD_in ia))
  obtain ⟨ky, yn, ym, yk, yp, ys, y1, y2, y3, y4, y5, y6, ly, ey, hyy⟩ := deed_form (in_raw (onlyD_in ib))
  have e1 : a.kind = ka := by rw [haa]
  have e2 : b.kind = kb := by rw [hbb]
  have e3 : kx = ka := by have : (onlyD a).kind = a.kind := rfl; rw [hxx, e1] at this; exact this
  have e4 : ky = kb := by have : (onlyD b).kind = b.kind := rfl; rw [hyy, e2] at this; exact this
  subst e3 e4
  obtain ⟨na, hna⟩ := Int.eq_ofNat_of_zero_le (e1 ▸ k1)
  obtain ⟨nb, hnb⟩ := Int.eq_ofNat_of_zero_le (e2 ▸ k3)
  subst hna hnb
  have := lines_core na nb an am ak bn bm bk pa sa pb sb a1 a4 b1 b4 a2 a3 a5 a6 b2 b3 b5 b6 la lb ea eb xn xm xk yn ym yk xp xs yp ys x1 x4 y1 y4 x2 x3 x5 x6 y2 y3 y5 y6 lx ly ex ey w a b (onlyD a) (onlyD b) haa hbb hxx hyy rfl rfl ia ib he hs (by omega) (by omega)
  rw [show a.val = .agg #[.int .i64 na, .int .i64 an, .int .i64 am, .int .i64 ak, .string pa, .string sa, .slice a1 a2 a3, .slice a4 a5 a6] from by rw [haa]; rfl,
    show b.val = .agg #[.int .i64 nb, .int .i64 bn, .int .i64 bm, .int .i64 bk, .string pb, .string sb, .slice b1 b2 b3, .slice b4 b5 b6] from by rw [hbb]; rfl]
  exact this
end Go.Proofs.YtcbdmaelgedbkaaDoor
