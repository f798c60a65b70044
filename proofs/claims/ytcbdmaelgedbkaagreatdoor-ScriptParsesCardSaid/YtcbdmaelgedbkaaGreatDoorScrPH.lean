/- The walk of the reference's Print, of deeds that are right. -/
import Derived.Test.YtcbdmaelgedbkaaGreatDoorScrPG
import Derived.Deep.RegionHeld3
import Derived.Deep.RegionWith
import Derived.Deep.DeepCutAuto
namespace Go.Proofs.YtcbdmaelgedbkaaGreatDoor
open Go.RowKit Go.Shelf

theorem onlyD_in {d : RDeed} {w : World} (h : d.In w) : (onlyD d).In w := by
  refine ⟨?_, ?_, ?_, ?_, ?_, ?_, ?_, ?_, ?_, ?_, ?_⟩ <;> (unfold onlyD onlyTo) <;> dsimp only
  · split
    · exact h.rb
    · exact .inl ⟨rfl, rfl⟩
  · split
    · exact h.rk
    · exact .inl ⟨rfl, rfl⟩
  · exact h.kind
  · split
    · exact h.n
    · unfold I64; omega
  · split
    · exact h.m
    · unfold I64; omega
  · split
    · exact h.k
    · unfold I64; omega
  · split
    · exact h.path
    · decide
  · split
    · exact h.as_
    · decide
  · split
    · exact h.b
    · simp
  · split
    · exact h.keepN
    · simp
  · split
    · exact h.keep
    · simp

def nameD (d : RDeed) : List UInt8 := (kindsT[d.kind.toNat]?.map (·.1)).getD []
def lineZ (d : RDeed) : List UInt8 := nameD d ++ (hasL d.kind.toNat).flatMap fun z => 32 :: wordZ d z
def printG (ds : List RDeed) : List UInt8 := ds.flatMap fun d => lineZ d ++ [10]
structure GoodD (d : RDeed) : Prop where
  lo : 0 ≤ d.kind
  hi : d.kind < 26
  same : sameR d (onlyD d) = true
  len : (lineZ d).length ≤ 4096
theorem printG_len {ds : List RDeed} (h : ∀ d ∈ ds, GoodD d) : (printG ds).length ≤ 4097 * ds.length := by
  induction ds with
  | nil => exact Nat.le_refl 0
  | cons d ds ih =>
    have h1 := ih fun x hx => h x (List.mem_cons_of_mem _ hx)
    have h2 := (h d (by simp)).len
    unfold printG at h1 ⊢
    rw [List.flatMap_cons, List.length_append, List.length_append, List.length_cons, List.length_cons]
    simp only [List.length_nil]
    omega

set_option maxRecDepth 100000 in
set_option maxHeartbeats 8000000 in
theorem refprint_any (v : Value) (ds : List RDeed) (w : World) (hr : RdDeeds w v ds) (hl : ds.length ≤ 1000) (hin : ∀ d ∈ ds, d.In w) (hgood : ∀ d ∈ ds, GoodD d) :
    Calls Tryz.prog 10 #[v] w fun e w' => e = .returned (.tuple #[.string ⟨(printG ds).toArray⟩, .int .i64 0]) ∧ Below w.heap.size w w' := by
  obtain ⟨av, cv, rfl, hcells⟩ := rdDeeds_open hr
  have HD := Lib.hid hin; have HC := Lib.hid hcells; have HG := Lib.hid hgood; clear hin hr hcells hgood
  go_enter Tryz.func10, Tryz.ntmps10
  go_wp2_with fail
  go_loopw [4, 5] (fun sv i wr => ∃ (k : Nat) (T : ByteArray), k ≤ ds.length ∧ i = .int .i64 k ∧ sv = .string T ∧ T.size ≤ 4097 * 1000 ∧ Hid (T = ⟨(printG (ds.take k)).toArray⟩) ∧ Hid (Below w.heap.size w wr)) (fun _ i _ => ds.length - (intOf i).toNat)
  case atStart => exact ⟨0, ⟨#[]⟩, Nat.zero_le _, rfl, rfl, Nat.zero_le _, rfl, Below.refl _ _⟩
  case round =>
    obtain ⟨k, T, hk, rfl, rfl, hT, hTT, hbel⟩ := hrel
    by_cases hlt : k < ds.length
    · obtain ⟨d, hrk⟩ : ∃ d, ds[k]? = some d := ⟨ds[k], by simp [hlt]⟩
      obtain ⟨b, off, rfl, hbw, hc⟩ := HC.out k d hrk
      have hcell : ∀ i u, d.cells[i]? = some u → wr.cell? ⟨b, off + k * 8 + i, none⟩ = some u := fun i u hu => (hbel.out.cell (p := ⟨b, off + k * 8 + i, none⟩) hbw).trans (hc i u hu)
      have q0 := hcell 0 _ rfl; have q1 := hcell 1 _ rfl; have q2 := hcell 2 _ rfl; have q3 := hcell 3 _ rfl; have q4 := hcell 4 _ rfl; have q5 := hcell 5 _ rfl; have q6 := hcell 6 _ rfl; have q7 := hcell 7 _ rfl
      simp only [Nat.add_zero] at q0
      have hdi := HD.out d (List.mem_of_getElem? hrk)
      have hgd := HG.out d (List.mem_of_getElem? hrk)
      have hlo := hgd.lo; have hhi := hgd.hi
      have hdi2 := True.intro
      obtain ⟨ab, cb, hbv⟩ := rdS_len hdi.rb
      obtain ⟨ak, ck, hkv⟩ := rdS_len hdi.rk
      rw [hbv] at q6; rw [hkv] at q7
      have HBV := Lib.hid hbv; have HKV := Lib.hid hkv
      have HDI := Lib.hid hdi; have HGD := Lib.hid hgd
      have HRK := Lib.hid hrk
      clear hrk hc hcell hdi hgd hbv hkv hdi2
      obtain ⟨kind, n, m, kk, path, as_, bv, kv, bl, keep⟩ := d
      have ebv : bv = .slice ab bl.length cb := HBV.out
      have ekv : kv = .slice ak keep.length ck := HKV.out
      clear HBV HKV
      simp only at q0 q1 q2 q3 q4 q5 q6 q7 hlo hhi
      subst ebv ekv
      have hlo' : ¬ kind < 0 := by omega
      have hhi' : ¬ 25 < kind := by omega
      have g1 : decide (kind < 0) = false := by simpa using hlo'
      have g2 : decide (25 < kind) = false := by simpa using hhi'
      go_wp2_with fail
      obtain ⟨W0, hW0⟩ : ∃ W0, wr.alloc (.cells #[.int .i64 kind, .int .i64 n, .int .i64 m, .int .i64 kk, .string path, .string as_, .slice ab bl.length cb, .slice ak keep.length ck] 44) = W0 := ⟨_, rfl⟩
      have hbox : W0.heap[wr.heap.size]? = some (.cells #[.int .i64 kind, .int .i64 n, .int .i64 m, .int .i64 kk, .string path, .string as_, .slice ab bl.length cb, .slice ak keep.length ck] 44 (0, 0)) := by rw [← hW0]; exact heap_alloc_new _ _
      have HB0 : Hid (Below w.heap.size w W0) := by unfold Hid; rw [← hW0]; exact hbel.out.alloc hbel.out.size _
      have hlt0 : wr.heap.size < W0.heap.size := heap_lt hbox
      obtain ⟨bb, hbb⟩ : ∃ bb, wr.heap.size = bb := ⟨_, rfl⟩
      rw [hbb] at hlt0 hbox
      have KS : Hid (∀ W, Below W0.heap.size W0 W → Hid (Below W0.heap.size W0 W) ∧ W.cell? ⟨bb, 0, none⟩ = some (.int .i64 kind) ∧ W.cell? ⟨bb, 1, none⟩ = some (.int .i64 n) ∧ W.cell? ⟨bb, 2, none⟩ = some (.int .i64 m) ∧ W.cell? ⟨bb, 3, none⟩ = some (.int .i64 kk) ∧ W.cell? ⟨bb, 4, none⟩ = some (.string path) ∧ W.cell? ⟨bb, 5, none⟩ = some (.string as_) ∧ W.cell? ⟨bb, 6, none⟩ = some (.slice ab bl.length cb) ∧ W.cell? ⟨bb, 7, none⟩ = some (.slice ak keep.length ck)) := by
        intro W hW
        obtain ⟨⟨c0, c1, c2, c3, c4, c5, c6, c7⟩, -⟩ := deed_cells ((hW.block _ hlt0).trans hbox)
        exact ⟨hW, c0, c1, c2, c3, c4, c5, c6, c7⟩
      rw [hW0]
      simp only [hbb]
      clear hW0 hbox hbel hbb q0 q1 q2 q3 q4 q5 q6 q7
      obtain ⟨-, c0, c1, c2, c3, c4, c5, c6, c7⟩ := KS.out W0 (Below.refl _ _)
      go_region_held3 (fun w' => Hid (Below W0.heap.size W0 w') ∧ w'.cell? ⟨bb, 0, none⟩ = some (.int .i64 kind) ∧ w'.cell? ⟨bb, 1, none⟩ = some (.int .i64 n) ∧ w'.cell? ⟨bb, 2, none⟩ = some (.int .i64 m) ∧ w'.cell? ⟨bb, 3, none⟩ = some (.int .i64 kk) ∧ w'.cell? ⟨bb, 4, none⟩ = some (.string path) ∧ w'.cell? ⟨bb, 5, none⟩ = some (.string as_) ∧ w'.cell? ⟨bb, 6, none⟩ = some (.slice ab bl.length cb) ∧ w'.cell? ⟨bb, 7, none⟩ = some (.slice ak keep.length ck)) (
          (refine KS.out _ ?_
           first | exact Hid.out (by assumption) | exact Below.drew (Below.refl _ _)))
        (first
          | (go_at_call 24
             refine (only_any ⟨kind, n, m, kk, path, as_, .slice ab bl.length cb, .slice ak keep.length ck, bl, keep⟩ _ hlo hhi ⟨_, _, _, rfl⟩ ⟨_, _, _, rfl⟩).mono ?_
             rintro e w1 ⟨rfl, hb1⟩
             have hB1 : Hid (Below W0.heap.size W0 w1) := (Below.drew (Below.refl W0.heap.size W0)).trans hb1)
          | (go_at_call 23
             refine (same_any ⟨kind, n, m, kk, path, as_, .slice ab bl.length cb, .slice ak keep.length ck, bl, keep⟩ (onlyD ⟨kind, n, m, kk, path, as_, .slice ab bl.length cb, .slice ak keep.length ck, bl, keep⟩) _ (HDI.out.below (HB0.out.trans (hB1.out.mono HB0.out.size))) (onlyD_in (HDI.out.below (HB0.out.trans (hB1.out.mono HB0.out.size))))).mono ?_
             rintro e w2 ⟨rfl, hb2⟩
             rw [HGD.out.same]
             have hB2 : Hid (Below W0.heap.size W0 w2) := hB1.out.trans (hb2.mono hB1.out.size)))
      clear c0 c1 c2 c3 c4 c5 c6 c7 hb1 hb2 hB1
      obtain ⟨-, c0, c1, c2, c3, c4, c5, c6, c7⟩ := KS.out w2 hB2.out
      obtain ⟨kc, rfl⟩ := Int.eq_ofNat_of_zero_le hlo
      have hk26 : kc < 26 := by omega
      obtain ⟨x, hx⟩ := kind_at hk26
      have HX := Lib.hid hx
      have hxl := (kinds_len x (List.mem_of_getElem? hx)).1
      obtain ⟨NM, hNM⟩ : ∃ N : ByteArray, (⟨x.1.toArray⟩ : ByteArray) = N := ⟨_, rfl⟩
      have hNMs : NM.size ≤ 10 := by rw [← hNM]; exact hxl
      have HNM := Lib.hid hNM
      clear hx hNM hxl
      go_upto_region 10 with fail
      go_cut [7] (fun s7 wx => s7 = .string NM ∧ Hid (Below W0.heap.size W0 wx))
      case first =>
        have kz : (0 : Int) ≤ (kc : Int) := by omega
        have kl : (kc : Int) < 26 := by omega
        go_region_with
          (first
            | (go_at_call 25
               refine (refNames_any _).mono ?_
               rintro e wn ⟨rfl, hbn, hzn, hcn⟩
               have q1 : wn.cell? ⟨w2.heap.size, kc, none⟩ = some (.string NM) := by rw [← HNM.out]; exact hcn kc x HX.out
               have hBn : Hid (Below W0.heap.size W0 wn) := (Below.drew hB2.out).trans (hbn.mono (by have := hB2.out.size; simpa using this))
               obtain ⟨-, p0, -⟩ := KS.out wn hBn.out
               clear hcn))
        all_goals
          go_wp2_with fail
          go_meet
          exact ⟨rfl, hBn⟩
      case rest =>
        obtain ⟨rfl, hbw⟩ := hcut
        clear c0 c1 c2 c3 c4 c5 c6 c7 hB2
        obtain ⟨-, c0, c1, c2, c3, c4, c5, c6, c7⟩ := KS.out wc hbw.out
        go_wp2_with fail
        refine (has_any kc hk26 _).mono ?_
        rintro e wh ⟨v, rfl, hrh, hbh, -⟩
        obtain ⟨lv, lc, rfl⟩ := rdS_len hrh
        have hbwh : Hid (Below W0.heap.size W0 wh) := hbw.out.trans (hbh.mono hbw.out.size)
        have HRH := Lib.hid hrh
        clear hbh hbw hrh c0 c1 c2 c3 c4 c5 c6 c7
        have hll := has_len kc
        have hrange := has_range kc
        obtain ⟨lh, hlh⟩ : ∃ lh, hasL kc = lh := ⟨_, rfl⟩
        rw [hlh] at HRH hll hrange ⊢
        have HLH := Lib.hid hlh; have HRG := Lib.hid hrange
        clear hlh hrange
        have hLZ : Hid (lineZ (⟨kc, n, m, kk, path, as_, .slice ab bl.length cb, .slice ak keep.length ck, bl, keep⟩ : RDeed) = x.1 ++ lh.flatMap fun z => 32 :: wordZ (⟨kc, n, m, kk, path, as_, .slice ab bl.length cb, .slice ak keep.length ck, bl, keep⟩ : RDeed) z) := by
          unfold Hid lineZ nameD
          simp only [Int.toNat_natCast, HX.out, HLH.out]; rfl
        have hP : Hid (∀ j, (x.1 ++ (lh.take j).flatMap fun z => 32 :: wordZ (⟨kc, n, m, kk, path, as_, .slice ab bl.length cb, .slice ak keep.length ck, bl, keep⟩ : RDeed) z).length ≤ 4096) := by
          intro j
          have h1 := HGD.out.len
          rw [hLZ.out] at h1
          have h2 : ((lh.take j).flatMap fun z => 32 :: wordZ (⟨kc, n, m, kk, path, as_, .slice ab bl.length cb, .slice ak keep.length ck, bl, keep⟩ : RDeed) z).length ≤ (lh.flatMap fun z => 32 :: wordZ (⟨kc, n, m, kk, path, as_, .slice ab bl.length cb, .slice ak keep.length ck, bl, keep⟩ : RDeed) z).length := by
            conv => rhs; rw [← List.take_append_drop j lh, List.flatMap_append, List.length_append]
            omega
          simp only [List.length_append] at h1 ⊢
          omega
        go_wp2_with fail
        go_loopw [7, 9] (fun sv jv wq => ∃ (j : Nat) (X : ByteArray), j ≤ lh.length ∧ jv = .int .i64 j ∧ sv = .string X ∧ X.size ≤ 4096 ∧ Hid (X = ⟨(x.1 ++ (lh.take j).flatMap fun z => 32 :: wordZ (⟨kc, n, m, kk, path, as_, .slice ab bl.length cb, .slice ak keep.length ck, bl, keep⟩ : RDeed) z).toArray⟩) ∧ Hid (Below wh.heap.size wh wq)) (fun _ jv _ => lh.length - (intOf jv).toNat)
        case atStart => exact ⟨0, NM, Nat.zero_le _, rfl, rfl, by omega, by unfold Hid; rw [← HNM.out]; simp, Below.refl _ _⟩
        case round =>
          obtain ⟨j, X, hj, rfl, rfl, hX, hXX, hbq⟩ := hrel
          by_cases hlt2 : j < lh.length
          · obtain ⟨z, hz⟩ : ∃ z, lh[j]? = some z := ⟨lh[j], by simp [hlt2]⟩
            have hrdq := HRH.out.below hbq.out
            obtain ⟨b1, o1, rfl, hcell⟩ := rdS_at hrdq hz
            simp only [encI] at hcell
            have hb1lt : b1 < wr.heap.size := by
              rcases hrdq with ⟨h, -⟩ | ⟨a', c', h, h2⟩ | ⟨b', o', c', h, h2, -⟩
              · simp at h
              · rw [h2] at hlt2; simp at hlt2
              · simp only [Value.slice.injEq, Option.some.injEq, Addr.mk.injEq] at h; omega
            have hzr := HRG.out z (List.mem_of_getElem? hz)
            have hbq0 : Hid (Below W0.heap.size W0 wr) := hbwh.out.trans (hbq.out.mono hbwh.out.size)
            have KT : Hid (∀ W, Below wr.heap.size wr W → Hid (Below wr.heap.size wr W) ∧ W.cell? ⟨bb, 0, none⟩ = some (.int .i64 kc) ∧ W.cell? ⟨bb, 1, none⟩ = some (.int .i64 n) ∧ W.cell? ⟨bb, 2, none⟩ = some (.int .i64 m) ∧ W.cell? ⟨bb, 3, none⟩ = some (.int .i64 kk) ∧ W.cell? ⟨bb, 4, none⟩ = some (.string path) ∧ W.cell? ⟨bb, 5, none⟩ = some (.string as_) ∧ W.cell? ⟨bb, 6, none⟩ = some (.slice ab bl.length cb) ∧ W.cell? ⟨bb, 7, none⟩ = some (.slice ak keep.length ck) ∧ W.cell? ⟨b1, o1 + j, none⟩ = some (.int .i64 z)) := by
              intro W hW
              obtain ⟨-, c0, c1, c2, c3, c4, c5, c6, c7⟩ := KS.out W (hbq0.out.trans (hW.mono hbq0.out.size))
              exact ⟨hW, c0, c1, c2, c3, c4, c5, c6, c7, (hW.cell (p := ⟨b1, o1 + j, none⟩) hb1lt).trans hcell⟩
            have hX2 : Hid (X ++ ⟨#[32]⟩ ++ ⟨(wordZ (⟨kc, n, m, kk, path, as_, .slice ab bl.length cb, .slice ak keep.length ck, bl, keep⟩ : RDeed) z).toArray⟩ = ⟨(x.1 ++ (lh.take (j + 1)).flatMap fun z => 32 :: wordZ (⟨kc, n, m, kk, path, as_, .slice ab bl.length cb, .slice ak keep.length ck, bl, keep⟩ : RDeed) z).toArray⟩) := by
              unfold Hid
              rw [hXX.out, show (⟨#[32]⟩ : ByteArray) = ⟨[32].toArray⟩ from rfl, ba_app, ba_app, List.take_add_one, hz]
              simp
            have hXs : (X ++ ⟨#[32]⟩ ++ ⟨(wordZ (⟨kc, n, m, kk, path, as_, .slice ab bl.length cb, .slice ak keep.length ck, bl, keep⟩ : RDeed) z).toArray⟩ : ByteArray).size ≤ 4096 := by
              rw [hX2.out]
              exact hP.out (j + 1)
            have hwz : (wordZ (⟨kc, n, m, kk, path, as_, .slice ab bl.length cb, .slice ak keep.length ck, bl, keep⟩ : RDeed) z).length ≤ 4096 := by
              rw [ByteArray.size_append] at hXs
              have : (⟨(wordZ (⟨kc, n, m, kk, path, as_, .slice ab bl.length cb, .slice ak keep.length ck, bl, keep⟩ : RDeed) z).toArray⟩ : ByteArray).size = (wordZ (⟨kc, n, m, kk, path, as_, .slice ab bl.length cb, .slice ak keep.length ck, bl, keep⟩ : RDeed) z).length := rfl
              omega
            obtain ⟨Y, hY⟩ : ∃ Y : ByteArray, (⟨(wordZ (⟨kc, n, m, kk, path, as_, .slice ab bl.length cb, .slice ak keep.length ck, bl, keep⟩ : RDeed) z).toArray⟩ : ByteArray) = Y := ⟨_, rfl⟩
            have hYs : Y.size ≤ 4096 := by rw [← hY]; exact hwz
            rw [hY] at hX2 hXs
            have HY := Lib.hid hY; have HXS := Lib.hid hXs
            clear hY hXs hwz hrdq hz hcell
            obtain ⟨-, c0, c1, c2, c3, c4, c5, c6, c7, c8⟩ := KT.out wr (Below.refl _ _)
            have z0 : ¬ 9223372036854775807 < X.size + 1 := by omega
            have z1 : ¬ 9223372036854775807 < X.size + 1 + Y.size := by omega
            have j0 : (0 : Int) ≤ j := by omega
            have j1 : (j : Int) < (lh.length : Int) := by omega
            go_wp2_with fail
            go_region_held3 (fun w' => Hid (Below wr.heap.size wr w') ∧ w'.cell? ⟨bb, 0, none⟩ = some (.int .i64 kc) ∧ w'.cell? ⟨bb, 1, none⟩ = some (.int .i64 n) ∧ w'.cell? ⟨bb, 2, none⟩ = some (.int .i64 m) ∧ w'.cell? ⟨bb, 3, none⟩ = some (.int .i64 kk) ∧ w'.cell? ⟨bb, 4, none⟩ = some (.string path) ∧ w'.cell? ⟨bb, 5, none⟩ = some (.string as_) ∧ w'.cell? ⟨bb, 6, none⟩ = some (.slice ab bl.length cb) ∧ w'.cell? ⟨bb, 7, none⟩ = some (.slice ak keep.length ck) ∧ w'.cell? ⟨b1, o1 + j, none⟩ = some (.int .i64 z)) (
                (refine KT.out _ ?_
                 first | exact Hid.out (by assumption) | exact Below.drew (Below.refl _ _)))
              (first
                | (go_at_call 27
                   refine (refpart_any (⟨kc, n, m, kk, path, as_, .slice ab bl.length cb, .slice ak keep.length ck, bl, keep⟩ : RDeed) z _ hzr (HDI.out.below (HB0.out.trans ((hbq0.out.trans (Below.drew (Below.refl _ _))).mono HB0.out.size)))).mono ?_
                   rintro e w5 ⟨rfl, hb5⟩
                   rw [HY.out]
                   have hbq2 : Hid (Below wr.heap.size wr w5) := (Below.drew (Below.refl wr.heap.size wr)).trans hb5))
            have hbq3 : Hid (Below wh.heap.size wh w5) := hbq.out.trans (hbq2.out.mono hbq.out.size)
            clear c0 c1 c2 c3 c4 c5 c6 c7 c8 z0 z1 hb5 hbq2 KT
            go_wp2_with fail
            go_roundw
            case rel => exact ⟨j + 1, _, by omega, by go_num, rfl, HXS.out, hX2, hbq3⟩
            case measure => simp [intOf]; omega
          · obtain rfl : j = lh.length := by omega
            rw [List.take_length] at hXX
            have htk : Hid (printG (ds.take (k + 1)) = printG (ds.take k) ++ (lineZ (⟨kc, n, m, kk, path, as_, .slice ab bl.length cb, .slice ak keep.length ck, bl, keep⟩ : RDeed) ++ [10])) := by
              unfold Hid
              rw [List.take_add_one, HRK.out]; simp [printG]
            have hT2 : Hid (T ++ X ++ ⟨#[10]⟩ = ⟨(printG (ds.take (k + 1))).toArray⟩) := by
              unfold Hid
              rw [htk.out, hLZ.out, hTT.out, hXX.out, show (⟨#[10]⟩ : ByteArray) = ⟨[10].toArray⟩ from rfl, ba_app, ba_app]
              simp
            have hTS : Hid ((T ++ X ++ ⟨#[10]⟩ : ByteArray).size ≤ 4097 * 1000) := by
              unfold Hid
              rw [hT2.out]
              have h1 := printG_len (ds := ds.take (k + 1)) (fun x hx => HG.out x (List.mem_of_mem_take hx))
              have h2 : (ds.take (k + 1)).length ≤ 1000 := by simp; omega
              have h3 : 4097 * (ds.take (k + 1)).length ≤ 4097 * 1000 := Nat.mul_le_mul_left _ h2
              exact Nat.le_trans h1 h3
            have hX' : ¬ (4096 : Int) < X.size := by omega
            have hbelF : Hid (Below w.heap.size w wr) := HB0.out.trans ((hbwh.out.trans (hbq.out.mono hbwh.out.size)).mono HB0.out.size)
            clear hbq hXX
            go_wp2_with fail
            go_roundw
            case rel => exact ⟨k + 1, _, by omega, by go_num, rfl, hTS.out, hT2, hbelF⟩
            case measure => simp [intOf]; omega
    · obtain rfl : k = ds.length := by omega
      rw [List.take_length] at hTT
      go_wp2_with fail
      go_ret2
      exact ⟨by rw [hTT.out]; rfl, hbel.out⟩
end Go.Proofs.YtcbdmaelgedbkaaGreatDoor
