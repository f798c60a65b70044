/- The walk of the reference's Tell. -/
import Derived.Test.YtcbdmaelgedbkaaGreatDoorScrTD
import Derived.Deep.RegionHeld3
namespace Go.Proofs.YtcbdmaelgedbkaaGreatDoor
open Go.RowKit Go.Shelf

def headL (p : POut) : List UInt8 := okL ++ [32] ++ Lib.itoa p.n ++ [32] ++ wordL p.text ++ [32] ++ Lib.itoa p.names.length
theorem toldL_ok {p : POut} (h : p.err = 0) : toldL p = headL p ++ p.names.flatMap fun x => 32 :: wordL x := by
  unfold toldL headL
  rw [if_neg (by simpa using h)]
  simp [Lib.join_cons, Lib.joinTail, List.flatMap_def, Function.comp_def]
theorem toldL_err {p : POut} (h : p.err ≠ 0) : toldL p = errorL ++ [32] ++ Lib.itoa p.err := by
  unfold toldL
  rw [if_pos h]; simp

set_option maxRecDepth 100000 in
set_option maxHeartbeats 8000000 in
theorem reftell_any (v : Value) (rs : List (POut × Value)) (w : World) (hr : RdOuts w v rs) (hl : rs.length ≤ 1000) (hin : ∀ r ∈ rs, OutIn w r) :
    Calls Tryz.prog 7 #[v] w fun e w' => e = .returned (.string ⟨(tellL (rs.map (·.1))).toArray⟩) ∧ Below w.heap.size w w' := by
  obtain ⟨av, cv, rfl, hcells⟩ := rdOuts_open hr
  have HD := Lib.hid hin; have HC := Lib.hid hcells; clear hin hr hcells
  go_enter Tryz.func7, Tryz.ntmps7
  go_wp2_with fail
  go_loopw [3, 4] (fun sv i wr => ∃ (k : Nat) (T : ByteArray), k ≤ rs.length ∧ i = .int .i64 k ∧ sv = .string T ∧ T.size ≤ 50000001 * 1000 ∧ Hid (T = ⟨(tellL ((rs.take k).map (·.1))).toArray⟩) ∧ Hid (Below w.heap.size w wr)) (fun _ i _ => rs.length - (intOf i).toNat)
  case atStart => exact ⟨0, ⟨#[]⟩, Nat.zero_le _, rfl, rfl, Nat.zero_le _, rfl, Below.refl _ _⟩
  case round =>
    obtain ⟨k, T, hk, rfl, rfl, hT, hTT, hbel⟩ := hrel
    by_cases hlt : k < rs.length
    · obtain ⟨r, hrk⟩ : ∃ r, rs[k]? = some r := ⟨rs[k], by simp [hlt]⟩
      obtain ⟨b, off, rfl, hbw, hc⟩ := HC.out k r hrk
      have hcell : ∀ i u, (oCells4 r)[i]? = some u → wr.cell? ⟨b, off + k * 4 + i, none⟩ = some u := fun i u hu => (hbel.out.cell (p := ⟨b, off + k * 4 + i, none⟩) hbw).trans (hc i u hu)
      have q0 := hcell 0 _ rfl; have q1 := hcell 1 _ rfl; have q2 := hcell 2 _ rfl; have q3 := hcell 3 _ rfl
      simp only [Nat.add_zero] at q0
      have hri := HD.out r (List.mem_of_getElem? hrk)
      obtain ⟨A, c, hv⟩ := rdS_len hri.names
      have htk : (tellL ((rs.take (k + 1)).map (·.1))) = tellL ((rs.take k).map (·.1)) ++ (toldL r.1 ++ [10]) := by
        rw [List.take_add_one, hrk]; simp [tellL]
      have hTS : Hid (∀ X : ByteArray, X = ⟨(tellL ((rs.take (k + 1)).map (·.1))).toArray⟩ → X.size ≤ 50000001 * 1000) := by
        rintro X rfl
        have h1 := tellL_len (w := w) (rs := rs.take (k + 1)) (fun x hx => HD.out x (List.mem_of_mem_take hx))
        have h2 : (rs.take (k + 1)).length ≤ 1000 := by simp; omega
        have h3 : 50000001 * (rs.take (k + 1)).length ≤ 50000001 * 1000 := Nat.mul_le_mul_left _ h2
        simp only [ByteArray.size, List.size_toArray]
        omega
      rw [hv] at q3
      obtain ⟨⟨er, n, tx, ns⟩, nv⟩ := r
      simp only at hv q0 q1 q2 q3 htk
      obtain ⟨e1, e2⟩ := hri.err
      obtain ⟨n1, n2⟩ := hri.n
      have l3 := hri.namesN
      simp only at e1 e2 n1 n2 l3
      have i1 := Lib.itoa_length_le er e1 e2
      have i2 := Lib.itoa_length_le n n1 n2
      have i3 := Lib.itoa_length_le (ns.length : Int) (by omega) (by omega)
      have i4 := wordL_len tx
      have i5 := hri.text
      simp only at i5
      have htxs : (⟨tx.toArray⟩ : ByteArray).size ≤ 1000000 := by simp [ByteArray.size]; omega
      have HK := Lib.hid hrk; have HV := Lib.hid hv; have HTK := Lib.hid htk; have HRI := Lib.hid hri
      clear hrk hc hcell hv hri htk
      by_cases h0 : er = 0
      · subst h0
        have hTD : Hid (T ++ ⟨#[111, 107, 32]⟩ ++ ⟨(Lib.itoa n).toArray⟩ ++ ⟨#[32]⟩ ++ ⟨(wordL tx).toArray⟩ ++ ⟨#[32]⟩ ++ ⟨(Lib.itoa (ns.length : Int)).toArray⟩ = ⟨(tellL ((rs.take k).map (·.1)) ++ headL ⟨0, n, tx, ns⟩).toArray⟩) := by
          unfold Hid
          rw [hTT.out, show (⟨#[111, 107, 32]⟩ : ByteArray) = ⟨(okL ++ [32]).toArray⟩ from rfl, show (⟨#[32]⟩ : ByteArray) = ⟨[32].toArray⟩ from rfl, ba_app, ba_app, ba_app, ba_app, ba_app, ba_app]
          unfold headL
          simp
        have l1 : (-9223372036854775808 : Int) ≤ (ns.length : Int) := by omega
        have l2 : (ns.length : Int) ≤ 9223372036854775807 := by omega
        have z0 : ¬ 9223372036854775807 < T.size + 3 := by omega
        have z1 : ¬ 9223372036854775807 < T.size + 3 + (Lib.itoa n).length := by omega
        have z2 : ¬ 9223372036854775807 < T.size + 3 + (Lib.itoa n).length + 1 := by omega
        have z3 : ¬ 9223372036854775807 < T.size + 3 + (Lib.itoa n).length + 1 + (wordL tx).length := by omega
        have z4 : ¬ 9223372036854775807 < T.size + 3 + (Lib.itoa n).length + 1 + (wordL tx).length + 1 := by omega
        have z5 : ¬ 9223372036854775807 < T.size + 3 + (Lib.itoa n).length + 1 + (wordL tx).length + 1 + (Lib.itoa (ns.length : Int)).length := by omega
        go_wp2_with fail
        obtain ⟨W0, hW0⟩ : ∃ W0, wr.alloc (.cells #[.int .i64 0, .int .i64 n, .string ⟨tx.toArray⟩, .slice A ns.length c] 27) = W0 := ⟨_, rfl⟩
        have hbox : W0.heap[wr.heap.size]? = some (.cells #[.int .i64 0, .int .i64 n, .string ⟨tx.toArray⟩, .slice A ns.length c] 27 (0, 0)) := by rw [← hW0]; exact heap_alloc_new _ _
        have HB0 : Hid (Below w.heap.size w W0) := by unfold Hid; rw [← hW0]; exact hbel.out.alloc hbel.out.size _
        have hlt0 : wr.heap.size < W0.heap.size := heap_lt hbox
        have KS : Hid (∀ W, Below W0.heap.size W0 W → Hid (Below W0.heap.size W0 W) ∧ W.cell? ⟨wr.heap.size, 1, none⟩ = some (.int .i64 n) ∧ W.cell? ⟨wr.heap.size, 2, none⟩ = some (.string ⟨tx.toArray⟩) ∧ W.cell? ⟨wr.heap.size, 3, none⟩ = some (.slice A ns.length c)) := by
          intro W hW
          obtain ⟨⟨-, c1, c2, c3⟩, -⟩ := box4 ((hW.block _ hlt0).trans hbox)
          exact ⟨hW, c1, c2, c3⟩
        rw [hW0]
        clear hW0 hbox hbel q0 q1 q2 q3
        obtain ⟨-, c1, c2, c3⟩ := KS.out W0 (Below.refl _ _)
        go_region_held3 (fun w' => Hid (Below W0.heap.size W0 w') ∧ w'.cell? ⟨wr.heap.size, 1, none⟩ = some (.int .i64 n) ∧ w'.cell? ⟨wr.heap.size, 2, none⟩ = some (.string ⟨tx.toArray⟩) ∧ w'.cell? ⟨wr.heap.size, 3, none⟩ = some (.slice A ns.length c)) (
            (refine KS.out _ ?_
             first | exact Hid.out (by assumption) | exact Below.drew (Below.refl _ _)))
          (first
            | (go_at_call_of 15 (Value.int .i64 n)
               refine (digits_any n _ n1 n2).mono ?_
               rintro e w1 ⟨rfl, hb1⟩
               have hB1 : Hid (Below W0.heap.size W0 w1) := (Below.drew (Below.refl W0.heap.size W0)).trans hb1)
            | (go_at_call 16
               refine (refword_any _ _ htxs).mono ?_
               rintro e w2 ⟨rfl, hb2⟩
               have hB2 : Hid (Below W0.heap.size W0 w2) := hB1.out.trans (hb2.mono hB1.out.size))
            | (go_at_call 15
               refine (digits_any ns.length _ l1 l2).mono ?_
               rintro e w3 ⟨rfl, hb3⟩
               have hB3 : Hid (Below W0.heap.size W0 w3) := hB2.out.trans (hb3.mono hB2.out.size)))
        go_wp2_with fail
        have hP : Hid (∀ j, (tellL ((rs.take k).map (·.1)) ++ headL ⟨0, n, tx, ns⟩ ++ (ns.take j).flatMap fun x => 32 :: wordL x).length + 1 ≤ 50000001 * 1000) := by
          intro j
          have h1 := hTS.out _ rfl
          rw [HTK.out, toldL_ok rfl] at h1
          have h2 : ((ns.take j).flatMap fun x => 32 :: wordL x).length ≤ (ns.flatMap fun x => 32 :: wordL x).length := by
            conv => rhs; rw [← List.take_append_drop j ns, List.flatMap_append, List.length_append]
            omega
          simp only [ByteArray.size, List.size_toArray, List.length_append, List.length_cons, List.length_nil] at h1 ⊢
          omega
        obtain ⟨T0, hT0⟩ : ∃ T0, T ++ ⟨#[111, 107, 32]⟩ ++ ⟨(Lib.itoa n).toArray⟩ ++ ⟨#[32]⟩ ++ ⟨(wordL tx).toArray⟩ ++ ⟨#[32]⟩ ++ (⟨(Lib.itoa (ns.length : Int)).toArray⟩ : ByteArray) = T0 := ⟨_, rfl⟩
        rw [hT0] at hTD ⊢
        have hT0s : T0.size ≤ 50000001 * 1000 := by
          rw [hTD.out]
          have := hP.out 0
          simp only [ByteArray.size, List.size_toArray, List.take_zero, List.flatMap_nil, List.append_nil] at this ⊢
          omega
        clear z0 z1 z2 z3 z4 z5 hT0 c1 c2 c3 hb1 hb2 hb3 hB1 hB2
        go_loopw [3, 6] (fun sv jv wq => ∃ (j : Nat) (X : ByteArray), j ≤ ns.length ∧ jv = .int .i64 j ∧ sv = .string X ∧ X.size + 1 ≤ 50000001 * 1000 ∧ Hid (X = ⟨(tellL ((rs.take k).map (·.1)) ++ headL ⟨0, n, tx, ns⟩ ++ (ns.take j).flatMap fun x => 32 :: wordL x).toArray⟩) ∧ Hid (Below W0.heap.size W0 wq)) (fun _ jv _ => ns.length - (intOf jv).toNat)
        case atStart => exact ⟨0, T0, Nat.zero_le _, rfl, rfl, (by rw [hTD.out]; have := hP.out 0; simpa [ByteArray.size] using this), by unfold Hid; rw [hTD.out]; simp, hB3⟩
        case round =>
          obtain ⟨j, X, hj, rfl, rfl, hX, hXX, hbq⟩ := hrel
          obtain ⟨-, c1, c2, c3⟩ := KS.out _ hbq.out
          clear c1 c2
          by_cases hlt2 : j < ns.length
          · obtain ⟨x, hx⟩ : ∃ x, ns[j]? = some x := ⟨ns[j], by simp [hlt2]⟩
            have hnam := HRI.out.names
            rw [HV.out] at hnam
            obtain ⟨b1, o1, rfl, hcell⟩ := rdS_at (hnam.below (HB0.out.trans (hbq.out.mono HB0.out.size))) hx
            simp only [encStr] at hcell
            have hxl := HRI.out.name x (List.mem_of_getElem? hx)
            have hxs : (⟨x.toArray⟩ : ByteArray).size ≤ 1000000 := by simp [ByteArray.size]; omega
            have hxw := wordL_len x
            have hX2 : Hid (X ++ ⟨#[32]⟩ ++ ⟨(wordL x).toArray⟩ = ⟨(tellL ((rs.take k).map (·.1)) ++ headL ⟨0, n, tx, ns⟩ ++ (ns.take (j + 1)).flatMap fun x => 32 :: wordL x).toArray⟩) := by
              unfold Hid
              rw [hXX.out, show (⟨#[32]⟩ : ByteArray) = ⟨[32].toArray⟩ from rfl, ba_app, ba_app, List.take_add_one, hx]
              simp
            have hXs : Hid ((X ++ ⟨#[32]⟩ ++ ⟨(wordL x).toArray⟩ : ByteArray).size + 1 ≤ 50000001 * 1000) := by
              unfold Hid
              rw [hX2.out]
              have := hP.out (j + 1)
              simpa [ByteArray.size] using this
            clear hx hnam
            go_wp2_with fail
            refine (refword_any _ _ hxs).mono ?_
            rw [show (⟨x.toArray⟩ : ByteArray).data.toList = x from rfl]
            rintro e w5 ⟨rfl, hb5⟩
            have hbq2 : Hid (Below W0.heap.size W0 w5) := hbq.out.trans (hb5.mono hbq.out.size)
            clear hbq hb5 hcell hxs c3
            go_wp2_with fail
            go_roundw
            case rel => exact ⟨j + 1, _, by omega, by go_num, rfl, hXs.out, hX2, hbq2⟩
            case measure => simp [intOf]; omega
          · obtain rfl : j = ns.length := by omega
            rw [List.take_length] at hXX
            have hX2 : Hid (X ++ ⟨#[10]⟩ = ⟨(tellL ((rs.take (k + 1)).map (·.1))).toArray⟩) := by
              unfold Hid
              rw [hXX.out, show (⟨#[10]⟩ : ByteArray) = ⟨[10].toArray⟩ from rfl, ba_app, HTK.out, toldL_ok rfl]
              simp
            have hTS2 := hTS.out _ hX2.out
            have hbel3 := Lib.hid (HB0.out.trans (hbq.out.mono HB0.out.size))
            have HTS2 := Lib.hid hTS2
            clear hTS2
            go_wp2_with fail
            go_roundw
            case rel => exact ⟨k + 1, _, by omega, by go_num, rfl, HTS2.out, hX2, hbel3⟩
            case measure => simp [intOf]; omega
      · have hb0 : (er != 0) = true := by simp [h0]
        have hTD : Hid (T ++ ⟨#[101, 114, 114, 111, 114, 32]⟩ ++ ⟨(Lib.itoa er).toArray⟩ ++ ⟨#[10]⟩ = ⟨(tellL ((rs.take (k + 1)).map (·.1))).toArray⟩) := by
          unfold Hid
          rw [hTT.out, show (⟨#[101, 114, 114, 111, 114, 32]⟩ : ByteArray) = ⟨(errorL ++ [32]).toArray⟩ from rfl, show (⟨#[10]⟩ : ByteArray) = ⟨[10].toArray⟩ from rfl, ba_app, ba_app, ba_app, HTK.out, toldL_err h0]
          simp
        have hTS2 := hTS.out _ hTD.out
        clear h0
        go_wp2_with fail
        refine (digits_any er _ e1 e2).mono ?_
        rintro e w1 ⟨rfl, hb1⟩
        have hbel3 : Hid (Below w.heap.size w w1) := hbel.out.trans ((((Below.refl _ _).alloc (Nat.le_refl _) _).trans (hb1.mono (by simp))).mono hbel.out.size)
        clear hb1 hbel q0 q1 q2 q3
        go_wp2_with fail
        go_roundw
        case rel => exact ⟨k + 1, _, by omega, by go_num, rfl, hTS2, hTD, hbel3⟩
        case measure => simp [intOf]; omega
    · obtain rfl : k = rs.length := by omega
      rw [List.take_length] at hTT
      go_wp2_with fail
      go_ret
      exact ⟨by rw [hTT.out]; rfl, hbel.out⟩
end Go.Proofs.YtcbdmaelgedbkaaGreatDoor
