/- The walk of ScriptTells. -/
import Derived.Test.YtcbdmaelgedbkaaGreatDoorScrTG
namespace Go.Proofs.YtcbdmaelgedbkaaGreatDoor
open Go.RowKit Go.Shelf

/-- An outcome as it came in: nothing is asked of its sizes. -/
structure OutRaw (w : World) (r : POut × Value) : Prop where
  names : RdS encStr w r.2 r.1.names
  err : I64 r.1.err
  n : I64 r.1.n
  text : r.1.text.length ≤ 9223372036854775807
  name : ∀ x ∈ r.1.names, x.length ≤ 9223372036854775807
theorem OutRaw.below {w w' : World} {r : POut × Value} (h : OutRaw w r) (hb : Below w.heap.size w w') : OutRaw w' r := { h with names := h.names.below hb }
def okO (r : POut × Value) : Prop := r.1.text.length ≤ 500 ∧ r.1.names.length ≤ 10 ∧ ∀ x ∈ r.1.names, x.length ≤ 50
theorem OutRaw.in {w : World} {r : POut × Value} (h : OutRaw w r) (ho : okO r) : OutIn w r :=
  ⟨h.names, h.err, h.n, by have := ho.1; omega, by have := ho.2.1; omega, fun x hx => by have := ho.2.2 x hx; omega⟩

set_option maxRecDepth 100000 in
set_option maxHeartbeats 4000000 in
theorem tells_far (v : Value) (rs : List (POut × Value)) (s : ByteArray) (w : World) (hr : RdOuts w v rs) (he : Env w) (h : 10 < rs.length ∨ (rs.length ≤ 10 ∧ 2000 < s.size)) :
    Calls Tryz.prog 3 #[v, .string s] w fun e w' => e = .returned (.bool true) ∧ Below w.heap.size w w' := by
  obtain ⟨av, cv, rfl, -⟩ := rdOuts_open hr
  have HE := Lib.hid he; clear he hr
  rcases h with h | ⟨h, h2⟩
  all_goals
    go_enter Tryz.func3, Tryz.ntmps3
    go_wp2_with fail
    refine (awake_any _ HE.out).mono ?_
    rintro e w1 ⟨rfl, hb1⟩
    have HB1 := Lib.hid hb1; clear hb1
    go_wp2_with fail
    refine (awake_any _ (HE.out.below HB1.out)).mono ?_
    rintro e w3 ⟨rfl, hb3⟩
    go_wp2_with fail
    go_ret
    exact ⟨rfl, HB1.out.trans (hb3.mono HB1.out.size)⟩

set_option maxRecDepth 100000 in
set_option maxHeartbeats 8000000 in
theorem tells_near (v : Value) (rs : List (POut × Value)) (s : ByteArray) (w : World) (hr : RdOuts w v rs) (hraw : ∀ r ∈ rs, OutRaw w r) (he : EnvT w) (h1 : rs.length ≤ 10) (h2 : s.size ≤ 2000) :
    Calls Tryz.prog 3 #[v, .string s] w fun e w' => e = .returned (.bool true) ∧ Below w.heap.size w w' := by
  obtain ⟨av, cv, hv, hcells⟩ := rdOuts_open hr
  have HE := Lib.hid he; have HR := Lib.hid hr; have HC := Lib.hid hcells; have HRAW := Lib.hid hraw; have HV := Lib.hid hv
  clear he hr hcells hraw
  subst hv
  go_enter Tryz.func3, Tryz.ntmps3
  go_wp2_with fail
  refine (awake_any _ HE.out.env).mono ?_
  rintro e w1 ⟨rfl, hb1⟩
  have HB1 := Lib.hid hb1; clear hb1
  go_wp2_with fail
  go_loop [5] (fun i => ∃ k : Nat, k ≤ rs.length ∧ i = .int .i64 k ∧ Hid (∀ r ∈ rs.take k, okO r)) (fun i => rs.length - (intOf i).toNat)
  case atStart => exact ⟨0, Nat.zero_le _, rfl, fun r hr => by simp at hr⟩
  case round =>
    obtain ⟨k, hk, rfl, hok⟩ := hrel
    by_cases hlt : k < rs.length
    · obtain ⟨r, hrk⟩ : ∃ r, rs[k]? = some r := ⟨rs[k], by simp [hlt]⟩
      obtain ⟨b, off, rfl, hbw, hc⟩ := HC.out k r hrk
      have hcell : ∀ i u, (oCells4 r)[i]? = some u → w1.cell? ⟨b, off + k * 4 + i, none⟩ = some u := fun i u hu => (HB1.out.cell (p := ⟨b, off + k * 4 + i, none⟩) hbw).trans (hc i u hu)
      have q2 := hcell 2 _ rfl; have q3 := hcell 3 _ rfl
      have hraw := HRAW.out r (List.mem_of_getElem? hrk)
      obtain ⟨A, c, hv⟩ := rdS_len hraw.names
      rw [hv] at q3
      have htm := hraw.text
      have HK := Lib.hid hrk; have HRW := Lib.hid hraw; have HVV := Lib.hid hv
      clear hrk hc hcell hraw hv
      by_cases c1 : r.1.text.length ≤ 500
      · by_cases c2 : r.1.names.length ≤ 10
        · go_wp2_with fail
          go_loop [6] (fun i => ∃ j : Nat, j ≤ r.1.names.length ∧ i = .int .i64 j ∧ Hid (∀ x ∈ r.1.names.take j, x.length ≤ 50)) (fun i => r.1.names.length - (intOf i).toNat)
          case atStart => exact ⟨0, Nat.zero_le _, rfl, fun r hr => by simp at hr⟩
          case round =>
            obtain ⟨j, hj, rfl, hokj⟩ := hrel
            by_cases hltj : j < r.1.names.length
            · obtain ⟨x, hx⟩ : ∃ x, r.1.names[j]? = some x := ⟨r.1.names[j], by simp [hltj]⟩
              have hnam := HRW.out.names
              rw [HVV.out] at hnam
              obtain ⟨b1, o1, rfl, hcell⟩ := rdS_at (hnam.below HB1.out) hx
              simp only [encStr] at hcell
              have hxl := HRW.out.name x (List.mem_of_getElem? hx)
              have HX := Lib.hid hx
              clear hx hnam
              by_cases c3 : x.length ≤ 50
              · go_wp2_with fail
                go_round
                case rel =>
                  refine ⟨j + 1, by omega, by go_num, fun y hy => ?_⟩
                  rw [List.take_add_one, HX.out] at hy
                  rcases List.mem_append.1 hy with h | h
                  · exact hokj.out y h
                  · simp at h; rw [h]; exact c3
                case measure => simp [intOf]; omega
              · have c3' : 50 < x.length := by omega
                go_wp2_with fail
                go_ret
                exact ⟨rfl, HB1.out⟩
            · have HO : Hid (okO r) := by
                refine ⟨c1, c2, ?_⟩
                have : j = r.1.names.length := by omega
                have h := hokj.out
                rw [this, List.take_length] at h
                exact h
              go_wp2_with fail
              go_round
              case rel =>
                refine ⟨k + 1, by omega, by go_num, fun y hy => ?_⟩
                rw [List.take_add_one, HK.out] at hy
                rcases List.mem_append.1 hy with h | h
                · exact hok.out y h
                · simp at h; rw [h]; exact HO.out
              case measure => simp [intOf]; omega
        · have c2' : 10 < r.1.names.length := by omega
          go_wp2_with fail
          go_ret
          exact ⟨rfl, HB1.out⟩
      · have c1' : 500 < r.1.text.length := by omega
        go_wp2_with fail
        go_ret
        exact ⟨rfl, HB1.out⟩
    · obtain rfl : k = rs.length := by omega
      rw [List.take_length] at hok
      go_wp2_with fail
      have HIN : Hid (∀ r ∈ rs, OutIn w r) := fun r hr => (HRAW.out r hr).in (hok.out r hr)
      have hl1000 : rs.length ≤ 1000 := by omega
      obtain ⟨ps, hps⟩ : ∃ ps, rs.map (·.1) = ps := ⟨_, rfl⟩
      have hmem : ∀ p ∈ ps, I64 p.err ∧ I64 p.n ∧ (toldL p).length ≤ 4000 := fun p hp => by
        rw [← hps] at hp
        obtain ⟨r, hr, rfl⟩ := List.mem_map.1 hp
        have h3 := HRAW.out r hr
        have h4 := hok.out r hr
        exact ⟨h3.err, h3.n, told_small h3.err h3.n h4.1 h4.2.1 h4.2.2⟩
      have hpl : ps.length = rs.length := by rw [← hps]; simp
      have hcall := tell_any _ rs w1 (HR.out.below HB1.out) hl1000 (fun r hr => (HIN.out r hr).below HB1.out) (HE.out.env.below HB1.out)
      rw [hps] at hcall
      obtain ⟨T, hT⟩ : ∃ T : ByteArray, (⟨(tellL ps).toArray⟩ : ByteArray) = T := ⟨_, rfl⟩
      rw [hT] at hcall
      have HCALL := Lib.hid hcall; have HPS := Lib.hid hps; have HM := Lib.hid hmem; have HPL := Lib.hid hpl; have HT := Lib.hid hT
      clear hcall hps hmem hpl hT hok
      refine HCALL.out.mono ?_
      clear HCALL
      rintro e w2 ⟨rfl, hb2⟩
      have HB2 : Hid (Below w.heap.size w w2) := HB1.out.trans (hb2.mono HB1.out.size)
      clear hb2
      go_wp2_with fail
      have hcall := reftell_any _ rs w2 (HR.out.below HB2.out) hl1000 (fun r hr => (HIN.out r hr).below HB2.out)
      rw [HPS.out, HT.out] at hcall
      refine hcall.mono ?_
      clear hcall
      rintro e w3 ⟨rfl, hb3⟩
      have HB3 : Hid (Below w.heap.size w w3) := HB2.out.trans (hb3.mono HB2.out.size)
      clear hb3 HB1 HB2
      have hTT : (T.toList == T.toList) = true := by simp
      have hTd : T.data.toList = tellL ps := by rw [← HT.out]
      have hTs : T.size ≤ 1000000 := by
        rw [← HT.out]
        have h3 := tellL_len (w := w) (rs := rs) HIN.out
        have h4 : (tellL ps).length ≤ 4001 * ps.length := by
          have h5 : ∀ p ∈ ps, (toldL p).length ≤ 4000 := fun p hp => (HM.out p hp).2.2
          clear h3
          revert h5
          generalize ps = qs
          intro h5
          induction qs with
          | nil => simp [tellL]
          | cons q qs ih =>
            have := h5 q (by simp)
            have := ih (fun x hx => h5 x (List.mem_cons_of_mem _ hx))
            rw [tellL_cons]
            simp only [List.length_append, List.length_cons]; omega
        have h6 : 4001 * ps.length ≤ 4001 * 10 := Nat.mul_le_mul_left _ (by have := HPL.out; omega)
        simp only [ByteArray.size, List.size_toArray]; omega
      have hcall := read_any T w3 hTs (.inr (by rw [hTd, tell_count]; have := HPL.out; omega)) (by rw [hTd]; exact tell_line ps (fun p hp => (HM.out p hp).2.2)) (fun x a ha => (told_bounds ha).1) (HE.out.below HB3.out)
      rw [hTd] at hcall
      have HCALL := Lib.hid hcall; have HTD := Lib.hid hTd
      clear hcall hTd hTs
      go_wp2_with fail
      refine HCALL.out.mono ?_
      clear HCALL
      rintro e w4 ⟨r1, r2⟩
      have hTsz : (tellL ps).length < T.size + 1 := by rw [← HTD.out, ← Lib.size_eq]; omega
      by_cases hg : ∀ p ∈ ps, 0 ≤ p.err
      · obtain ⟨ps', g1, g2⟩ := tell_good ps (T.size + 1) 1 hTsz (fun p hp => ⟨hg p hp, (HM.out p hp).1, (HM.out p hp).2.1⟩)
        rw [g1] at r1 r2
        obtain ⟨A, c, rs', rfl, s1, s2, s3, s4⟩ := r2 rfl
        simp only at s1
        have HB4 : Hid (Below w.heap.size w w4) := HB3.out.trans (s4.mono HB3.out.size)
        have hlen : rs'.length = rs.length := by
          have h5 := congrArg List.length g2
          simp only [List.length_map] at h5
          have h6 := congrArg List.length s1
          simp only [List.length_map] at h6
          have := HPL.out
          omega
        have htl : tellL ps' = tellL ps := by
          unfold tellL
          have e1 : ∀ qs : List POut, (qs.flatMap fun p => toldL p ++ [10]) = (qs.map toldL).flatMap fun l => l ++ [10] := fun qs => by rw [List.flatMap_map]
          rw [e1, e1, g2]
        have hin : ∀ r ∈ rs', OutIn w4 r := fun r hr => by
          obtain ⟨k1, k2, k3⟩ := s3 r hr
          obtain ⟨u, x, v, e1, e2, e3⟩ := linesR_mem (T.size + 1) 1 (tellL ps) r.1 (by rw [g1, ← s1]; exact List.mem_map_of_mem hr)
          have hb := told_bounds e3
          have hxl := tell_line ps (fun p hp => (HM.out p hp).2.2) u x v e1 e2
          exact ⟨k1, k2, k3, by omega, by omega, fun y hy => by have := hb.2.2.2 y hy; omega⟩
        have hcall := tell_any _ rs' w4 s2 (by omega) hin (HE.out.below HB4.out).env
        rw [s1, htl, HT.out] at hcall
        have HCALLT := Lib.hid hcall
        have HG := Lib.hid hg
        have hlenb : ((rs'.length : Int) != rs.length) = false := by rw [hlen]; simp
        have HLEN := Lib.hid hlen
        clear hcall r1 r2 s1 s2 s3 s4 htl hin g1 g2 hg hlen hTsz
        go_wp2_with fail
        go_loop [11, 12] (fun g i => ∃ k : Nat, k ≤ rs.length ∧ i = .int .i64 k ∧ g = .bool true) (fun _ i => rs.length - (intOf i).toNat)
        case atStart => exact ⟨0, Nat.zero_le _, rfl, rfl⟩
        case round =>
          obtain ⟨k, hk, rfl, rfl⟩ := hrel
          by_cases hlt : k < rs.length
          · obtain ⟨r, hrk⟩ : ∃ r, rs[k]? = some r := ⟨rs[k], by simp [hlt]⟩
            obtain ⟨b, off, hav, hbw, hc⟩ := HC.out k r hrk
            subst hav
            have q0 := (HB4.out.cell (p := ⟨b, off + k * 4 + 0, none⟩) hbw).trans (hc 0 _ rfl)
            simp only [Nat.add_zero] at q0
            have hge : (0 : Int) ≤ r.1.err := HG.out r.1 (by rw [← HPS.out]; exact List.mem_map_of_mem (List.mem_of_getElem? hrk))
            clear hrk hc
            go_wp2_with fail
            go_round
            case rel => exact ⟨k + 1, by omega, by go_num, rfl⟩
            case measure => simp [intOf]; omega
          · obtain rfl : k = rs.length := by omega
            go_wp2_with fail
            refine HCALLT.out.mono ?_
            clear HCALLT
            rintro e w5 ⟨rfl, hb5⟩
            have HB5 : Hid (Below w.heap.size w w5) := HB4.out.trans (hb5.mono HB4.out.size)
            clear hb5
            have hcall := read_any s w5 (by omega) (.inl (by omega)) (fun u x v hu _ => by
              have := congrArg List.length hu
              rw [← Lib.size_eq] at this
              simp at this; omega) (fun x a ha => (told_bounds ha).1) (HE.out.below HB5.out)
            have HCALL := Lib.hid hcall
            clear hcall
            go_wp2_with fail
            refine HCALL.out.mono ?_
            clear HCALL
            rintro e w6 ⟨m1, m2⟩
            obtain ⟨O, hO⟩ : ∃ O, linesR outcomeR (s.size + 1) 1 s.data.toList = O := ⟨_, rfl⟩
            rw [hO] at m1 m2
            obtain ⟨xs, on⟩ := O
            cases on with
            | none =>
              obtain ⟨A2, c2, rm, rfl, t1, t2, t3, t4⟩ := m2 rfl
              simp only at t1
              have hsd : tellL xs = s.data.toList := read_sound _ _ _ _ hO
              have HB6 : Hid (Below w.heap.size w w6) := HB5.out.trans (t4.mono HB5.out.size)
              have hin2 : ∀ r ∈ rm, OutIn w6 r := fun r hr => by
                obtain ⟨k1, k2, k3⟩ := t3 r hr
                obtain ⟨u, x, v, e1, -, e3⟩ := linesR_mem (s.size + 1) 1 s.data.toList r.1 (by rw [hO, ← t1]; exact List.mem_map_of_mem hr)
                have hb := told_bounds e3
                have hxl : x.length ≤ 2000 := by
                  have := congrArg List.length e1
                  rw [← Lib.size_eq] at this
                  simp at this; omega
                exact ⟨k1, k2, k3, by omega, by omega, fun y hy => by have := hb.2.2.2 y hy; omega⟩
              have hlen2 : rm.length ≤ 1000 := by
                have h7 : rm.length = (tellL xs).count 10 := by rw [tell_count, ← t1]; simp
                have h8 : (tellL xs).count 10 * 4 ≤ (tellL xs).length := by
                  have h9 : ∀ x ∈ xs, 4 ≤ (toldL x).length := fun x hx => by
                    obtain ⟨u, y, v, e1, -, e3⟩ := linesR_mem (s.size + 1) 1 s.data.toList x (by rw [hO]; exact hx)
                    rw [(outcome_sound e3).1]; exact (told_bounds e3).1
                  rw [tell_count]
                  clear t1 hsd hO m1 m2 h7
                  induction xs with
                  | nil => simp
                  | cons y ys ih =>
                    have := h9 y (by simp)
                    have := ih (fun z hz => h9 z (List.mem_cons_of_mem _ hz))
                    rw [tellL_cons]; simp only [List.length_append, List.length_cons]; omega
                rw [hsd, ← Lib.size_eq] at h8
                rw [hsd] at h7
                omega
              have hcall := reftell_any _ rm w6 t2 hlen2 hin2
              rw [t1, hsd, ba_eta] at hcall
              have HCALL := Lib.hid hcall
              clear hcall t1 t2 t3 t4 hsd hin2 hlen2 hO m1 m2
              have hss : (s.toList == s.toList) = true := by simp
              go_wp2_with fail
              refine HCALL.out.mono ?_
              clear HCALL
              rintro e w7 ⟨rfl, hb7⟩
              go_wp2_with fail
              go_ret
              refine ⟨?_, HB6.out.trans (hb7.mono HB6.out.size)⟩
              simp
            | some n =>
              obtain ⟨rfl, t4⟩ := m1 n rfl
              have hpos := linesR_pos _ _ _ n (by rw [hO])
              have HB6 : Hid (Below w.heap.size w w6) := HB5.out.trans (t4.mono HB5.out.size)
              have hnp : (0 : Int) < (n : Int) := by omega
              clear m1 m2 hO t4 hpos
              go_wp2_with fail
              go_ret
              refine ⟨?_, HB6.out⟩
              simp
      · have hbad : ∃ p ∈ ps, p.err < 0 := by
          refine Classical.byContradiction fun hn => hg fun p hp => ?_
          rcases Int.lt_or_le p.err 0 with h | h
          · exact absurd ⟨p, hp, h⟩ hn
          · exact h
        obtain ⟨m, hm⟩ := tell_bad ps (T.size + 1) 1 hTsz (fun p hp => ⟨(HM.out p hp).1, (HM.out p hp).2.1⟩) hbad
        obtain ⟨rfl, s4⟩ := r1 m hm
        have HB4 : Hid (Below w.heap.size w w4) := HB3.out.trans (s4.mono HB3.out.size)
        have HBAD := Lib.hid hbad
        clear r1 r2 s4 hm hbad hg hTsz
        go_wp2_with fail
        go_loop [11, 12] (fun g i => ∃ k : Nat, k ≤ rs.length ∧ i = .int .i64 k ∧ g = .bool ((rs.take k).all fun r => decide (0 ≤ r.1.err))) (fun _ i => rs.length - (intOf i).toNat)
        case atStart => exact ⟨0, Nat.zero_le _, rfl, rfl⟩
        case round =>
          obtain ⟨k, hk, rfl, rfl⟩ := hrel
          by_cases hlt : k < rs.length
          · obtain ⟨r, hrk⟩ : ∃ r, rs[k]? = some r := ⟨rs[k], by simp [hlt]⟩
            obtain ⟨b, off, hav, hbw, hc⟩ := HC.out k r hrk
            subst hav
            have q0 := (HB4.out.cell (p := ⟨b, off + k * 4 + 0, none⟩) hbw).trans (hc 0 _ rfl)
            simp only [Nat.add_zero] at q0
            have hall : ((rs.take (k + 1)).all fun r => decide (0 ≤ r.1.err)) = (((rs.take k).all fun r => decide (0 ≤ r.1.err)) && decide (0 ≤ r.1.err)) := by
              rw [List.take_add_one, hrk]; simp
            obtain ⟨B, hB⟩ : ∃ B, ((rs.take k).all fun r => decide (0 ≤ r.1.err)) = B := ⟨_, rfl⟩
            rw [hB] at hall ⊢
            have HALL := Lib.hid hall
            clear hrk hc hall hB
            cases B with
            | false =>
              go_wp2_with fail
              go_round
              case rel => exact ⟨k + 1, by omega, by go_num, by rw [HALL.out]; rfl⟩
              case measure => simp [intOf]; omega
            | true =>
              go_wp2_with fail
              go_round
              case rel => exact ⟨k + 1, by omega, by go_num, by rw [HALL.out]; simp⟩
              case measure => simp [intOf]; omega
          · obtain rfl : k = rs.length := by omega
            have hfalse : ((rs.take rs.length).all fun r => decide (0 ≤ r.1.err)) = false := by
              rw [List.take_length, List.all_eq_false]
              obtain ⟨p, hp, h⟩ := HBAD.out
              rw [← HPS.out] at hp
              obtain ⟨r, hr, rfl⟩ := List.mem_map.1 hp
              exact ⟨r, hr, by simpa using h⟩
            rw [hfalse]
            clear hfalse
            have hcall := read_any s w4 (by omega) (.inl (by omega)) (fun u x v hu _ => by
              have := congrArg List.length hu
              rw [← Lib.size_eq] at this
              simp at this; omega) (fun x a ha => (told_bounds ha).1) (HE.out.below HB4.out)
            have HCALL := Lib.hid hcall
            clear hcall
            go_wp2_with fail
            refine HCALL.out.mono ?_
            clear HCALL
            rintro e w6 ⟨m1, m2⟩
            obtain ⟨O, hO⟩ : ∃ O, linesR outcomeR (s.size + 1) 1 s.data.toList = O := ⟨_, rfl⟩
            rw [hO] at m1 m2
            obtain ⟨xs, on⟩ := O
            cases on with
            | none =>
              obtain ⟨A2, c2, rm, rfl, t1, t2, t3, t4⟩ := m2 rfl
              simp only at t1
              have hsd : tellL xs = s.data.toList := read_sound _ _ _ _ hO
              have HB6 : Hid (Below w.heap.size w w6) := HB4.out.trans (t4.mono HB4.out.size)
              have hin2 : ∀ r ∈ rm, OutIn w6 r := fun r hr => by
                obtain ⟨k1, k2, k3⟩ := t3 r hr
                obtain ⟨u, x, v, e1, -, e3⟩ := linesR_mem (s.size + 1) 1 s.data.toList r.1 (by rw [hO, ← t1]; exact List.mem_map_of_mem hr)
                have hb := told_bounds e3
                have hxl : x.length ≤ 2000 := by
                  have := congrArg List.length e1
                  rw [← Lib.size_eq] at this
                  simp at this; omega
                exact ⟨k1, k2, k3, by omega, by omega, fun y hy => by have := hb.2.2.2 y hy; omega⟩
              have hlen2 : rm.length ≤ 1000 := by
                have h7 : rm.length = (tellL xs).count 10 := by rw [tell_count, ← t1]; simp
                have h8 : (tellL xs).count 10 * 4 ≤ (tellL xs).length := by
                  have h9 : ∀ x ∈ xs, 4 ≤ (toldL x).length := fun x hx => by
                    obtain ⟨u, y, v, e1, -, e3⟩ := linesR_mem (s.size + 1) 1 s.data.toList x (by rw [hO]; exact hx)
                    rw [(outcome_sound e3).1]; exact (told_bounds e3).1
                  rw [tell_count]
                  clear t1 hsd hO m1 m2 h7
                  induction xs with
                  | nil => simp
                  | cons y ys ih =>
                    have := h9 y (by simp)
                    have := ih (fun z hz => h9 z (List.mem_cons_of_mem _ hz))
                    rw [tellL_cons]; simp only [List.length_append, List.length_cons]; omega
                rw [hsd, ← Lib.size_eq] at h8
                rw [hsd] at h7
                omega
              have hcall := reftell_any _ rm w6 t2 hlen2 hin2
              rw [t1, hsd, ba_eta] at hcall
              have HCALL := Lib.hid hcall
              clear hcall t1 t2 t3 t4 hsd hin2 hlen2 hO m1 m2
              have hss : (s.toList == s.toList) = true := by simp
              go_wp2_with fail
              refine HCALL.out.mono ?_
              clear HCALL
              rintro e w7 ⟨rfl, hb7⟩
              go_wp2_with fail
              go_ret
              refine ⟨?_, HB6.out.trans (hb7.mono HB6.out.size)⟩
              simp
            | some n =>
              obtain ⟨rfl, t4⟩ := m1 n rfl
              have hpos := linesR_pos _ _ _ n (by rw [hO])
              have HB6 : Hid (Below w.heap.size w w6) := HB4.out.trans (t4.mono HB4.out.size)
              have hnp : (0 : Int) < (n : Int) := by omega
              clear m1 m2 hO t4 hpos
              go_wp2_with fail
              go_ret
              refine ⟨?_, HB6.out⟩
              simp

theorem tells_walk (v : Value) (rs : List (POut × Value)) (s : ByteArray) (w : World) (hr : RdOuts w v rs) (hraw : ∀ r ∈ rs, OutRaw w r) (he : EnvT w) :
    Calls Tryz.prog 3 #[v, .string s] w fun e w' => e = .returned (.bool true) ∧ Below w.heap.size w w' := by
  by_cases h1 : rs.length ≤ 10
  · by_cases h2 : s.size ≤ 2000
    · exact tells_near v rs s w hr hraw he h1 h2
    · exact tells_far v rs s w hr he.env (.inr ⟨h1, by omega⟩)
  · exact tells_far v rs s w hr he.env (.inl (by omega))
end Go.Proofs.YtcbdmaelgedbkaaGreatDoor
