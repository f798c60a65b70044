/- The walk of ScriptParses. -/
import Derived.Test.YtcbdmaelgedbkaaGreatDoorScrPI
namespace Go.Proofs.YtcbdmaelgedbkaaGreatDoor
open Go.RowKit Go.Shelf

theorem char_in {s : ByteArray} {u x v : List UInt8} (h : s.data.toList = u ++ (x ++ v)) {a : Nat} (h1 : u.length ≤ a) (h2 : a < u.length + x.length) (h3 : a < s.size) : s[a] ∈ x := by
  have h4 : a < s.data.toList.length := by rw [← Lib.size_eq]; exact h3
  have e : s[a] = s.data.toList[a] := by simp [ByteArray.getElem_eq_getElem_data]
  rw [e]
  have h5 : s.data.toList[a]? = x[a - u.length]? := by
    rw [h, List.getElem?_append_right h1, List.getElem?_append_left (by omega)]
  have h6 : s.data.toList[a]? = some s.data.toList[a] := by simp [h4]
  rw [h6] at h5
  exact List.mem_of_getElem? h5.symm
theorem char_at {s : ByteArray} {u v : List UInt8} (h : s.data.toList = u ++ 10 :: v) (h3 : u.length < s.size) : s[u.length] = 10 := by
  have h4 : u.length < s.data.toList.length := by rw [← Lib.size_eq]; exact h3
  have e : s[u.length] = s.data.toList[u.length] := by simp [ByteArray.getElem_eq_getElem_data]
  rw [e]
  have h5 : s.data.toList[u.length]? = some 10 := by
    rw [h, List.getElem?_append_right (Nat.le_refl _)]; simp
  have h6 : s.data.toList[u.length]? = some s.data.toList[u.length] := by simp [h4]
  rw [h6] at h5
  exact Option.some.inj h5
theorem cut_of {s : ByteArray} {u x v : List UInt8} (h : s.data.toList = u ++ (x ++ v)) {a b : Nat} (ha : a = u.length) (hb : b = u.length + x.length) : s.extract a b = ⟨x.toArray⟩ := by
  apply ByteArray.ext
  apply Array.toList_inj.1
  rw [Lib.extract_data, h, ha, hb]
  simp
theorem printG_ge {ps : List RDeed} (h : ∀ p ∈ ps, 4 ≤ (lineZ p).length) : 5 * ps.length ≤ (printG ps).length := by
  induction ps with
  | nil => exact Nat.le_refl 0
  | cons p ps ih =>
    rw [printG_cons, List.length_append, List.length_cons, List.length_cons]
    have := ih fun q hq => h q (List.mem_cons_of_mem _ hq)
    have := h p (by simp)
    omega
theorem printG_app (a b : List RDeed) : printG (a ++ b) = printG a ++ printG b := by simp [printG]
theorem printG_strip (rs : List RDeed) : printG (rs.map strip) = printG rs := by
  unfold printG
  rw [List.flatMap_map]
  rfl
theorem deed_in {w : World} {r : RDeed} (h : DeedAt w r) (hg : GoodD (strip r)) (hb : Bd 4000 (strip r)) : r.In w ∧ GoodD r := by
  obtain ⟨A, n, c, A', n', c', h1, h2, h3, h4⟩ := h
  refine ⟨⟨?_, ?_, ?_, hb.n, hb.m, hb.k, ?_, ?_, ?_, ?_, hb.keep⟩, hg.lo, hg.hi, hg.same, hg.len⟩
  · rw [h1]; exact h3.1
  · rw [h2]; exact h4.1
  · have h5 : 0 ≤ r.kind := hg.lo
    have h6 : r.kind < 26 := hg.hi
    unfold I64; omega
  · have : r.path.size ≤ 4000 := hb.path
    omega
  · have : r.as_.size ≤ 4000 := hb.as_
    omega
  · have : r.b.length ≤ 4000 := hb.b
    omega
  · have : 2 * r.keep.length ≤ 4000 + 1 := hb.keepN
    omega

set_option maxRecDepth 100000 in
set_option maxHeartbeats 4000000 in
theorem parses_far (s : ByteArray) (w : World) (he : Env w) (h : 3000 < s.size) :
    Calls Tryz.prog 4 #[.string s] w fun e w' => e = .returned (.bool true) ∧ Below w.heap.size w w' := by
  have HE := Lib.hid he; clear he
  go_enter Tryz.func4, Tryz.ntmps4
  go_wp2_with fail
  refine (awake_any _ HE.out).mono ?_
  rintro e w1 ⟨rfl, hb1⟩
  have HB1 := Lib.hid hb1; clear hb1
  go_wp2_with fail
  refine (awake_any _ (HE.out.below HB1.out)).mono ?_
  rintro e w3 ⟨rfl, hb3⟩
  go_wp2_with fail
  go_ret
  exact ⟨rfl, HB1.out.trans (hb3.mono HB1.out.size)⟩

set_option maxRecDepth 100000 in
set_option maxHeartbeats 8000000 in
theorem parses_near (s : ByteArray) (w : World) (he : EnvT w) (h : s.size ≤ 3000) :
    Calls Tryz.prog 4 #[.string s] w fun e w' => e = .returned (.bool true) ∧ Below w.heap.size w w' := by
  have HE := Lib.hid he; clear he
  obtain ⟨ps, o, hR⟩ : ∃ ps o, linesR deedR (s.size + 1) 1 s.data.toList = (ps, o) := ⟨_, _, rfl⟩
  have hsz : s.data.toList.length = s.size := (Lib.size_eq s).symm
  obtain ⟨hps, hnone, hsome⟩ := lines_is _ 1 _ ps o (by omega) (by omega) hR
  have HP : Hid (∀ (t : ByteArray) (W : World), t.size ≤ 3000 → EnvT W → Calls Tryz.prog 9 #[.string t] W (ParseP (linesR deedR (t.size + 1) 1 t.data.toList) W)) := fun t W ht hW =>
    parse_any t W (by omega) (.inl (by omega)) (fun u x v e _ => by
      have := congrArg List.length e
      rw [← Lib.size_eq] at this
      simp at this; omega) (fun x a ha => deedR_four ha) hW
  have HPS := Lib.hid hps; have HNO := Lib.hid hnone; have HSO := Lib.hid hsome; have HR := Lib.hid hR; have HSZ := Lib.hid hsz
  clear hps hnone hsome hR hsz
  go_enter Tryz.func4, Tryz.ntmps4
  go_wp2_with fail
  refine (awake_any _ HE.out.env).mono ?_
  rintro e w1 ⟨rfl, hb1⟩
  have HB1 := Lib.hid hb1; clear hb1
  go_wp2_with fail
  refine (HP.out s w1 h (HE.out.below HB1.out)).mono ?_
  rw [HR.out]
  rintro e w2 ⟨h1, h2⟩
  cases o with
  | none =>
    obtain ⟨A, c, rs, rfl, hrs, hrd, hat, hb2⟩ := h2 rfl
    have hrs : rs.map strip = ps := hrs
    have hB2 := HB1.out.trans (hb2.mono HB1.out.size)
    have hL := HNO.out rfl
    have hall : ∀ r ∈ rs, r.In w2 ∧ GoodD r := fun r hr => by
      have hp : strip r ∈ ps := by rw [← hrs]; exact List.mem_map_of_mem hr
      obtain ⟨g1, g2, g3⟩ := HPS.out _ hp
      obtain ⟨k1, k2, k3⟩ := deedR_good g1 (by omega)
      exact deed_in (hat r hr) k2 k3
    have hlen : rs.length ≤ 1000 := by
      have h3 : ∀ p ∈ ps, 4 ≤ (lineZ p).length := fun p hp => deedR_four (HPS.out p hp).1
      have h4 := printG_ge h3
      rw [← hL, HSZ.out, ← hrs, List.length_map] at h4
      omega
    have hT : (⟨(printG rs).toArray⟩ : ByteArray) = s := by
      rw [← printG_strip, hrs, ← hL]
    have HALL := Lib.hid hall; have HRD := Lib.hid hrd; have HT := Lib.hid hT; have HBB := Lib.hid hB2
    clear h1 h2 hall hrd hT hB2 hb2 hat hrs hL
    go_wp2_with fail
    refine (refprint_any _ rs w2 HRD.out hlen (fun d hd => (HALL.out d hd).1) (fun d hd => (HALL.out d hd).2)).mono ?_
    rintro e w3 ⟨rfl, hb3⟩
    rw [HT.out]
    have HB3 := Lib.hid (HBB.out.trans (hb3.mono HBB.out.size))
    clear hb3
    go_wp2_with fail
    go_ret
    exact ⟨by simp, HB3.out⟩
  | some m =>
    obtain ⟨rfl, hb2⟩ := h1 m rfl
    obtain ⟨hm, r, hL, hr0, hrr⟩ := HSO.out m rfl
    have HB2 := Lib.hid (HB1.out.trans (hb2.mono HB1.out.size))
    have HL := Lib.hid hL; have HRR := Lib.hid hrr; have HR0 := Lib.hid hr0
    clear h1 h2 hb2 hL hrr hr0
    have hAs : (printG ps).length + r.length = s.size := by
      have := congrArg List.length HL.out
      rw [HSZ.out, List.length_append] at this
      omega
    obtain ⟨K, hK⟩ : ∃ K, ps.length = K := ⟨_, rfl⟩
    have HK := Lib.hid hK
    have hm1 : m ≤ K + 1 := by omega
    have hm2 : K + 1 ≤ m := by omega
    have hKb : K ≤ 1000 := by
      have h4 := printG_ge fun p hp => deedR_four (HPS.out p hp).1
      omega
    have HM := Lib.hid hm
    have hmn : ¬ (m : Int) < 1 := by omega
    obtain ⟨F, hF⟩ : ∃ F, (printG ps).length = F := ⟨_, rfl⟩
    rw [hF] at hAs
    have HF := Lib.hid hF
    have HBJ : Hid (∀ j p, ps[j]? = some p → (printG (ps.take (j + 1))).length = (printG (ps.take j)).length + (lineZ p).length + 1 ∧ s.data.toList = printG (ps.take j) ++ (lineZ p ++ (10 :: (printG (ps.drop (j + 1)) ++ r)))) := by
      intro j p hj
      have hj2 := List.getElem?_eq_some_iff.1 hj
      obtain ⟨hj3, hj4⟩ := hj2
      have e1 : ps.take (j + 1) = ps.take j ++ [p] := by rw [List.take_add_one, hj]; rfl
      have e2 : printG [p] = lineZ p ++ [10] := by simp [printG]
      refine ⟨by rw [e1, printG_app, e2]; simp; omega, ?_⟩
      have e3 : ps = ps.take j ++ ([p] ++ ps.drop (j + 1)) := by
        conv => lhs; rw [← List.take_append_drop (j + 1) ps, e1]
        simp
      rw [HL.out]
      conv => lhs; rw [e3, printG_app, printG_app, e2]
      simp
    clear hm hK hF
    go_wp2_with fail
    go_loop [8, 9] (fun av iv => ∃ j a : Nat, j ≤ K ∧ iv = .int .i64 ((j : Int) + 1) ∧ av = .int .i64 a ∧ a ≤ F ∧ Hid (a = (printG (ps.take j)).length)) (fun _ iv => m - (intOf iv).toNat)
    case atStart => exact ⟨0, 0, Nat.zero_le _, rfl, rfl, Nat.zero_le _, rfl⟩
    case round =>
      obtain ⟨j, a, hj, rfl, rfl, haF, ha⟩ := hrel
      by_cases hlt : j < K
      · obtain ⟨p, hp⟩ : ∃ p, ps[j]? = some p := ⟨ps[j]'(by rw [HK.out]; exact hlt), by simp⟩
        obtain ⟨b1, b2⟩ := HBJ.out j p hp
        have hEs : a + (lineZ p).length + 1 ≤ F := by
          rw [← HF.out, ha.out, ← b1]
          have h5 := congrArg (fun l => (printG l).length) (List.take_append_drop (j + 1) ps)
          simp only [printG_app, List.length_append] at h5
          omega
        obtain ⟨E, hE⟩ : ∃ E, a + (lineZ p).length = E := ⟨_, rfl⟩
        rw [hE] at hEs
        have hch : Hid (∀ (q : Nat) (h : q < s.size), a ≤ q → q < E → s[q] ≠ 10) := fun q h h5 h6 => by
          have h7 := char_in b2 (by rw [← ha.out]; exact h5) (by rw [← ha.out]; omega) h
          exact fun e => (HPS.out p (List.mem_of_getElem? hp)).2.1 (by rw [← e]; exact h7)
        have hce : Hid (∀ (h : E < s.size), s[E] = 10) := fun h => by
          have e1 : E = (printG (ps.take j) ++ lineZ p).length := by rw [List.length_append, ← ha.out]; omega
          subst e1
          exact char_at (v := printG (ps.drop (j + 1)) ++ r) (by rw [b2]; simp) h
        have hnx : Hid (E + 1 = (printG (ps.take (j + 1))).length) := by unfold Hid; rw [b1, ← ha.out]; omega
        have haE : a ≤ E := by omega
        have hltm : (j : Int) + 1 < m := by omega
        clear b1 b2 hp hE
        go_wp2_with fail
        go_loop [8] (fun av => ∃ q : Nat, av = .int .i64 q ∧ a ≤ q ∧ q ≤ E) (fun av => E - (intOf av).toNat)
        case atStart => exact ⟨a, rfl, Nat.le_refl _, haE⟩
        case round =>
          obtain ⟨q, rfl, hq1, hq2⟩ := hrel
          have hqs : q < s.size := by omega
          by_cases hlq : q < E
          · have h10 := hch.out q hqs hq1 hlq
            obtain ⟨c, hc⟩ : ∃ c, s[q] = c := ⟨_, rfl⟩
            rw [hc] at h10
            have hcb : (((c.toNat : Nat) : Int) != 10) = true := by
              rw [bne_iff_ne]
              exact fun e => h10 (UInt8.toNat_inj.1 (by simp; omega))
            clear h10
            go_wp2_with fail
            go_round
            case rel => exact ⟨q + 1, by go_num, by omega, by omega⟩
            case measure => simp [intOf]; omega
          · obtain rfl : q = E := by omega
            have h10 := hce.out hqs
            go_wp2_with fail
            go_round
            case rel => exact ⟨j + 1, q + 1, by omega, by go_num, by go_num, by omega, hnx⟩
            case measure => simp [intOf]; omega
      · obtain rfl : j = K := by omega
        have haF2 : Hid (a = F) := by
          unfold Hid
          rw [ha.out, ← HF.out, ← HK.out, List.take_length]
        have haF3 := haF2.out
        have hm3 : ¬ (j : Int) + 1 < m := by omega
        have hsa : ¬ (s.size : Int) < a := by omega
        obtain ⟨S1, hS1⟩ : ∃ S1, s.extract 0 a = S1 := ⟨_, rfl⟩
        have hS1p : S1 = ⟨(printG ps).toArray⟩ := by
          rw [← hS1]
          exact cut_of (u := []) (x := printG ps) (v := r) HL.out rfl (by rw [HF.out, haF3]; simp)
        have hS1s : S1.size = a := by rw [hS1p]; show (printG ps).length = a; rw [HF.out, haF3]
        have hcall := HP.out S1 w2 (by omega) (HE.out.below HB2.out)
        have hlb : linesR deedR (S1.size + 1) 1 S1.data.toList = (ps, none) := by
          have e1 : S1.data.toList = printG ps := by rw [hS1p]
          rw [e1]
          exact lines_back _ 1 ps HPS.out (by rw [HF.out, ← haF3]; omega)
        rw [hlb] at hcall
        have HCALL := Lib.hid hcall
        have hwm : wrap64 ((m : Int) - 1) = (j : Int) := by unfold wrap64; omega
        have has : a ≤ s.size := by omega
        clear hS1p hS1s hcall hlb haF3
        go_wp2_with fail
        refine HCALL.out.mono ?_
        clear HCALL
        rintro e w3 ⟨h1, h2⟩
        obtain ⟨A, c, rs, rfl, hrs, -, -, hb3⟩ := h2 rfl
        have hrl : rs.length = j := by
          have : rs.map strip = ps := hrs
          rw [← HK.out, ← this, List.length_map]
        have HB3 := Lib.hid (HB2.out.trans (hb3.mono HB2.out.size))
        rw [hrl]
        clear h1 h2 hrs hb3 hrl
        go_wp2_with fail
        obtain ⟨E, hE1, hE2, hE3, hE4⟩ : ∃ E : Nat, a ≤ E ∧ E ≤ s.size ∧ Hid (∀ (q : Nat) (h : q < s.size), a ≤ q → q < E → s[q] ≠ 10) ∧ (E = s.size ∨ (E < s.size ∧ Hid (∀ (h : E < s.size), s[E] = 10) ∧ ∃ x v, r = x ++ 10 :: v ∧ (10 : UInt8) ∉ x ∧ deedR x = none ∧ E = a + x.length)) := by
          have haL : a = (printG ps).length := by rw [HF.out, haF2.out]
          rcases HRR.out with h | ⟨x, v, h1, h2, h3⟩
          · refine ⟨s.size, has, Nat.le_refl _, fun q h5 h6 h7 => ?_, .inl rfl⟩
            have h8 := char_in (u := printG ps) (x := r) (v := []) (by rw [List.append_nil]; exact HL.out) (by omega) (by rw [← haL, haF2.out]; omega) h5
            exact fun e => h (by rw [← e]; exact h8)
          · have hl := congrArg List.length h1
            simp only [List.length_append, List.length_cons] at hl
            have hLL : s.data.toList = printG ps ++ (x ++ (10 :: v)) := by rw [← h1]; exact HL.out
            refine ⟨a + x.length, by omega, by rw [haF2.out]; omega, fun q h5 h6 h7 => ?_, .inr ⟨by rw [haF2.out]; omega, fun h5 => ?_, x, v, h1, h2, h3, rfl⟩⟩
            · have h8 := char_in hLL (by omega) (by omega) h5
              exact fun e => h2 (by rw [← e]; exact h8)
            · have e1 : a + x.length = (printG ps ++ x).length := by rw [List.length_append]; omega
              have h6 := char_at (s := s) (u := printG ps ++ x) (v := v) (by rw [hLL]; simp) (by rw [← e1]; exact h5)
              simp only [← e1] at h6
              exact h6
        clear hS1 hwm hm3 hm1 hm2
        go_loop [13] (fun av => ∃ q : Nat, av = .int .i64 q ∧ a ≤ q ∧ q ≤ E) (fun av => E - (intOf av).toNat)
        case atStart => exact ⟨a, rfl, Nat.le_refl _, hE1⟩
        case round =>
          obtain ⟨q, rfl, hq1, hq2⟩ := hrel
          by_cases hlq : q < E
          · have hqs : q < s.size := by omega
            have h10 := hE3.out q hqs hq1 hlq
            obtain ⟨c, hc⟩ : ∃ c, s[q] = c := ⟨_, rfl⟩
            rw [hc] at h10
            have hcb : (((c.toNat : Nat) : Int) != 10) = true := by
              rw [bne_iff_ne]
              exact fun e => h10 (UInt8.toNat_inj.1 (by simp; omega))
            clear h10 hE4
            go_wp2_with fail
            go_round
            case rel => exact ⟨q + 1, by go_num, by omega, by omega⟩
            case measure => simp [intOf]; omega
          · obtain rfl : q = E := by omega
            rcases hE4 with rfl | ⟨h5, h6, x, v, h7, h8, h9, h11⟩
            · go_wp2_with fail
              go_ret
              exact ⟨rfl, HB3.out⟩
            · have h10 := h6.out h5
              obtain ⟨S2, hS2⟩ : ∃ S2, s.extract a (q + 1) = S2 := ⟨_, rfl⟩
              have hS2p : S2 = ⟨(x ++ [10]).toArray⟩ := by
                rw [← hS2]
                exact cut_of (u := printG ps) (x := x ++ [10]) (v := v) (by rw [HL.out, h7]; simp) (by rw [HF.out, haF2.out]) (by rw [HF.out, ← haF2.out, h11]; simp; omega)
              have hS2s : S2.size = x.length + 1 := by rw [hS2p]; show (x ++ [10]).length = _; simp
              have hcall := HP.out S2 w3 (by omega) (HE.out.below HB3.out)
              have hlb : linesR deedR (S2.size + 1) 1 S2.data.toList = ([], some 1) := by
                have e1 : S2.data.toList = x ++ 10 :: [] := by rw [hS2p]
                rw [e1]
                exact linesR_bad h8 h9
              rw [hlb] at hcall
              have HCALL := Lib.hid hcall
              have hne : ((q : Int) == (s.size : Int)) = false := by simp; omega
              clear hS2p hS2s hcall hlb h6 h7 h8 h9 h11
              go_wp2_with fail
              refine HCALL.out.mono ?_
              clear HCALL
              rintro e w4 ⟨g1, g2⟩
              obtain ⟨rfl, hb4⟩ := g1 1 rfl
              have HB4 := Lib.hid (HB3.out.trans (hb4.mono HB3.out.size))
              clear g1 g2 hb4
              go_wp2_with fail
              go_ret
              exact ⟨by simp, HB4.out⟩

theorem parses_walk (s : ByteArray) (w : World) (he : EnvT w) :
    Calls Tryz.prog 4 #[.string s] w fun e w' => e = .returned (.bool true) ∧ Below w.heap.size w w' := by
  rcases Nat.lt_or_ge 3000 s.size with h | h
  · exact parses_far s w he.env h
  · exact parses_near s w he h
end Go.Proofs.YtcbdmaelgedbkaaGreatDoor
