/- The walk of script.deed. -/
import Derived.Test.YtcbdmaelgedbkaaGreatDoorScrPC
import Derived.Laws.ResultCell
namespace Go.Proofs.YtcbdmaelgedbkaaGreatDoor
open Go.RowKit Go.Shelf

/-- A deed that is given what the words say. -/
def setAll : RDeed → List UInt8 → List (List UInt8) → Option RDeed
  | p, c :: cs, x :: ws => match setR p c.toNat x with
    | some q => setAll q cs ws
    | none => none
  | p, _, _ => some p
def deed0 (k : Nat) : RDeed := ⟨k, 0, 0, 0, ⟨#[]⟩, ⟨#[]⟩, .slice none 0 0, .slice none 0 0, [], []⟩
def deedW (a : List UInt8) (ws : List (List UInt8)) : Option RDeed := match kindOf a with
  | none => none
  | some k => match kindsT[k]? with
    | none => none
    | some x => if x.2.length = ws.length then setAll (deed0 k) x.2 ws else none
def deedS : List (List UInt8) → Option RDeed
  | [] => none
  | a :: ws => deedW a ws
/-- A line's deed. -/
def deedR (l : List UInt8) : Option RDeed := deedS (spl 32 l)
/-- What script.deed comes to. -/
def DeedP (o : Option RDeed) (w : World) (e : Ending) (w' : World) : Prop :=
  (o = none → e = .returned (.tuple #[.agg #[.int .i64 0, .int .i64 0, .int .i64 0, .int .i64 0, .string ⟨#[]⟩, .string ⟨#[]⟩, .slice none 0 0, .slice none 0 0], argV])) ∧
  (∀ p, o = some p → ∃ A n c A' n' c', e = .returned (.tuple #[.agg #[.int .i64 p.kind, .int .i64 p.n, .int .i64 p.m, .int .i64 p.k, .string p.path, .string p.as_, .slice A n c, .slice A' n' c'], .nilIface]) ∧ SlAt encB w' A n c p.b ∧ SlAt encI w' A' n' c' p.keep) ∧ Below w.heap.size w w'

theorem SlAt.iterAt {α : Type} {enc : α → Value} {w : World} {A : Option Addr} {n c : Nat} {xs : List α} (h : SlAt enc w A n c xs) {ib : Nat} {s : ByteArray} {pos : Nat} (hi : w.heap[ib]? = some (.stringIter s pos)) (p : Nat) : SlAt enc (w.iterAt ib s p) A n c xs := by
  obtain ⟨h1, h2⟩ := h
  have hk : ∀ b o, A = some ⟨b, o, none⟩ → b < w.heap.size ∧ (w.iterAt ib s p).heap[b]? = w.heap[b]? := fun b o e => by
    obtain ⟨cs, t, fz, h3, h4⟩ := h2 b o e
    refine ⟨heap_lt h3, Lib.iterAt_other w ib b s p (fun e2 => ?_)⟩
    rw [e2, hi] at h3; cases h3
  refine ⟨?_, fun b o e => by rw [(hk b o e).2]; exact h2 b o e⟩
  rcases h1 with h1 | h1 | ⟨b, o, c', e1, e2, e3, e4⟩
  · exact .inl h1
  · exact .inr (.inl h1)
  · simp only [Value.slice.injEq] at e1
    obtain ⟨rfl, rfl, rfl⟩ := e1
    refine .inr (.inr ⟨b, o, c, rfl, by rw [Lib.iterAt_size]; exact e2, e3, fun j x hj => ?_⟩)
    exact (World.cell?_of_block (a := ⟨b, o + j, none⟩) (hk b o rfl).2).trans (e4 j x hj)

/-- In the loop of script.deed. -/
structure DeedI (w : World) (ib db : Nat) (s : ByteArray) (pos : Nat) (p : RDeed) (wr : World) : Prop where
  it : wr.heap[ib]? = some (.stringIter s pos)
  box : DeedBox wr db p
  bel : Below w.heap.size w wr
  le : w.heap.size ≤ ib ∧ w.heap.size ≤ db
theorem DeedI.next {w : World} {ib db : Nat} {s : ByteArray} {pos : Nat} {p : RDeed} {wr : World} (h : DeedI w ib db s pos p wr) (q : Nat) : DeedI w ib db s q p (wr.iterAt ib s q) where
  it := Lib.iterAt_heap wr ib s pos q h.it
  box := by
    obtain ⟨A, n, c, A', n', c', h1, h2, h3⟩ := h.box
    exact ⟨A, n, c, A', n', c', (Lib.iterAt_other wr ib db s q (fun e => by have h4 := h.it; rw [e, h4] at h1; cases h1)).trans h1, h2.iterAt h.it q, h3.iterAt h.it q⟩
  bel := Lib.below_iterAt h.bel h.le.1 s q
  le := h.le
theorem DeedI.put {w : World} {ib db : Nat} {s : ByteArray} {pos : Nat} {p p' : RDeed} {wr w' : World} (h : DeedI w ib db s pos p wr) (hg : wr.grownBy w' (some db)) (hd : DeedBox w' db p') : DeedI w ib db s pos p' w' := by
  have hb : ∃ cs fz, wr.heap[db]? = some (.cells cs 44 fz) := by
    obtain ⟨A, n, c, A', n', c', h1, h2, h3⟩ := h.box
    exact ⟨_, _, h1⟩
  obtain ⟨cs, fz, hb⟩ := hb
  refine ⟨(hg.block _ (heap_lt h.it) (fun e => ?_)).trans h.it, hd, h.bel.grown hg h.bel.size (fun q hq => by cases hq; exact h.le.2), h.le⟩
  cases e
  have := h.it; rw [hb] at this; cases this

theorem deed_put8 {w : World} {b : Nat} {u0 u1 u2 u3 u4 u5 u6 u7 : Value} {t : TypeId} (h : w.heap[b]? = some (.cells #[u0, u1, u2, u3, u4, u5, u6, u7] t (0, 0))) (v0 v1 v2 v3 v4 v5 v6 v7 : Value) :
    ((((((((w.setCell ⟨b, 0, none⟩ v0).setCell ⟨b, 1, none⟩ v1).setCell ⟨b, 2, none⟩ v2).setCell ⟨b, 3, none⟩ v3).setCell ⟨b, 4, none⟩ v4).setCell ⟨b, 5, none⟩ v5).setCell ⟨b, 6, none⟩ v6).setCell ⟨b, 7, none⟩ v7).heap[b]? = some (.cells #[v0, v1, v2, v3, v4, v5, v6, v7] t (0, 0)) := by
  have h0 := set_box h 0 v0
  have h1 := set_box h0 1 v1
  have h2 := set_box h1 2 v2
  have h3 := set_box h2 3 v3
  have h4 := set_box h3 4 v4
  have h5 := set_box h4 5 v5
  have h6 := set_box h5 6 v6
  have h7 := set_box h6 7 v7
  simpa using h7
theorem grown_put8 (w : World) (b : Nat) (v0 v1 v2 v3 v4 v5 v6 v7 : Value) :
    w.grownBy ((((((((w.setCell ⟨b, 0, none⟩ v0).setCell ⟨b, 1, none⟩ v1).setCell ⟨b, 2, none⟩ v2).setCell ⟨b, 3, none⟩ v3).setCell ⟨b, 4, none⟩ v4).setCell ⟨b, 5, none⟩ v5).setCell ⟨b, 6, none⟩ v6).setCell ⟨b, 7, none⟩ v7) (some b) :=
  ((((((((grown_set w b 0 v0).trans (grown_set _ b 1 v1)).trans (grown_set _ b 2 v2)).trans (grown_set _ b 3 v3)).trans (grown_set _ b 4 v4)).trans (grown_set _ b 5 v5)).trans (grown_set _ b 6 v6)).trans (grown_set _ b 7 v7))
theorem info_deed8 : (Tryz.prog.info? 44).map (fun i => (i.size)) = some 8 := by kernel_rfl
theorem ret_deed {w : World} {b : Nat} {v0 v1 v2 v3 v4 v5 v6 v7 : Value} (h : w.heap[b]? = some (.cells #[v0, v1, v2, v3, v4, v5, v6, v7] 44 (0, 0))) {tmps : Array Value} {u : Value} (h2 : tmps.getD 2 undef = .pointer (some ⟨b, 0, none⟩)) (h3 : tmps.getD 3 undef = u) :
    (results Tryz.f22 tmps).run Tryz.prog w = .ok (.tuple #[.agg #[v0, v1, v2, v3, v4, v5, v6, v7], u]) w := by
  obtain ⟨⟨q0, q1, q2, q3, q4, q5, q6, q7⟩, fz⟩ := deed_cells h
  rw [results_cell_tmp (p := 2) (u := 3) (ty := 44) rfl, h2, h3]
  simp [go_sem, q0, q1, q2, q3, q4, q5, q6, q7]

set_option maxRecDepth 100000 in
set_option maxHeartbeats 8000000 in
theorem deed_any (s : ByteArray) (w : World) (hs : s.size ≤ 100000) (he : EnvT w) :
    Calls Tryz.prog 22 #[.string s] w (DeedP (deedR s.data.toList) w) := by
  obtain ⟨R, hR⟩ : ∃ R, deedR s.data.toList = R := ⟨_, rfl⟩
  rw [hR]
  have HE := Lib.hid he; clear he
  cases hw : spl 32 s.data.toList with
  | nil => exact absurd hw (spl_ne _ _)
  | cons a ws =>
  have HR : Hid (R = deedW a ws) := by unfold Hid; rw [← hR]; unfold deedR; rw [hw]; rfl
  have HWS := Lib.hid hw
  clear hR hw
  go_enter Tryz.func22, Tryz.ntmps22
  go_wp2_with fail
  obtain ⟨wa, hwa⟩ : ∃ wa, w.alloc (.cells #[.int .i64 0, .int .i64 0, .int .i64 0, .int .i64 0, .string ⟨#[]⟩, .string ⟨#[]⟩, .slice none 0 0, .slice none 0 0] 44) = wa := ⟨_, rfl⟩
  have hba : Below w.heap.size w wa := hwa ▸ (Below.refl _ _).alloc (Nat.le_refl _) _
  have hra : wa.heap[w.heap.size]? = some (.cells #[.int .i64 0, .int .i64 0, .int .i64 0, .int .i64 0, .string ⟨#[]⟩, .string ⟨#[]⟩, .slice none 0 0, .slice none 0 0] 44 (0, 0)) := hwa ▸ heap_alloc_new w _
  have hza : wa.heap.size = w.heap.size + 1 := by rw [← hwa]; simp
  have HBA := Lib.hid hba; have HRA := Lib.hid hra
  rw [hwa]
  clear hwa hba hra
  refine (splitc_any 32 s _ (by omega) (HE.out.below HBA.out).env).mono ?_
  rw [HWS.out]
  rintro e w1 ⟨rfl, hb1, hz1, hc1⟩
  have HC1 := Lib.hid hc1; have HB1 := Lib.hid hb1
  clear hc1 hb1
  obtain ⟨N, hN⟩ : ∃ N, (a :: ws).length = N := ⟨_, rfl⟩
  have HN := Lib.hid hN
  rw [hN]
  have hN0 : 0 < N := by rw [← hN]; simp
  clear hN
  go_wp2_with fail
  refine (names_any _).mono ?_
  rintro e w2 ⟨rfl, hb2, hz2, hk2⟩
  have hcap : w2.cell? ⟨w.heap.size + 1 + 1, 0, none⟩ = some (.slice (some ⟨w.heap.size + 1, 0, none⟩) N N) := by
    refine (hb2.cell (p := ⟨w.heap.size + 1 + 1, 0, none⟩) (by simp; omega)).trans ?_
    rw [World.cell?_alloc_at _ _ _ _ (by omega)]
    rfl
  have hrow : ∀ j x, (a :: ws)[j]? = some x → w2.cell? ⟨w.heap.size + 1, j, none⟩ = some (.string ⟨x.toArray⟩) := fun j x hj => by
    refine (hb2.cell (p := ⟨w.heap.size + 1, j, none⟩) (by simp; omega)).trans ?_
    rw [World.cell?_alloc_lt _ _ _ (by simp; omega)]
    rw [← hza]
    exact HC1.out j x hj
  have hbel2 : Below w.heap.size w w2 := (HBA.out.trans ((HB1.out.mono HBA.out.size).alloc (by omega) _)).trans (hb2.mono (by simp; omega))
  have hres : w2.heap[w.heap.size]? = some (.cells #[.int .i64 0, .int .i64 0, .int .i64 0, .int .i64 0, .string ⟨#[]⟩, .string ⟨#[]⟩, .slice none 0 0, .slice none 0 0] 44 (0, 0)) :=
    (hb2.block _ (by simp; omega)).trans ((Below.heap_alloc _ _ _ (by omega)).trans ((HB1.out.block _ (by omega)).trans HRA.out))
  simp only [World.size_alloc, hz1, hza] at hz2 hk2 ⊢
  have HK2 := Lib.hid hk2; have HCAP := Lib.hid hcap; have HROW := Lib.hid hrow; have HBEL2 := Lib.hid hbel2; have HRES := Lib.hid hres
  clear hk2 hcap hrow hbel2 hres hb2 HC1 HB1 HRA HBA
  go_wp2_with fail
  refine (index_any a _ _ _ _ _ w2 hN0 HK2.out HCAP.out (HROW.out 0 a rfl) (HE.out.below HBEL2.out).env).mono ?_
  rintro e w3 ⟨rfl, n3, hw3⟩
  have hbel3 : Below w2.heap.size w2 w3 := hw3 ▸ below_drewN (Below.refl _ _) n3
  have HBEL3 := Lib.hid (HBEL2.out.trans (hbel3.mono HBEL2.out.size))
  have HRES3 := Lib.hid ((hbel3.block _ (heap_lt HRES.out)).trans HRES.out)
  have HROW3 : Hid (∀ j x, (a :: ws)[j]? = some x → w3.cell? ⟨w.heap.size + 1, j, none⟩ = some (.string ⟨x.toArray⟩)) := fun j x hj => (hbel3.cell (p := ⟨w.heap.size + 1, j, none⟩) (by show w.heap.size + 1 < _; omega)).trans (HROW.out j x hj)
  have HCAP3 : Hid (w3.cell? ⟨w.heap.size + 1 + 1, 0, none⟩ = some (.slice (some ⟨w.heap.size + 1, 0, none⟩) N N)) := (hbel3.cell (p := ⟨w.heap.size + 1 + 1, 0, none⟩) (by show w.heap.size + 1 + 1 < _; omega)).trans HCAP.out
  have hz3 : w.heap.size + 4 ≤ w3.heap.size := by have := hbel3.size; omega
  clear hw3 hbel3 HK2 HCAP HROW HRES hz1 hz2 hza
  cases hkd : kindOf a with
  | none =>
    have HRN : Hid (R = none) := by unfold Hid; rw [HR.out]; unfold deedW; rw [hkd]
    have hix : idxV a = -1 := by unfold idxV; rw [hkd]
    rw [hix]
    clear hkd hix
    have hr0 := HRES3.out
    obtain ⟨⟨q0, q1, q2, q3, q4, q5, q6, q7⟩, fz⟩ := deed_cells hr0
    clear hr0
    go_wp2_with fail
    try simp only [Exit.inBlock, Exit.then]
    refine bodyPost_ret (ret_deed (deed_put8 HRES3.out _ _ _ _ _ _ _ _) rfl rfl) rfl ?_
    exact ⟨fun _ => rfl, fun p hp => (by rw [HRN.out] at hp; cases hp), HBEL3.out.grown (grown_put8 _ _ _ _ _ _ _ _ _ _) HBEL3.out.size (fun q hq => by cases hq; exact Nat.le_refl _)⟩
  | some k =>
  obtain ⟨x, hx, hxa⟩ := kindOf_get hkd
  have hk26 : k < 26 := (List.getElem?_eq_some_iff.1 hx).1
  have hmem := List.mem_of_getElem? hx
  have HRD : Hid (R = if x.2.length = ws.length then setAll (deed0 k) x.2 ws else none) := by unfold Hid; rw [HR.out]; unfold deedW; rw [hkd]; simp only; rw [hx]
  have hix : idxV a = k := by unfold idxV; rw [hkd]
  rw [hix]
  have HX := Lib.hid hx; have HM := Lib.hid hmem; have HCT := Lib.hid (cut_kind x hmem); have HLE := Lib.hid (kinds_letters x hmem); have HLN := Lib.hid (kinds_len x hmem)
  clear hkd hix hx hxa hmem HR
  have hcap := HCAP3.out
  go_wp2_with fail
  refine (names_any _).mono ?_
  rintro e w4 ⟨rfl, hb4, hz4, hk4⟩
  have hbox : w4.heap[w3.heap.size]? = some (.cells #[.int .i64 k, .int .i64 0, .int .i64 0, .int .i64 0, .string ⟨#[]⟩, .string ⟨#[]⟩, .slice none 0 0, .slice none 0 0] 44 (0, 0)) := (hb4.block _ (by simp)).trans (heap_alloc_new w3 _)
  have hb34 : Below w3.heap.size w3 w4 := ((Below.refl _ _).alloc (Nat.le_refl _) _).trans (hb4.mono (by simp))
  have hkc := hk4 k x HX.out
  simp only [World.size_alloc] at hkc hz4
  have hkc0 : w4.cell? ⟨w3.heap.size + 1, 0 + k, none⟩ = some (.string ⟨(kindText x).toArray⟩) := by rw [Nat.zero_add]; exact hkc
  have HBOX := Lib.hid hbox; have HB34 := Lib.hid hb34
  clear hk4 hb4 hbox hb34 hcap
  obtain ⟨mm, hmm⟩ := (HE.out.below (HBEL3.out.trans (HB34.out.mono HBEL3.out.size))).env.maxLen
  go_wp2_with fail
  refine (Tryz.strings_Cut ⟨(kindText x).toArray⟩ ⟨#[32]⟩ mm w4 (by
    show (kindText x).length < _
    have := HLN.out
    unfold kindText
    split <;> simp <;> omega) hmm).mono ?_
  rintro e w5 ⟨rfl, n5, hw5⟩
  have e1 : Lib.cut ((⟨(kindText x).toArray⟩ : ByteArray)).data.toList ((⟨#[32]⟩ : ByteArray)).data.toList = (x.1, x.2, !x.2.isEmpty) := HCT.out
  rw [e1]
  have hb45 : Below w4.heap.size w4 w5 := hw5 ▸ below_drewN (Below.refl _ _) n5
  have hbox : w5.heap[w3.heap.size]? = some (.cells #[.int .i64 k, .int .i64 0, .int .i64 0, .int .i64 0, .string ⟨#[]⟩, .string ⟨#[]⟩, .slice none 0 0, .slice none 0 0] 44 (0, 0)) := (hb45.block _ (heap_lt HBOX.out)).trans HBOX.out
  have hb35 : Below w3.heap.size w3 w5 := HB34.out.trans (hb45.mono (by omega))
  have hcap : w5.cell? ⟨w.heap.size + 1 + 1, 0, none⟩ = some (.slice (some ⟨w.heap.size + 1, 0, none⟩) N N) := (hb35.cell (p := ⟨w.heap.size + 1 + 1, 0, none⟩) (by show w.heap.size + 1 + 1 < _; omega)).trans HCAP3.out
  have HBOX5 := Lib.hid hbox; have HB35 := Lib.hid hb35
  have hz5 : w3.heap.size + 2 ≤ w5.heap.size := by have := hb45.size; omega
  clear e1 hw5 hb45 hbox hb35 hmm hkc hkc0 HB34 HBOX hz4
  have hnws : N = ws.length + 1 ∧ ws.length ≤ 100001 := by
    have h1 := HN.out
    have h2 := splitB_spl 32 s.size s (Nat.le_refl _)
    have h3 := Lib.countB_mul_le ⟨#[32]⟩ (by decide) s.size s (Nat.le_refl _)
    rw [HWS.out] at h2
    have h4 := h2.2
    have h5 : (⟨#[32]⟩ : ByteArray).size = 1 := rfl
    rw [h5, Nat.mul_one] at h3
    simp at h1 h4
    omega
  have hw64 : wrap64 ((N : Int) - 1) = (ws.length : Int) := by
    unfold wrap64; omega
  have HNW := Lib.hid hnws
  clear hnws
  have hres := HRES3.out
  have hres5 : w5.heap[w.heap.size]? = some (.cells #[.int .i64 0, .int .i64 0, .int .i64 0, .int .i64 0, .string ⟨#[]⟩, .string ⟨#[]⟩, .slice none 0 0, .slice none 0 0] 44 (0, 0)) := (HB35.out.block _ (heap_lt hres)).trans hres
  have HRES5 := Lib.hid hres5
  obtain ⟨⟨q0, q1, q2, q3, q4, q5, q6, q7⟩, fz⟩ := deed_cells hres5
  clear hres hres5
  by_cases hlen : x.2.length = ws.length
  · have HRS : Hid (R = setAll (deed0 k) x.2 ws) := by unfold Hid; rw [HRD.out, if_pos hlen]
    have HLEN := Lib.hid hlen
    rw [← hlen] at hw64
    clear hlen q0 q1 q2 q3 q4 q5 q6 q7 fz
    go_wp2_with fail
    have hI0 : DeedI w3 w5.heap.size w3.heap.size ⟨x.2.toArray⟩ 0 (deed0 k) (w5.iter ⟨x.2.toArray⟩ 0) := by
      have hbi : Below w5.heap.size w5 (w5.iter ⟨x.2.toArray⟩ 0) := (Below.refl _ _).alloc (Nat.le_refl _) _
      refine ⟨World.iter_heap _ _ _, ⟨none, 0, 0, none, 0, 0, (hbi.block _ (heap_lt HBOX5.out)).trans HBOX5.out, SlAt.nil _, SlAt.nil _⟩, HB35.out.trans (hbi.mono (by omega)), by omega, Nat.le_refl _⟩
    obtain ⟨W0, hW0⟩ : ∃ W0, w5.iter ⟨x.2.toArray⟩ 0 = W0 := ⟨_, rfl⟩
    obtain ⟨ib, hib⟩ : ∃ ib, w5.heap.size = ib := ⟨_, rfl⟩
    obtain ⟨db, hdb⟩ : ∃ db, w3.heap.size = db := ⟨_, rfl⟩
    have HDB := Lib.hid hdb
    rw [hW0, hib, hdb] at hI0
    rw [hW0, hib]
    simp only [hdb]
    have hi3 : db < ib := by omega
    clear hW0 hib hdb hz5 HBOX5 HRES5 HB35 hcap hw64
    go_loopw [] (fun wr => ∃ (j : Nat) (p : RDeed), j ≤ x.2.length ∧ Hid (setAll (deed0 k) x.2 ws = setAll p (x.2.drop j) (ws.drop j)) ∧ DeedI w3 ib db ⟨x.2.toArray⟩ j p wr) (fun wr => x.2.length - wr.iterPos ib)
    case atStart => exact ⟨0, deed0 k, Nat.zero_le _, rfl, hI0⟩
    case round =>
      clear hI0
      obtain ⟨j, p, hj, hset, hI⟩ := hrel
      have hw3 : w.heap.size + 4 ≤ w3.heap.size := hz3
      have hcap : wr.cell? ⟨w.heap.size + 1 + 1, 0, none⟩ = some (.slice (some ⟨w.heap.size + 1, 0, none⟩) N N) := (hI.bel.cell (p := ⟨w.heap.size + 1 + 1, 0, none⟩) (by show w.heap.size + 1 + 1 < _; omega)).trans HCAP3.out
      by_cases hlt : j < x.2.length
      · have hp : j < (⟨x.2.toArray⟩ : ByteArray).size := by simpa [ByteArray.size] using hlt
        have hget : (⟨x.2.toArray⟩ : ByteArray)[j] = x.2[j] := by simp [ByteArray.getElem_eq_getElem_data]
        have hasc := HLE.out _ (List.getElem_mem hlt)
        have hnx : ∀ ty, (Instr.next (.pointer (some ⟨ib, 0, none⟩)) true ty).run Tryz.prog wr = _ := fun ty => Lib.run_next_ascii_at wr ib ⟨x.2.toArray⟩ j ty hI.it hp (by rw [hget]; omega)
        rw [hget] at hnx
        have hI1 := hI.next (j + 1)
        have hcap1 : (wr.iterAt ib ⟨x.2.toArray⟩ (j + 1)).cell? ⟨w.heap.size + 1 + 1, 0, none⟩ = some (.slice (some ⟨w.heap.size + 1, 0, none⟩) N N) := (hI1.bel.cell (p := ⟨w.heap.size + 1 + 1, 0, none⟩) (by show w.heap.size + 1 + 1 < _; omega)).trans HCAP3.out
        obtain ⟨y, hy⟩ : ∃ y, ws[j]? = some y := ⟨ws[j]'(by have := HLEN.out; omega), by simp⟩
        have hrow1 : (wr.iterAt ib ⟨x.2.toArray⟩ (j + 1)).cell? ⟨w.heap.size + 1, j + 1, none⟩ = some (.string ⟨y.toArray⟩) := (hI1.bel.cell (p := ⟨w.heap.size + 1, j + 1, none⟩) (by show w.heap.size + 1 < _; omega)).trans (HROW3.out (j + 1) y (by simpa using hy))
        have hj1 : j + 1 < N := by have := HNW.out; have := HLEN.out; omega
        have hjs : j < 3 := by have := HLN.out; omega
        have HY := Lib.hid hy
        clear hy
        go_wp2_with fail
        have hyl : (⟨y.toArray⟩ : ByteArray).size ≤ 100000 := by
          have h1 := join_spl 32 s.data.toList
          rw [HWS.out] at h1
          rw [Lib.size_eq, ← h1] at hs
          have h2 : y.length ≤ (Lib.join (a :: ws) [32]).length := mem_join_len (List.mem_cons_of_mem _ (List.mem_of_getElem? HY.out))
          show y.length ≤ 100000
          omega
        have hbw : Below w.heap.size w (wr.iterAt ib ⟨x.2.toArray⟩ (j + 1)) := HBEL3.out.trans (hI1.bel.mono HBEL3.out.size)
        have HI1 := Lib.hid hI1
        have HIT := Lib.hid hI.it
        clear hI1 hI hcap hcap1 hrow1 hnx hget hasc
        refine (set_any db p x.2[j].toNat ⟨y.toArray⟩ _ hyl HI1.out.box (HE.out.below hbw)).mono ?_
        rw [show (⟨y.toArray⟩ : ByteArray).data.toList = y from rfl]
        rintro e w6 ⟨hn, hsm, hg6⟩
        have HSET : Hid (setAll p (x.2.drop j) (ws.drop j) = match setR p x.2[j].toNat y with
            | some q => setAll q (x.2.drop (j + 1)) (ws.drop (j + 1))
            | none => none) := by
          unfold Hid
          have e1 : x.2.drop j = x.2[j] :: x.2.drop (j + 1) := List.drop_eq_getElem_cons hlt
          have hjw : j < ws.length := (List.getElem?_eq_some_iff.1 HY.out).1
          have e2 : ws.drop j = y :: ws.drop (j + 1) := by
            rw [List.drop_eq_getElem_cons hjw]
            have := (List.getElem?_eq_some_iff.1 HY.out).2
            rw [this]
          rw [e1, e2, setAll]
        have hg6' : Below w.heap.size w w6 := hbw.grown hg6 hbw.size (fun q hq => by cases hq; have := HDB.out; omega)
        have HG6 := Lib.hid hg6'
        clear hg6' hbw hyl
        cases hv : setR p x.2[j].toNat y with
        | none =>
          obtain rfl := hn hv
          have HRN : Hid (R = none) := by unfold Hid; rw [HRS.out, hset.out, HSET.out, hv]
          have hr6 : w6.heap[w.heap.size]? = some (.cells #[.int .i64 0, .int .i64 0, .int .i64 0, .int .i64 0, .string ⟨#[]⟩, .string ⟨#[]⟩, .slice none 0 0, .slice none 0 0] 44 (0, 0)) :=
            (hg6.block _ (by have := HI1.out.bel.size; omega) (fun e => by have := HDB.out; simp at e; omega)).trans ((HI1.out.bel.block _ (by omega)).trans HRES3.out)
          have HR6 := Lib.hid hr6
          obtain ⟨⟨q0, q1, q2, q3, q4, q5, q6, q7⟩, fz⟩ := deed_cells hr6
          clear hr6 hv hn hsm hg6 hset HSET
          simp only [argV]
          go_wp2_with fail
          try simp only [Exit.inBlock, Exit.then]
          refine bodyPost_ret (ret_deed (deed_put8 HR6.out _ _ _ _ _ _ _ _) rfl rfl) rfl ?_
          exact ⟨fun _ => rfl, fun p hp => (by rw [HRN.out] at hp; cases hp), HG6.out.grown (grown_put8 _ _ _ _ _ _ _ _ _ _) HG6.out.size (fun q hq => by cases hq; exact Nat.le_refl _)⟩
        | some q =>
          obtain ⟨rfl, hdb⟩ := hsm q hv
          have HIQ := HI1.out.put hg6 hdb
          have HSQ : Hid (setAll (deed0 k) x.2 ws = setAll q (x.2.drop (j + 1)) (ws.drop (j + 1))) := by unfold Hid; rw [hset.out, HSET.out, hv]
          clear hv hn hsm hset HSET hdb
          go_wp2_with fail
          go_roundw
          case rel => exact ⟨j + 1, q, by omega, HSQ, HIQ⟩
          case measure =>
            simp only [World.iterPos, HIQ.it, HIT.out]
            omega
      · obtain rfl : j = x.2.length := by omega
        have hp : ¬ x.2.length < (⟨x.2.toArray⟩ : ByteArray).size := by simp [ByteArray.size]
        have hnx : ∀ ty, (Instr.next (.pointer (some ⟨ib, 0, none⟩)) true ty).run Tryz.prog wr = _ := fun ty => Lib.run_next_end_at wr ib ⟨x.2.toArray⟩ x.2.length ty hI.it hp
        have HRQ : Hid (R = some p) := by
          unfold Hid
          rw [HRS.out, hset.out, List.drop_length]
          rfl
        obtain ⟨A, n, c, A', n', c', h1, h2, h3⟩ := hI.box
        obtain ⟨⟨q0, q1, q2, q3, q4, q5, q6, q7⟩, fz⟩ := deed_cells h1
        have hr6 : wr.heap[w.heap.size]? = some (.cells #[.int .i64 0, .int .i64 0, .int .i64 0, .int .i64 0, .string ⟨#[]⟩, .string ⟨#[]⟩, .slice none 0 0, .slice none 0 0] 44 (0, 0)) :=
          (hI.bel.block _ (by omega)).trans HRES3.out
        obtain ⟨⟨p0, p1, p2, p3, p4, p5, p6, p7⟩, fz2⟩ := deed_cells hr6
        have HR6 := Lib.hid hr6; have H2 := Lib.hid h2; have H3 := Lib.hid h3
        have HBF := Lib.hid (HBEL3.out.trans (hI.bel.mono HBEL3.out.size))
        clear hr6 h1 h2 h3 hI hp hset
        go_wp2_with fail
        try simp only [Exit.inBlock, Exit.then]
        refine bodyPost_ret (ret_deed (deed_put8 HR6.out _ _ _ _ _ _ _ _) rfl rfl) rfl ?_
        refine ⟨fun h => (by rw [HRQ.out] at h; cases h), fun p' hp' => ?_, HBF.out.grown (grown_put8 _ _ _ _ _ _ _ _ _ _) HBF.out.size (fun q hq => by cases hq; exact Nat.le_refl _)⟩
        rw [HRQ.out] at hp'
        obtain rfl := Option.some.inj hp'
        exact ⟨A, n, c, A', n', c', rfl, H2.out.grown (grown_put8 _ _ _ _ _ _ _ _ _ _) (fun q hq => by cases hq; exact ⟨_, _, _, HR6.out, by decide, by decide⟩), H3.out.grown (grown_put8 _ _ _ _ _ _ _ _ _ _) (fun q hq => by cases hq; exact ⟨_, _, _, HR6.out, by decide, by decide⟩)⟩
  · have hne : (((x.2.length : Nat) : Int) != (ws.length : Int)) = true := by
      rw [bne_iff_ne]; omega
    have HRN : Hid (R = none) := by unfold Hid; rw [HRD.out, if_neg hlen]
    clear hlen
    go_wp2_with fail
    try simp only [Exit.inBlock, Exit.then]
    refine bodyPost_ret (ret_deed (deed_put8 HRES5.out _ _ _ _ _ _ _ _) rfl rfl) rfl ?_
    have hbf := HBEL3.out.trans (HB35.out.mono HBEL3.out.size)
    exact ⟨fun _ => rfl, fun p hp => (by rw [HRN.out] at hp; cases hp), hbf.grown (grown_put8 _ _ _ _ _ _ _ _ _ _) hbf.size (fun q hq => by cases hq; exact Nat.le_refl _)⟩
end Go.Proofs.YtcbdmaelgedbkaaGreatDoor
