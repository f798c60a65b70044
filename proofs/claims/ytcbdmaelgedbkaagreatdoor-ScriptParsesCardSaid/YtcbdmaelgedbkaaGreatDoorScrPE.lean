/- The walk of what script.Parse reads each line by. -/
import Derived.Test.YtcbdmaelgedbkaaGreatDoorScrPD
import Derived.Test.YtcbdmaelgedbkaaGreatDoorScrZ
namespace Go.Proofs.YtcbdmaelgedbkaaGreatDoor
open Go.RowKit Go.Shelf

def strip (d : RDeed) : RDeed := { d with bv := .slice none 0 0, kv := .slice none 0 0 }
theorem info_deed3 : (Tryz.prog.info? 44).map (fun i => (i.zero, i.size, i.bytes)) = some (some (.agg #[.int .i64 0, .int .i64 0, .int .i64 0, .int .i64 0, .string ⟨#[]⟩, .string ⟨#[]⟩, .slice none 0 0, .slice none 0 0]), 8, 112) := by kernel_rfl
/-- A deed of which the slices are read. -/
def DeedAt (W : World) (r : RDeed) : Prop := ∃ A n c A' n' c', r.bv = .slice A n c ∧ r.kv = .slice A' n' c' ∧ SlAt encB W A n c r.b ∧ SlAt encI W A' n' c' r.keep
theorem DeedAt.below {W W' : World} {r : RDeed} (h : DeedAt W r) (hb : Below W.heap.size W W') : DeedAt W' r := by
  obtain ⟨A, n, c, A', n', c', h1, h2, h3, h4⟩ := h
  exact ⟨A, n, c, A', n', c', h1, h2, h3.below hb, h4.below hb⟩
theorem DeedAt.grown {w w' : World} {r : RDeed} (h : DeedAt w r) {row : Option Nat} (hg : w.grownBy w' row) (hr : ∀ q, row = some q → ∃ cs t fz, w.heap[q]? = some (.cells cs t fz) ∧ t ≠ 5 ∧ t ≠ 3) : DeedAt w' r := by
  obtain ⟨A, n, c, A', n', c', h1, h2, h3, h4⟩ := h
  exact ⟨A, n, c, A', n', c', h1, h2, h3.grown hg hr, h4.grown hg hr⟩

/-- Between two lines of script.Parse: what was read so far. -/
structure ParseJ (w0 : World) (cb : Nat) (pre : List RDeed) (W : World) : Prop where
  box : ∃ (A : Option Addr) (c : Nat) (rs : List RDeed), W.heap[cb]? = some (.cells #[.slice A rs.length c] 33 (0, 0)) ∧ rs.map strip = pre ∧
    W.ownsRow (cb + 1) 44 8 (.slice A rs.length c) rs.length (rs.flatMap RDeed.cells) ∧ ∀ r ∈ rs, DeedAt W r
  bel : Below w0.heap.size w0 W
  env : EnvT w0
  lt : w0.heap.size ≤ cb
theorem ParseJ.below {w0 : World} {cb : Nat} {pre : List RDeed} {W W' : World} (h : ParseJ w0 cb pre W) (hb : Below W.heap.size W W') : ParseJ w0 cb pre W' := by
  obtain ⟨⟨A, c, rs, h1, h2, h3, h4⟩, h5, h6, h7⟩ := h
  exact ⟨⟨A, c, rs, (hb.block _ (heap_lt h1)).trans h1, h2, owns_below h3 hb, fun r hr => (h4 r hr).below hb⟩, h5.trans (hb.mono h5.size), h6, h7⟩
theorem ParseJ.drewN {w0 : World} {cb : Nat} {pre : List RDeed} {W : World} (h : ParseJ w0 cb pre W) (n : Nat) : ParseJ w0 cb pre (W.drewN n) := h.below (below_drewN (Below.refl _ _) n)
/-- What the append and the store leave. -/
theorem parseJ_put {w0 : World} {cb : Nat} {pre : List RDeed} {w1 w2 w3 : World} {A : Option Addr} {c : Nat} {rs : List RDeed} {a r : RDeed} {g cap : Nat}
    (b1 : w1.heap[cb]? = some (.cells #[.slice A rs.length c] 33 (0, 0))) (b2 : rs.map strip = pre) (b3 : w1.ownsRow (cb + 1) 44 8 (.slice A rs.length c) rs.length (rs.flatMap RDeed.cells))
    (b4 : ∀ r ∈ rs, DeedAt w1 r) (h5 : Below w0.heap.size w0 w1) (h6 : EnvT w0) (h7 : w0.heap.size ≤ cb) (hb : Below w1.heap.size w1 w2) (hn : DeedAt w2 r) (ha : strip r = a)
    (hown : w3.ownsRow (cb + 1) 44 8 (.slice (some ⟨g, 0, none⟩) (rs.length + 1) cap) (rs.length + 1) (rs.flatMap RDeed.cells ++ r.cells)) (hg : w2.grownBy w3 (Value.slice A rs.length c).ownBlock) :
    ParseJ w0 cb (pre ++ [a]) (w3.setCell ⟨cb, 0, none⟩ (.slice (some ⟨g, 0, none⟩) (rs.length + 1) cap)) := by
  have hc2 := (hb.block _ (heap_lt b1)).trans b1
  have b3' := owns_below b3 hb
  have hne : ∀ q, (Value.slice A rs.length c).ownBlock = some q → cb < q ∧ ∃ cur, w2.heap[q]? = some (.cells cur 44 (0, 0)) := fun q e => ⟨by have := (b3'.lt q e).1; omega, owns_block b3' e⟩
  have hcb : w3.heap[cb]? = some (.cells #[.slice A rs.length c] 33 (0, 0)) := (hg.block cb (heap_lt hc2) (fun e => by have := (hne cb e.symm).1; omega)).trans hc2
  have hB3 : Below w0.heap.size w0 w3 := (h5.trans (hb.mono h5.size)).grown hg (Nat.le_trans h5.size hb.size) (fun q hq => by have := (hne q hq).1; omega)
  have hstep : w3.grownBy (w3.setCell ⟨cb, 0, none⟩ (.slice (some ⟨g, 0, none⟩) (rs.length + 1) cap)) (some cb) := grown_set _ _ _ _
  have hnm : ∀ {d}, DeedAt w2 d → DeedAt (w3.setCell ⟨cb, 0, none⟩ (.slice (some ⟨g, 0, none⟩) (rs.length + 1) cap)) d := fun {d} h => by
    refine (h.grown hg fun q e => ?_).grown hstep fun q e => ?_
    · obtain ⟨cur, h3⟩ := (hne q e).2
      exact ⟨_, _, _, h3, by decide, by decide⟩
    · cases e
      exact ⟨_, _, _, hcb, by decide, by decide⟩
  have hB4 := Below.setCell (p := ⟨cb, 0, none⟩) hB3 h7 (.slice (some ⟨g, 0, none⟩) (rs.length + 1) cap)
  refine ⟨⟨some ⟨g, 0, none⟩, cap, rs ++ [r], ?_, by simp [b2, ha], ?_, ?_⟩, hB4, h6, h7⟩
  · have := set_box hcb 0 (.slice (some ⟨g, 0, none⟩) (rs.length + 1) cap)
    simpa using this
  · rw [List.length_append, List.flatMap_append]
    have e : [r].flatMap RDeed.cells = r.cells := by simp
    rw [e]
    exact hown.kept hstep (.inr (fun e => by have := (hown.lt cb e).1; omega))
  · intro d hd
    rcases List.mem_append.1 hd with hd | hd
    · exact hnm ((b4 d hd).below hb)
    · obtain rfl := List.mem_singleton.1 hd
      exact hnm hn
theorem setR_strip {p q : RDeed} {c : Int} {x : List UInt8} (h : setR p c x = some q) (hp : strip p = p) : strip q = q := by
  have hb : p.bv = .slice none 0 0 := by rw [← hp]; rfl
  have hk : p.kv = .slice none 0 0 := by rw [← hp]; rfl
  have hq : q.bv = p.bv ∧ q.kv = p.kv := by
    unfold setR at h
    repeat' split at h
    all_goals
      simp only [Option.map_eq_some_iff] at h
      obtain ⟨t, -, rfl⟩ := h
      exact ⟨rfl, rfl⟩
  unfold strip
  obtain ⟨h1, h2⟩ := hq
  rw [hb] at h1; rw [hk] at h2
  cases q
  simp only at h1 h2
  subst h1 h2
  rfl
theorem setAll_strip : ∀ {l : List UInt8} {ws : List (List UInt8)} {p q : RDeed}, setAll p l ws = some q → strip p = p → strip q = q
  | [], _, p, q, h, hp => by simp only [setAll, Option.some.injEq] at h; rw [← h]; exact hp
  | c :: l, [], p, q, h, hp => by simp only [setAll, Option.some.injEq] at h; rw [← h]; exact hp
  | c :: l, x :: ws, p, q, h, hp => by
    rw [setAll] at h
    cases hv : setR p c.toNat x with
    | none => rw [hv] at h; cases h
    | some r =>
      rw [hv] at h
      exact setAll_strip h (setR_strip hv hp)
theorem deedR_strip {l : List UInt8} {p : RDeed} (h : deedR l = some p) : strip p = p := by
  unfold deedR at h
  cases hw : spl 32 l with
  | nil => rw [hw] at h; cases h
  | cons a ws =>
    rw [hw] at h
    simp only [deedS, deedW] at h
    cases hk : kindOf a with
    | none => rw [hk] at h; cases h
    | some k =>
      rw [hk] at h
      simp only at h
      cases hx : kindsT[k]? with
      | none => rw [hx] at h; cases h
      | some x =>
        rw [hx] at h
        simp only at h
        split at h
        · exact setAll_strip h rfl
        · cases h
set_option maxRecDepth 100000 in
set_option maxHeartbeats 4000000 in
theorem parse_each (w0 : World) (cb : Nat) (pre : List RDeed) (l : ByteArray) (W : World) (hl : l.size ≤ 4000) (hp : pre.length ≤ 1000) (hJ : ParseJ w0 cb pre W) :
    Calls Tryz.prog 21 #[.string l, .pointer (some ⟨cb, 0, none⟩)] W (EachP (ParseJ w0 cb) w0 w0.heap.size pre (deedR l.data.toList)) := by
  obtain ⟨i0, hi, hz0, hz1, hz2⟩ := info_parts info_deed3
  have HI := Lib.hid hi; have HZ0 := Lib.hid hz0; have HZ1 := Lib.hid hz1; have HZ2 := Lib.hid hz2; clear hi hz0 hz1 hz2
  have HJ := Lib.hid hJ; clear hJ
  obtain ⟨R, hR⟩ : ∃ R, deedR l.data.toList = R := ⟨_, rfl⟩
  rw [hR]
  have hstr : ∀ a, R = some a → strip a = a := fun a h => deedR_strip (hR.trans h)
  have HSTR := Lib.hid hstr; clear hstr
  have HR := Lib.hid hR; clear hR
  go_enter Tryz.func21, Tryz.ntmps21
  go_wp2_with fail
  refine (deed_any l W (by omega) (HJ.out.env.below HJ.out.bel)).mono ?_
  rintro e w1 ⟨h1, h2, hb1⟩
  have HJ1 := Lib.hid (HJ.out.below hb1)
  rw [HR.out] at h1 h2
  clear HJ
  cases R with
  | none =>
    obtain rfl := h1 rfl
    obtain ⟨A, c, rs, b1, b2, b3, b4⟩ := HJ1.out.box
    have HB1 := Lib.hid b1; have HB3 := Lib.hid b3
    have hlen : rs.length ≤ 1000 := by rw [← b2] at hp; simpa using hp
    have hcb := heap_lt b1
    obtain ⟨d0, hf0⟩ : w1.cell? ⟨cb, 0, none⟩ = some (.slice A rs.length c) ∧ w1.frozen? ⟨cb, 0, none⟩ = false := ⟨by simp [World.cell?, b1], frozen_box b1 0⟩
    clear h1 h2 b1 b2 b3 b4
    simp only [argV]
    go_wp2_with (at_builtin; refine wpList_append_own _ rfl _ _ 33 rfl (cb + 1) 44 i0 _ 8 112 Tryz.underlying33 HI.out HZ0.out HZ1.out HZ2.out rfl (by decide) _ _ _ rfl ((HB3.out.alloc _).alloc _) ⟨w1.heap.size + 1, 0, none⟩ 1 1 [.int .i64 0, .int .i64 0, .int .i64 0, .int .i64 0, .string ⟨#[]⟩, .string ⟨#[]⟩, .slice none 0 0, .slice none 0 0] rfl rfl (World.news_of_block (heap2 w1 _ _).2) (by simp [Value.oneCell']) (by unfold maxLen; omega) (by omega) (by simp; omega) ?_; intro v' w6 hown6 hgrow6 _; obtain ⟨g', cap', rfl, hg', -⟩ := hown6.form (by omega); have hcb6 := (hgrow6.block cb (by simp; omega) (fun e => by have := (HB3.out.lt cb e.symm).1; omega)).trans ((Below.block (((Below.refl _ w1).alloc (Nat.le_refl _) _).alloc (by simp) _) cb hcb).trans HB1.out); obtain ⟨d0', hf0'⟩ : w6.cell? ⟨cb, 0, none⟩ = some (.slice A rs.length c) ∧ w6.frozen? ⟨cb, 0, none⟩ = false := ⟨by simp [World.cell?, hcb6], frozen_box hcb6 0⟩; clear hcb6)
    go_ret
    refine ⟨fun _ => ⟨rfl, ?_⟩, fun a ha => (by cases ha)⟩
    have hbe : Below w0.heap.size w0 ((w1.alloc (.cells #[.int .i64 0, .int .i64 0, .int .i64 0, .int .i64 0, .string ⟨#[]⟩, .string ⟨#[]⟩, .slice none 0 0, .slice none 0 0] 44)).alloc (.cells #[.int .i64 0, .int .i64 0, .int .i64 0, .int .i64 0, .string ⟨#[]⟩, .string ⟨#[]⟩, .slice none 0 0, .slice none 0 0] 44)) := (HJ1.out.bel.alloc HJ1.out.bel.size _).alloc (by have := HJ1.out.bel.size; simp; omega) _
    exact Below.setCell (hbe.grown hgrow6 hbe.size (fun q hq => by have := (HB3.out.lt q hq).1; have := HJ1.out.lt; omega)) HJ1.out.lt _
  | some a =>
    obtain ⟨A', n', c', A2, n2, c2, rfl, hn, ha⟩ := h2 a rfl
    obtain ⟨A, c, rs, b1, b2, b3, b4⟩ := HJ1.out.box
    have HB1 := Lib.hid b1; have HB2 := Lib.hid b2; have HB3 := Lib.hid b3; have HB4 := Lib.hid b4; have HN := Lib.hid hn; have HA := Lib.hid ha
    have HST : Hid (strip { a with bv := .slice A' n' c', kv := .slice A2 n2 c2 } = a) := (show strip { a with bv := .slice A' n' c', kv := .slice A2 n2 c2 } = strip a from rfl).trans (HSTR.out a rfl)
    have hlen : rs.length ≤ 1000 := by rw [← b2] at hp; simpa using hp
    have hcb := heap_lt b1
    obtain ⟨d0, hf0⟩ : w1.cell? ⟨cb, 0, none⟩ = some (.slice A rs.length c) ∧ w1.frozen? ⟨cb, 0, none⟩ = false := ⟨by simp [World.cell?, b1], frozen_box b1 0⟩
    clear h1 h2 b1 b2 b3 b4 hn ha
    go_wp2_with (at_builtin; refine wpList_append_own _ rfl _ _ 33 rfl (cb + 1) 44 i0 _ 8 112 Tryz.underlying33 HI.out HZ0.out HZ1.out HZ2.out rfl (by decide) _ _ _ rfl ((HB3.out.alloc _).alloc _) ⟨w1.heap.size + 1, 0, none⟩ 1 1 [.int .i64 a.kind, .int .i64 a.n, .int .i64 a.m, .int .i64 a.k, .string a.path, .string a.as_, .slice A' n' c', .slice A2 n2 c2] rfl rfl (World.news_of_block (heap2 w1 _ _).2) (by simp [Value.oneCell']) (by unfold maxLen; omega) (by omega) (by simp; omega) ?_; intro v' w6 hown6 hgrow6 _; obtain ⟨g', cap', rfl, hg', -⟩ := hown6.form (by omega); have hcb6 := (hgrow6.block cb (by simp; omega) (fun e => by have := (HB3.out.lt cb e.symm).1; omega)).trans ((Below.block (((Below.refl _ w1).alloc (Nat.le_refl _) _).alloc (by simp) _) cb hcb).trans HB1.out); obtain ⟨d0', hf0'⟩ : w6.cell? ⟨cb, 0, none⟩ = some (.slice A rs.length c) ∧ w6.frozen? ⟨cb, 0, none⟩ = false := ⟨by simp [World.cell?, hcb6], frozen_box hcb6 0⟩; clear hcb6)
    go_ret
    refine ⟨fun hn => (by cases hn), fun a' ha' => ⟨rfl, ?_⟩⟩
    obtain rfl := Option.some.inj ha'
    have hbe : Below w1.heap.size w1 ((w1.alloc (.cells #[.int .i64 a.kind, .int .i64 a.n, .int .i64 a.m, .int .i64 a.k, .string a.path, .string a.as_, .slice A' n' c', .slice A2 n2 c2] 44)).alloc (.cells #[.int .i64 a.kind, .int .i64 a.n, .int .i64 a.m, .int .i64 a.k, .string a.path, .string a.as_, .slice A' n' c', .slice A2 n2 c2] 44)) := ((Below.refl _ _).alloc (Nat.le_refl _) _).alloc (by simp) _
    exact parseJ_put (r := { a with bv := .slice A' n' c', kv := .slice A2 n2 c2 }) HB1.out HB2.out HB3.out HB4.out HJ1.out.bel HJ1.out.env HJ1.out.lt hbe ⟨_, _, _, _, _, _, rfl, rfl, HN.out.below hbe, HA.out.below hbe⟩ HST.out hown6 hgrow6
end Go.Proofs.YtcbdmaelgedbkaaGreatDoor
