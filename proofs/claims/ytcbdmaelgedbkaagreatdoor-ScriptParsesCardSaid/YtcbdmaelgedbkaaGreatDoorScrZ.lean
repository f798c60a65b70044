/- The walk of what script.Read reads each line by. -/
import Derived.Test.YtcbdmaelgedbkaaGreatDoorScrXC
import Derived.Test.YtcbdmaelgedbkaaGreatDoorScrY
namespace Go.Proofs.YtcbdmaelgedbkaaGreatDoor
open Go.RowKit Go.Shelf

def oCells4 (r : POut × Value) : List Value := [.int .i64 r.1.err, .int .i64 r.1.n, .string ⟨r.1.text.toArray⟩, r.2]
theorem info_out : (Tryz.prog.info? 27).map (fun i => (i.zero, i.size, i.bytes)) = some (some (.agg #[.int .i64 0, .int .i64 0, .string ⟨#[]⟩, .slice none 0 0]), 4, 56) := by kernel_rfl
theorem oflat_len (rs : List (POut × Value)) : (rs.flatMap oCells4).length = rs.length * 4 := by
  induction rs with
  | nil => rfl
  | cons d ds ih => rw [List.flatMap_cons, List.length_append, ih, List.length_cons]; simp [oCells4]; omega

/-- Between two lines of script.Read: what was read so far. -/
structure ReadJ (w0 : World) (cb : Nat) (pre : List POut) (W : World) : Prop where
  box : ∃ (A : Option Addr) (c : Nat) (rs : List (POut × Value)), W.heap[cb]? = some (.cells #[.slice A rs.length c] 22 (0, 0)) ∧ rs.map (·.1) = pre ∧
    W.ownsRow (cb + 1) 27 4 (.slice A rs.length c) rs.length (rs.flatMap oCells4) ∧ ∀ r ∈ rs, NamesAt W r.2 r.1.names ∧ I64 r.1.err ∧ I64 r.1.n
  bel : Below w0.heap.size w0 W
  env : EnvT w0
  lt : w0.heap.size ≤ cb

theorem ReadJ.drewN {w0 : World} {cb : Nat} {pre : List POut} {W : World} (h : ReadJ w0 cb pre W) (n : Nat) : ReadJ w0 cb pre (W.drewN n) := by
  obtain ⟨⟨A, c, rs, h1, h2, h3, h4⟩, h5, h6, h7⟩ := h
  have hb : Below W.heap.size W (W.drewN n) := below_drewN (Below.refl _ _) n
  exact ⟨⟨A, c, rs, h1, h2, owns_below h3 hb, fun r hr => ⟨(h4 r hr).1.below hb, (h4 r hr).2⟩⟩, h5.trans (hb.mono h5.size), h6, h7⟩
theorem ReadJ.below {w0 : World} {cb : Nat} {pre : List POut} {W W' : World} (h : ReadJ w0 cb pre W) (hb : Below W.heap.size W W') : ReadJ w0 cb pre W' := by
  obtain ⟨⟨A, c, rs, h1, h2, h3, h4⟩, h5, h6, h7⟩ := h
  exact ⟨⟨A, c, rs, (hb.block _ (heap_lt h1)).trans h1, h2, owns_below h3 hb, fun r hr => ⟨(h4 r hr).1.below hb, (h4 r hr).2⟩⟩, h5.trans (hb.mono h5.size), h6, h7⟩

theorem heap2 (w : World) (A B : Obj) : ((w.alloc A).alloc B).heap[w.heap.size]? = some A ∧ ((w.alloc A).alloc B).heap[w.heap.size + 1]? = some B := by
  have e1 : (w.alloc A).heap.size = w.heap.size + 1 := by simp
  refine ⟨?_, ?_⟩
  · rw [Below.heap_alloc _ _ _ (by omega)]; exact heap_alloc_new w A
  · rw [← e1]; exact heap_alloc_new _ B
/-- What the append and the store leave. -/
theorem readJ_put {w0 : World} {cb : Nat} {pre : List POut} {w1 w2 w3 : World} {A : Option Addr} {c : Nat} {rs : List (POut × Value)} {a : POut} {nv : Value} {g cap : Nat}
    (b1 : w1.heap[cb]? = some (.cells #[.slice A rs.length c] 22 (0, 0))) (b2 : rs.map (·.1) = pre) (b3 : w1.ownsRow (cb + 1) 27 4 (.slice A rs.length c) rs.length (rs.flatMap oCells4))
    (b4 : ∀ r ∈ rs, NamesAt w1 r.2 r.1.names ∧ I64 r.1.err ∧ I64 r.1.n) (h5 : Below w0.heap.size w0 w1) (h6 : EnvT w0) (h7 : w0.heap.size ≤ cb) (hb : Below w1.heap.size w1 w2) (hn : NamesAt w2 nv a.names) (ha : I64 a.err ∧ I64 a.n)
    (hown : w3.ownsRow (cb + 1) 27 4 (.slice (some ⟨g, 0, none⟩) (rs.length + 1) cap) (rs.length + 1) (rs.flatMap oCells4 ++ oCells4 (a, nv))) (hg : w2.grownBy w3 (Value.slice A rs.length c).ownBlock) :
    ReadJ w0 cb (pre ++ [a]) (w3.setCell ⟨cb, 0, none⟩ (.slice (some ⟨g, 0, none⟩) (rs.length + 1) cap)) := by
  have hc2 := (hb.block _ (heap_lt b1)).trans b1
  have b3' := owns_below b3 hb
  have hne : ∀ q, (Value.slice A rs.length c).ownBlock = some q → cb < q ∧ ∃ cur, w2.heap[q]? = some (.cells cur 27 (0, 0)) := fun q e => ⟨by have := (b3'.lt q e).1; omega, owns_block b3' e⟩
  have hcb : w3.heap[cb]? = some (.cells #[.slice A rs.length c] 22 (0, 0)) := (hg.block cb (heap_lt hc2) (fun e => by have := (hne cb e.symm).1; omega)).trans hc2
  have hB3 : Below w0.heap.size w0 w3 := (h5.trans (hb.mono h5.size)).grown hg (Nat.le_trans h5.size hb.size) (fun q hq => by have := (hne q hq).1; omega)
  have hstep : w3.grownBy (w3.setCell ⟨cb, 0, none⟩ (.slice (some ⟨g, 0, none⟩) (rs.length + 1) cap)) (some cb) := grown_set _ _ _ _
  have hnm : ∀ {v ns}, NamesAt w2 v ns → NamesAt (w3.setCell ⟨cb, 0, none⟩ (.slice (some ⟨g, 0, none⟩) (rs.length + 1) cap)) v ns := fun {v ns} h => by
    refine (h.grown hg fun q cs e h2 => ?_).grown hstep fun q cs e h2 => ?_
    · obtain ⟨cur, h3⟩ := (hne q e).2
      rw [h3] at h2; simp at h2
    · cases e
      rw [hcb] at h2; simp at h2
  have hB4 := Below.setCell (p := ⟨cb, 0, none⟩) hB3 h7 (.slice (some ⟨g, 0, none⟩) (rs.length + 1) cap)
  refine ⟨⟨some ⟨g, 0, none⟩, cap, rs ++ [(a, nv)], ?_, by simp [b2], ?_, ?_⟩, hB4, h6, h7⟩
  · have := set_box hcb 0 (.slice (some ⟨g, 0, none⟩) (rs.length + 1) cap)
    simpa using this
  · rw [List.length_append, List.flatMap_append]
    have e : [(a, nv)].flatMap oCells4 = oCells4 (a, nv) := by simp
    rw [e]
    exact hown.kept hstep (.inr (fun e => by have := (hown.lt cb e).1; omega))
  · intro r hr
    rcases List.mem_append.1 hr with hr | hr
    · exact ⟨hnm ((b4 r hr).1.below hb), (b4 r hr).2⟩
    · obtain rfl := List.mem_singleton.1 hr
      exact ⟨hnm hn, ha⟩
set_option maxRecDepth 100000 in
set_option maxHeartbeats 4000000 in
theorem read_each (w0 : World) (cb : Nat) (pre : List POut) (l : ByteArray) (W : World) (hl : l.size ≤ 4000) (hp : pre.length ≤ 1000) (hJ : ReadJ w0 cb pre W) :
    Calls Tryz.prog 18 #[.string l, .pointer (some ⟨cb, 0, none⟩)] W (EachP (ReadJ w0 cb) w0 w0.heap.size pre (outcomeR l.data.toList)) := by
  obtain ⟨i0, hi, hz0, hz1, hz2⟩ := info_parts info_out
  have HI := Lib.hid hi; have HZ0 := Lib.hid hz0; have HZ1 := Lib.hid hz1; have HZ2 := Lib.hid hz2; clear hi hz0 hz1 hz2
  have HJ := Lib.hid hJ; clear hJ
  obtain ⟨R, hR⟩ : ∃ R, outcomeR l.data.toList = R := ⟨_, rfl⟩
  rw [hR]
  have HR := Lib.hid hR; clear hR
  go_enter Tryz.func18, Tryz.ntmps18
  go_wp2_with fail
  refine (outcome_any l W (by omega) (HJ.out.env.below HJ.out.bel)).mono ?_
  rintro e w1 ⟨h1, h2, hb1⟩
  have HJ1 := Lib.hid (HJ.out.below hb1)
  rw [HR.out] at h1 h2
  clear HJ
  cases R with
  | none =>
    obtain rfl := h1 rfl
    obtain ⟨A, c, rs, b1, b2, b3, b4⟩ := HJ1.out.box
    have HB1 := Lib.hid b1; have HB3 := Lib.hid b3
    have hlen : rs.length ≤ 1000 := by rw [← b2] at hp; simpa using hp
    have hcb := heap_lt b1
    obtain ⟨d0, hf0⟩ : w1.cell? ⟨cb, 0, none⟩ = some (.slice A rs.length c) ∧ w1.frozen? ⟨cb, 0, none⟩ = false := ⟨by simp [World.cell?, b1], frozen_box b1 0⟩
    clear h1 h2 b1 b2 b3 b4
    simp only [zOut, argV]
    go_wp2_with (at_builtin; refine wpList_append_own _ rfl _ _ 22 rfl (cb + 1) 27 i0 _ 4 56 Tryz.underlying22 HI.out HZ0.out HZ1.out HZ2.out rfl (by decide) _ _ _ rfl ((HB3.out.alloc _).alloc _) ⟨w1.heap.size + 1, 0, none⟩ 1 1 [.int .i64 0, .int .i64 0, .string ⟨#[]⟩, .slice none 0 0] rfl rfl (World.news_of_block (heap2 w1 _ _).2) (by simp [Value.oneCell']) (by unfold maxLen; omega) (by omega) (by simp; omega) ?_; intro v' w6 hown6 hgrow6 _; obtain ⟨g', cap', rfl, hg', -⟩ := hown6.form (by omega); have hcb6 := (hgrow6.block cb (by simp; omega) (fun e => by have := (HB3.out.lt cb e.symm).1; omega)).trans ((Below.block (((Below.refl _ w1).alloc (Nat.le_refl _) _).alloc (by simp) _) cb hcb).trans HB1.out); obtain ⟨d0', hf0'⟩ : w6.cell? ⟨cb, 0, none⟩ = some (.slice A rs.length c) ∧ w6.frozen? ⟨cb, 0, none⟩ = false := ⟨by simp [World.cell?, hcb6], frozen_box hcb6 0⟩; clear hcb6)
    go_ret
    refine ⟨fun _ => ⟨rfl, ?_⟩, fun a ha => (by cases ha)⟩
    have hbe : Below w0.heap.size w0 ((w1.alloc (.cells #[.int .i64 0, .int .i64 0, .string ⟨#[]⟩, .slice none 0 0] 27)).alloc (.cells #[.int .i64 0, .int .i64 0, .string ⟨#[]⟩, .slice none 0 0] 27)) := (HJ1.out.bel.alloc HJ1.out.bel.size _).alloc (by have := HJ1.out.bel.size; simp; omega) _
    exact Below.setCell (hbe.grown hgrow6 hbe.size (fun q hq => by have := (HB3.out.lt q hq).1; have := HJ1.out.lt; omega)) HJ1.out.lt _
  | some a =>
    obtain ⟨A', n', c', rfl, hn, ha⟩ := h2 a rfl
    obtain ⟨A, c, rs, b1, b2, b3, b4⟩ := HJ1.out.box
    have HB1 := Lib.hid b1; have HB2 := Lib.hid b2; have HB3 := Lib.hid b3; have HB4 := Lib.hid b4; have HN := Lib.hid hn; have HA := Lib.hid ha
    have hlen : rs.length ≤ 1000 := by rw [← b2] at hp; simpa using hp
    have hcb := heap_lt b1
    obtain ⟨d0, hf0⟩ : w1.cell? ⟨cb, 0, none⟩ = some (.slice A rs.length c) ∧ w1.frozen? ⟨cb, 0, none⟩ = false := ⟨by simp [World.cell?, b1], frozen_box b1 0⟩
    clear h1 h2 b1 b2 b3 b4 hn ha
    go_wp2_with (at_builtin; refine wpList_append_own _ rfl _ _ 22 rfl (cb + 1) 27 i0 _ 4 56 Tryz.underlying22 HI.out HZ0.out HZ1.out HZ2.out rfl (by decide) _ _ _ rfl ((HB3.out.alloc _).alloc _) ⟨w1.heap.size + 1, 0, none⟩ 1 1 [.int .i64 a.err, .int .i64 a.n, .string ⟨a.text.toArray⟩, .slice A' n' c'] rfl rfl (World.news_of_block (heap2 w1 _ _).2) (by simp [Value.oneCell']) (by unfold maxLen; omega) (by omega) (by simp; omega) ?_; intro v' w6 hown6 hgrow6 _; obtain ⟨g', cap', rfl, hg', -⟩ := hown6.form (by omega); have hcb6 := (hgrow6.block cb (by simp; omega) (fun e => by have := (HB3.out.lt cb e.symm).1; omega)).trans ((Below.block (((Below.refl _ w1).alloc (Nat.le_refl _) _).alloc (by simp) _) cb hcb).trans HB1.out); obtain ⟨d0', hf0'⟩ : w6.cell? ⟨cb, 0, none⟩ = some (.slice A rs.length c) ∧ w6.frozen? ⟨cb, 0, none⟩ = false := ⟨by simp [World.cell?, hcb6], frozen_box hcb6 0⟩; clear hcb6)
    go_ret
    refine ⟨fun hn => (by cases hn), fun a' ha' => ⟨rfl, ?_⟩⟩
    obtain rfl := Option.some.inj ha'
    have hbe : Below w1.heap.size w1 ((w1.alloc (.cells #[.int .i64 a.err, .int .i64 a.n, .string ⟨a.text.toArray⟩, .slice A' n' c'] 27)).alloc (.cells #[.int .i64 a.err, .int .i64 a.n, .string ⟨a.text.toArray⟩, .slice A' n' c'] 27)) := ((Below.refl _ _).alloc (Nat.le_refl _) _).alloc (by simp) _
    exact readJ_put HB1.out HB2.out HB3.out HB4.out HJ1.out.bel HJ1.out.env HJ1.out.lt hbe (HN.out.below hbe) HA.out hown6 hgrow6
end Go.Proofs.YtcbdmaelgedbkaaGreatDoor
