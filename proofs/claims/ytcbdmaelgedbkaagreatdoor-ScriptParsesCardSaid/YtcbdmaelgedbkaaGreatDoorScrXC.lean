/- The walk of script.outcome: a line of 'ok'. -/
import Derived.Test.YtcbdmaelgedbkaaGreatDoorScrXB
import Derived.IntWalk
namespace Go.Proofs.YtcbdmaelgedbkaaGreatDoor
open Go.RowKit Go.Shelf

/-- In script.outcome: the result's box, the outcome's box, the words. -/
theorem mem_join_len {c : UInt8} : ∀ {xs : List (List UInt8)} {x : List UInt8}, x ∈ xs → x.length ≤ (Lib.join xs [c]).length
  | [y], x, h => by
    obtain rfl := List.mem_singleton.1 h
    rw [Lib.join_one]; exact Nat.le_refl _
  | y :: z :: r, x, h => by
    rw [join_two, List.length_append, List.length_cons]
    rcases List.mem_cons.1 h with rfl | h
    · omega
    · have := mem_join_len (c := c) h; omega
structure OutI (w : World) (ws : List (List UInt8)) (B ob : Nat) (c0 c1 c2 c3 : Value) (W : World) : Prop where
  res : W.heap[w.heap.size]? = some (.cells #[.int .i64 0, .int .i64 0, .string ⟨#[]⟩, .slice none 0 0] 27 (0, 0))
  o : W.heap[ob]? = some (.cells #[c0, c1, c2, c3] 27 (0, 0))
  words : ∀ j x, ws[j]? = some x → W.cell? ⟨B, j, none⟩ = some (.string ⟨x.toArray⟩)
  bel : Below w.heap.size w W
  lt : w.heap.size < B
  ltB : B < ob
theorem ownsRow_slice {w : World} {base : Nat} {e : TypeId} {size n : Nat} {v : Value} {xs : List Value} (h : w.ownsRow base e size v n xs) : ∃ A c, v = .slice A n c := by
  rcases h.2 with ⟨h1, h2⟩ | ⟨g, cap, cur, h1, -⟩
  · subst h2; exact ⟨none, 0, h1⟩
  · exact ⟨_, _, h1⟩
theorem grown_set (w : World) (g j : Nat) (u : Value) : w.grownBy (w.setCell ⟨g, j, none⟩ u) (some g) :=
  ⟨rfl, rfl, rfl, by simp [World.setCell], fun i _ hne => Below.heap_setCell _ _ _ _ (fun e => hne (by rw [e]))⟩
theorem rdS_setA {α : Type} {enc : α → Value} {w : World} {A : Option Addr} {n c : Nat} {xs : List α} (h : RdS enc w (.slice A n c) xs) {g : Nat} (hne : ∀ b o, A = some ⟨b, o, none⟩ → b ≠ g) (j : Nat) (u : Value) : RdS enc (w.setCell ⟨g, j, none⟩ u) (.slice A n c) xs := by
  rcases h with h | h | ⟨b', off', c', h1, h2, h3, h4⟩
  · exact .inl h
  · exact .inr (.inl h)
  · simp only [Value.slice.injEq] at h1
    obtain ⟨rfl, rfl, rfl⟩ := h1
    have hb := hne b' off' rfl
    refine .inr (.inr ⟨b', off', c, rfl, by simpa [World.setCell] using h2, h3, fun i x hx => ?_⟩)
    rw [World.cell?_setCell_other _ _ _ _ (fun e => hb (congrArg Addr.block e).symm)]
    exact h4 i x hx
theorem words4 (a b c d : List UInt8) (r : List (List UInt8)) (k : Nat) : (a :: b :: c :: d :: r)[4 + k]? = r[k]? := by rw [Nat.add_comm]; rfl
theorem OutI.obLt {w : World} {ws : List (List UInt8)} {B ob : Nat} {c0 c1 c2 c3 : Value} {W : World} (h : OutI w ws B ob c0 c1 c2 c3 W) : ob < W.heap.size := heap_lt h.o
theorem OutI.below {w : World} {ws : List (List UInt8)} {B ob : Nat} {c0 c1 c2 c3 : Value} {W W' : World} (h : OutI w ws B ob c0 c1 c2 c3 W) (hb : Below W.heap.size W W') : OutI w ws B ob c0 c1 c2 c3 W' where
  res := (hb.block _ (heap_lt h.res)).trans h.res
  o := (hb.block _ (heap_lt h.o)).trans h.o
  words := fun j x hj => (hb.cell (p := ⟨B, j, none⟩) (Nat.lt_trans h.ltB h.obLt)).trans (h.words j x hj)
  bel := h.bel.trans (hb.mono h.bel.size)
  lt := h.lt
  ltB := h.ltB
theorem OutI.grown {w : World} {ws : List (List UInt8)} {B ob : Nat} {c0 c1 c2 c3 : Value} {W W' : World} (h : OutI w ws B ob c0 c1 c2 c3 W) {row : Option Nat} (hg : W.grownBy W' row) (hr : ∀ q, row = some q → ob < q) : OutI w ws B ob c0 c1 c2 c3 W' where
  res := (hg.block _ (heap_lt h.res) (fun e => by have := hr _ e.symm; have := h.lt; have := h.ltB; omega)).trans h.res
  o := (hg.block _ (heap_lt h.o) (fun e => by have := hr _ e.symm; omega)).trans h.o
  words := fun j x hj => (World.cell?_of_block (a := ⟨B, j, none⟩) (hg.block _ (Nat.lt_trans h.ltB h.obLt) (fun e => by have := hr B e.symm; have := h.ltB; omega))).trans (h.words j x hj)
  bel := h.bel.grown hg h.bel.size (fun q hq => by have := hr _ hq; have := h.lt; have := h.ltB; omega)
  lt := h.lt
  ltB := h.ltB
theorem OutI.set {w : World} {ws : List (List UInt8)} {B ob : Nat} {c0 c1 c2 c3 d0 d1 d2 d3 : Value} {W : World} (h : OutI w ws B ob c0 c1 c2 c3 W) (j : Nat) (u : Value) (hj : (#[c0, c1, c2, c3] : Array Value).setIfInBounds j u = #[d0, d1, d2, d3]) : OutI w ws B ob d0 d1 d2 d3 (W.setCell ⟨ob, j, none⟩ u) where
  res := set_other h.res (by have := h.lt; have := h.ltB; omega) _ _
  o := by have := set_box h.o j u; rw [hj] at this; exact this
  words := fun i x hi => by
    rw [World.cell?_setCell_other _ _ _ _ (fun e => by have h1 : ob = B := congrArg Addr.block e; have := h.ltB; omega)]
    exact h.words i x hi
  bel := Below.setCell h.bel (by have := h.lt; have := h.ltB; simp; omega) _
  lt := h.lt
  ltB := h.ltB

set_option maxRecDepth 100000 in
set_option maxHeartbeats 8000000 in
theorem outcome_ok (s : ByteArray) (a b c d : List UInt8) (r : List (List UInt8)) (w : World) (hs : s.size ≤ 100000) (he : EnvT w) (hw : spl 32 s.data.toList = a :: b :: c :: d :: r) (ha : a = okL) :
    Calls Tryz.prog 19 #[.string s] w (OutP (out4 a b c d r) w) := by
  obtain ⟨i0, hi, hz0, hz1, hz2⟩ := info_parts info_str
  have HI := Lib.hid hi; have HZ0 := Lib.hid hz0; have HZ1 := Lib.hid hz1; have HZ2 := Lib.hid hz2; clear hi hz0 hz1 hz2
  have hlens : (∀ x ∈ a :: b :: c :: d :: r, x.length ≤ 100000) ∧ r.length + 4 ≤ 100001 := by
    have h1 := join_spl 32 s.data.toList
    rw [hw] at h1
    have h2 := splitB_spl 32 s.size s (Nat.le_refl _)
    have h3 := Lib.countB_mul_le ⟨#[32]⟩ (by decide) s.size s (Nat.le_refl _)
    rw [hw] at h2
    have h4 := h2.2
    refine ⟨fun x hx => ?_, ?_⟩
    · rw [Lib.size_eq, ← h1] at hs; exact Nat.le_trans (mem_join_len hx) hs
    · have h5 : (⟨#[32]⟩ : ByteArray).size = 1 := rfl
      rw [h5, Nat.mul_one] at h3
      simp only [List.length_cons] at h4
      omega
  obtain ⟨hlen, hrl⟩ := hlens
  obtain ⟨R, hR⟩ : ∃ R, out4 a b c d r = R := ⟨_, rfl⟩
  rw [hR]
  have hR2 : R = out4 okL b c d r := by rw [← hR, ha]
  have HLN := Lib.hid hlen
  have HLN2 : Hid (∀ x ∈ r, x.length ≤ 100000) := fun x hx => hlen x (by simp [hx])
  have HR := Lib.hid hR2; have HE := Lib.hid he; have HW := Lib.hid hw; have HA := Lib.hid ha
  obtain ⟨N, hN⟩ : ∃ N, (a :: b :: c :: d :: r).length = N := ⟨_, rfl⟩
  have hN' : N = r.length + 4 := by rw [← hN]; rfl
  have HN := Lib.hid hN
  have hN2 : ((N : Int) == 2) = false := by simp; omega
  have hN4 : (4 : Int) ≤ N := by omega
  have hN5 : 4 ≤ N := by omega
  have HNR := Lib.hid hN'
  clear hR hR2 he hw ha hN hN' hlen
  go_enter Tryz.func19, Tryz.ntmps19
  go_wp2_with fail
  refine (split_any s _ (by omega) (HE.out.env.below ((Below.refl _ _).alloc (Nat.le_refl _) _))).mono ?_
  rw [HW.out, HN.out]
  rintro e w1 ⟨rfl, hb1, hz1, hc1⟩
  simp only [World.size_alloc] at hz1 hc1 ⊢
  obtain ⟨B, hB⟩ : ∃ B, w.heap.size + 1 = B := ⟨_, rfl⟩
  rw [hB] at hz1 hc1 ⊢
  have hI0 : OutI w (a :: b :: c :: d :: r) B w1.heap.size (.int .i64 0) (.int .i64 0) (.string ⟨#[]⟩) (.slice none 0 0) (w1.alloc (.cells #[.int .i64 0, .int .i64 0, .string ⟨#[]⟩, .slice none 0 0] 27)) := by
    refine ⟨?_, heap_alloc_new _ _, fun j x hj => ?_, ?_, by omega, by omega⟩
    · rw [Below.heap_alloc _ _ _ (by omega)]
      exact (hb1.block _ (by simp)).trans (heap_alloc_new w _)
    · rw [World.cell?_alloc_lt _ _ ⟨B, j, none⟩ (by simp; omega)]; exact hc1 j x hj
    · exact (((Below.refl _ _).alloc (Nat.le_refl _) _).trans (hb1.mono (by simp))).alloc (by omega) _
  have q0 := hc1 0 a rfl
  have q1 := hc1 1 b rfl
  rw [HA.out] at q0
  simp only [okL] at q0
  obtain ⟨ob, hob⟩ : ∃ ob, w1.heap.size = ob := ⟨_, rfl⟩
  have hBob : B < ob := by omega
  have q1' := hI0.words 1 b rfl
  have HI0 := Lib.hid hI0
  have HOB := Lib.hid hob
  clear hc1 hz1 hb1 hI0 hB hob
  go_wp2_with fail
  rw [HOB.out]
  refine (number_any _ _ (by have := HLN.out b (by simp); simp [ByteArray.size]; omega) (HE.out.below HI0.out.bel)).mono ?_
  rw [show (⟨b.toArray⟩ : ByteArray).data.toList = b from rfl]
  rintro e w2 ⟨rfl, hb2⟩
  have hI1 := HI0.out.below hb2
  rw [HOB.out] at hI1
  clear hb2 q0 q1 q1' HI0
  cases hn : numR b with
  | none =>
    have HRN : Hid (R = none) := by unfold Hid; rw [HR.out]; unfold out4; rw [if_pos rfl, hn]
    obtain ⟨⟨c0, c1, c2, c3⟩, f0, f1, f2, f3⟩ := box4 hI1.res
    obtain ⟨⟨d0, d1, d2, d3⟩, g0, g1, g2, g3⟩ := box4 hI1.o
    have HB := Lib.hid hI1.bel
    have hne : ¬ ob = w.heap.size := by have := hI1.lt; omega
    have hne' : ¬ w.heap.size = ob := by omega
    have hlt : w.heap.size ≤ ob := by have := hI1.lt; omega
    clear hn hI1
    simp only [numV, argV]
    go_wp2_with fail
    refine bodyPost_ret (v := .tuple #[zOut, argV]) (by simp [results, Tryz.results19, go_sem, zOut, argV, c0, c1, c2, c3, f0, f1, f2, f3, hne, hne']) rfl ⟨fun _ => rfl, fun p hp => (by rw [HRN.out] at hp; cases hp), ?_⟩
    repeat (refine Below.setCell ?_ (by first | (simp; done) | (simp; omega)) _)
    exact HB.out
  | some n =>
    have HNI : Hid (I64 n) := (numR_some hn).2
    simp only [numV]
    obtain ⟨⟨d0, d1, d2, d3⟩, g0, g1, g2, g3⟩ := box4 hI1.o
    have q2 := hI1.words 2 c rfl
    have q2' := (hI1.set 1 (.int .i64 n) rfl).words 2 c rfl
    have hI2 := Lib.hid (hI1.set 1 (.int .i64 n) (d0 := .int .i64 0) (d1 := .int .i64 n) (d2 := .string ⟨#[]⟩) (d3 := .slice none 0 0) rfl)
    clear hI1
    go_wp2_with fail
    refine (text_any _ _ (by have := HLN.out c (by simp); simp [ByteArray.size]; omega)).mono ?_
    rw [show (⟨c.toArray⟩ : ByteArray).data.toList = c from rfl]
    rintro e w3 ⟨rfl, hb3⟩
    have hI3 := hI2.out.below hb3
    clear hb3 hI2 q2 q2' d0 d1 d2 d3 g0 g1 g2 g3
    cases ht : textR c with
    | none =>
      have HRN : Hid (R = none) := by unfold Hid; rw [HR.out]; unfold out4; rw [if_pos rfl, hn, ht]
      obtain ⟨⟨c0, c1, c2, c3⟩, f0, f1, f2, f3⟩ := box4 hI3.res
      obtain ⟨⟨d0, d1, d2, d3⟩, g0, g1, g2, g3⟩ := box4 hI3.o
      have HB := Lib.hid hI3.bel
      have hne : ¬ ob = w.heap.size := by have := hI3.lt; omega
      have hne' : ¬ w.heap.size = ob := by omega
      have hlt : w.heap.size ≤ ob := by have := hI3.lt; omega
      clear hn ht hI3
      simp only [textV, argV]
      go_wp2_with fail
      refine bodyPost_ret (v := .tuple #[zOut, argV]) (by simp [results, Tryz.results19, go_sem, zOut, argV, c0, c1, c2, c3, f0, f1, f2, f3, hne, hne']) rfl ⟨fun _ => rfl, fun p hp => (by rw [HRN.out] at hp; cases hp), ?_⟩
      repeat (refine Below.setCell ?_ (by first | (simp; done) | (simp; omega)) _)
      exact HB.out
    | some t =>
      simp only [textV]
      obtain ⟨⟨d0, d1, d2, d3⟩, g0, g1, g2, g3⟩ := box4 hI3.o
      have hI4' := hI3.set 2 (.string ⟨t.toArray⟩) (d0 := .int .i64 0) (d1 := .int .i64 n) (d2 := .string ⟨t.toArray⟩) (d3 := .slice none 0 0) rfl
      have q3 := hI4'.words 3 d rfl
      have hI4 := Lib.hid hI4'
      have hwr : IntKind.i64.wrap ((N : Int) - 4) = (r.length : Int) := by
        have := HNR.out
        rw [IntWalk.i64_in _ (by omega)]; omega
      have hr0 : (-9223372036854775808 : Int) ≤ (r.length : Int) := by omega
      have hr1 : (r.length : Int) ≤ 9223372036854775807 := by omega
      have h3N : (3 : Int) < (N : Int) := by omega
      have h30 : (0 : Int) ≤ 3 := by omega
      clear hI3 hI4'
      by_cases hd : d = Lib.itoa r.length
      case neg =>
        have HRN : Hid (R = none) := by unfold Hid; rw [HR.out]; unfold out4; rw [if_pos rfl, hn, ht]; simp only; rw [if_neg hd]
        have hdb : (!(d == Lib.itoa (r.length : Int))) = true := by simpa using hd
        have hdb2 : (d == Lib.itoa (r.length : Int)) = false := by simpa using hd
        have HD := Lib.hid hd; clear hd
        go_wp2_with fail
        go_region_held3 (fun w' => w'.cell? ⟨B, 3, none⟩ = some (.string ⟨d.toArray⟩)) (go_keep)
          (first
            | (go_at_call 30
               refine (itoa_any _ hr0 hr1 _ (HE.out.env.below (Below.drew hI4.out.bel))).mono ?_
               rintro e w4 ⟨rfl, hb4⟩
               have hI5 := hI4.out.below ((Below.drew (Below.refl _ _)).trans hb4)
               have q3' := hI5.words 3 d rfl))
        clear q3 q3' hb4 d0 d1 d2 d3 g0 g1 g2 g3 hwr
        have HI5 := Lib.hid hI5; clear hI5 hI4
        obtain ⟨⟨c0, c1, c2, c3⟩, f0, f1, f2, f3⟩ := box4 HI5.out.res
        obtain ⟨⟨d0, d1, d2, d3⟩, g0, g1, g2, g3⟩ := box4 HI5.out.o
        have HB := Lib.hid HI5.out.bel
        have hne : ¬ ob = w.heap.size := by have := HI5.out.lt; omega
        have hne' : ¬ w.heap.size = ob := by omega
        have hlt : w.heap.size ≤ ob := by have := HI5.out.lt; omega
        clear hn ht
        go_wp2_with fail
        refine bodyPost_ret (v := .tuple #[zOut, argV]) (by simp [results, Tryz.results19, go_sem, zOut, argV, c0, c1, c2, c3, f0, f1, f2, f3, hne, hne']) rfl ⟨fun _ => rfl, fun p hp => (by rw [HRN.out] at hp; cases hp), ?_⟩
        repeat (refine Below.setCell ?_ (by first | (simp; done) | (simp; omega)) _)
        exact HB.out
      have hdb : (!(d == Lib.itoa (r.length : Int))) = false := by simpa using hd
      have HRS : Hid (R = (textsR r).map fun ns => ⟨0, n, t, ns⟩) := by unfold Hid; rw [HR.out]; unfold out4; rw [if_pos rfl, hn, ht]; simp only; rw [if_pos hd]
      have hdb2 : (d == Lib.itoa (r.length : Int)) = true := by simpa using hd
      have HD := Lib.hid hd; clear hd
      go_wp2_with fail
      go_region_held3 (fun w' => w'.cell? ⟨B, 3, none⟩ = some (.string ⟨d.toArray⟩)) (go_keep)
        (first
          | (go_at_call 30
             refine (itoa_any _ hr0 hr1 _ (HE.out.env.below (Below.drew hI4.out.bel))).mono ?_
             rintro e w4 ⟨rfl, hb4⟩
             have hI5 := hI4.out.below ((Below.drew (Below.refl _ _)).trans hb4)
             have q3' := hI5.words 3 d rfl))
      clear q3 q3' hb4 d0 d1 d2 d3 g0 g1 g2 g3 hwr
      have HI5 := Lib.hid hI5; clear hI5 hI4
      have hltB := HI5.out.ltB
      have hobl := HI5.out.obLt
      have hlt : w.heap.size ≤ ob := by have := HI5.out.lt; omega
      have hne : ¬ ob = w.heap.size := by have := HI5.out.lt; omega
      have hne' : ¬ w.heap.size = ob := by omega
      clear hn ht HR HLN HW HA
      by_cases hr : r.length = 0
      · have hN44 : N = 4 := by have := HNR.out; omega
        subst hN44
        have HRN : Hid (R = some ⟨0, n, t, []⟩) := by unfold Hid; rw [HRS.out, List.eq_nil_of_length_eq_zero hr]; rfl
        obtain ⟨⟨c0, c1, c2, c3⟩, f0, f1, f2, f3⟩ := box4 HI5.out.res
        obtain ⟨⟨d0, d1, d2, d3⟩, g0, g1, g2, g3⟩ := box4 HI5.out.o
        have HB := Lib.hid HI5.out.bel
        go_wp2_with fail
        refine wp_loop_rounds 1 ?_
        rw [rounds_succ]
        go_wp2_with fail
        refine bodyPost_ret (v := .tuple #[.agg #[.int .i64 0, .int .i64 n, .string ⟨t.toArray⟩, .slice none 0 0], .nilIface]) (by simp [results, Tryz.results19, go_sem, c0, c1, c2, c3, f0, f1, f2, f3, hne, hne']) rfl ⟨fun hp => (by rw [HRN.out] at hp; cases hp), fun p hp => ?_, ?_⟩
        · rw [HRN.out] at hp
          obtain rfl := Option.some.inj hp
          exact ⟨_, _, _, rfl, NamesAt.nil _, by unfold I64; simp, HNI.out⟩
        · repeat (refine Below.setCell ?_ (by first | (simp; done) | (simp; omega)) _)
          exact HB.out
      have hN4' : ¬ N = 4 := by have := HNR.out; omega
      have hN4'' : 4 < N := by omega
      have hNsub : (N : Int) - 4 = (r.length : Int) := by have := HNR.out; omega
      have hNsubn : N - 4 = r.length := by have := HNR.out; omega
      go_wp2_with fail
      go_loopw [91] (fun i wr => ∃ (k : Nat) (ns : List (List UInt8)) (A : Option Addr) (cc : Nat), k ≤ r.length ∧ i = .int .i64 k ∧ Hid (textsR (r.take k) = some ns) ∧ ns.length = k ∧ OutI w (a :: b :: c :: d :: r) B ob (.int .i64 0) (.int .i64 n) (.string ⟨t.toArray⟩) (.slice A k cc) wr ∧ wr.ownsRow (ob + 1) 9 1 (.slice A k cc) k (ns.map encStr)) (fun i _ => r.length - (intOf i).toNat)
      case atStart => exact ⟨0, [], none, 0, Nat.zero_le _, rfl, rfl, rfl, HI5.out, World.ownsRow_nil _ _ _ _⟩
      case round =>
        clear HI5 hobl
        obtain ⟨k, ns, A, cc, hk, rfl, htx, hnl, hI, hown⟩ := hrel
        by_cases hlt2 : k < r.length
        · obtain ⟨x, hx⟩ : ∃ x, r[k]? = some x := ⟨r[k], by simp [hlt2]⟩
          have hcell := hI.words (4 + k) x (by rw [words4]; exact hx)
          have hxl := HLN2.out x (List.mem_of_getElem? hx)
          have HX := Lib.hid hx
          have HIk := Lib.hid hI
          have HNL := Lib.hid hnl
          clear hx hI hnl
          go_wp2_with fail
          refine (text_any _ _ (by simp [ByteArray.size]; omega)).mono ?_
          rw [show (⟨x.toArray⟩ : ByteArray).data.toList = x from rfl]
          rintro e w5 ⟨rfl, hb5⟩
          have hI6 := HIk.out.below hb5
          have hown5 := owns_below hown hb5
          clear HIk hown hb5 hcell
          cases hxt : textR x with
          | none =>
            have HRN : Hid (R = none) := by unfold Hid; rw [HRS.out, textsR_bad (List.mem_of_getElem? HX.out) hxt]; rfl
            obtain ⟨⟨c0, c1, c2, c3⟩, f0, f1, f2, f3⟩ := box4 hI6.res
            have HB := Lib.hid hI6.bel
            clear hxt hI6 hown5
            simp only [textV, argV]
            go_wp2_with fail
            refine bodyPost_ret (v := .tuple #[zOut, argV]) (by simp [results, Tryz.results19, go_sem, zOut, argV, c0, c1, c2, c3, f0, f1, f2, f3]) rfl ⟨fun _ => rfl, fun p hp => (by rw [HRN.out] at hp; cases hp), ?_⟩
            repeat (refine Below.setCell ?_ (by first | (simp; done) | (simp; omega)) _)
            exact HB.out
          | some u =>
            have HTX : Hid (textsR (r.take (k + 1)) = some (ns ++ [u])) := by
              unfold Hid
              rw [List.take_add_one, HX.out]
              exact textsR_snoc htx.out hxt
            obtain ⟨⟨d0, d1, d2, d3⟩, g0, g1, g2, g3⟩ := box4 hI6.o
            have hob5 := hI6.obLt
            have HI6 := Lib.hid hI6
            clear hxt hI6 htx
            simp only [textV]
            go_wp2_with (at_builtin; refine wpList_append_own _ rfl _ _ 25 rfl (ob + 1) 9 i0 _ 1 16 Tryz.underlying25 HI.out HZ0.out HZ1.out HZ2.out rfl (by decide) _ _ _ rfl (hown5.alloc _) ⟨w5.heap.size, 0, none⟩ 1 1 [encStr u] rfl rfl (cell_one_new _ _ _) (by simp [Value.oneCell', encStr]) (by unfold maxLen; omega) (by omega) (by simp; omega) ?_; intro v' w6 hown6 hgrow6 _; obtain ⟨g', cap', rfl, -, -⟩ := hown6.form (by omega); have hI7 := (HI6.out.below ((Below.refl _ _).alloc (Nat.le_refl _) _)).grown hgrow6 (fun q hq => by have := (hown5.lt q hq).1; omega); obtain ⟨⟨d0', d1', d2', d3'⟩, g0', g1', g2', g3'⟩ := box4 hI7.o; have HI7 := Lib.hid hI7; clear hI7)
            have hI8 := HI7.out.set 3 (.slice (some ⟨g', 0, none⟩) (k + 1) cap') (d0 := .int .i64 0) (d1 := .int .i64 n) (d2 := .string ⟨t.toArray⟩) (d3 := .slice (some ⟨g', 0, none⟩) (k + 1) cap') rfl
            have hown8 : (w6.setCell ⟨ob, 3, none⟩ (.slice (some ⟨g', 0, none⟩) (k + 1) cap')).ownsRow (ob + 1) 9 1 (.slice (some ⟨g', 0, none⟩) (k + 1) cap') (k + 1) ((ns ++ [u]).map encStr) := by
              rw [List.map_append]
              exact hown6.kept (grown_set _ _ _ _) (.inr (fun e => by have := (hown6.lt ob e).1; omega))
            clear hown5 hown6 hgrow6 d0 d1 d2 d3 g0 g1 g2 g3 d0' d1' d2' d3' g0' g1' g2' g3'
            have HI8 := Lib.hid hI8; have HOWN8 := Lib.hid hown8; clear hI8 hown8 HI7 HI6
            go_wp2_with fail
            go_roundw
            case rel => exact ⟨k + 1, ns ++ [u], _, _, by omega, by go_num, HTX, by rw [List.length_append, HNL.out]; rfl, HI8.out, HOWN8.out⟩
            case measure => simp [intOf]; omega
        · obtain rfl : k = r.length := by omega
          rw [List.take_length] at htx
          have HRN : Hid (R = some ⟨0, n, t, ns⟩) := by unfold Hid; rw [HRS.out, htx.out]; rfl
          obtain ⟨⟨c0, c1, c2, c3⟩, f0, f1, f2, f3⟩ := box4 hI.res
          obtain ⟨⟨d0, d1, d2, d3⟩, g0, g1, g2, g3⟩ := box4 hI.o
          have HB := Lib.hid hI.bel
          have hrd : RdS encStr wr (.slice A r.length cc) ns := by
            rw [← hnl] at hown ⊢; exact rdS_of_owns hown
          have HRD := Lib.hid hrd
          have hst : Hid (∀ bb oo, A = some ⟨bb, oo, none⟩ → ∃ cs, wr.heap[bb]? = some (.cells cs 9 (0, 0))) := fun bb oo e => owns_block hown (by rw [e]; rfl)
          have hbl : Hid (∀ bb oo, A = some ⟨bb, oo, none⟩ → ob < bb) := fun bb oo e => by
            have := (hown.lt bb (by rw [e]; rfl)).1; omega
          clear hI hown hrd htx hnl
          go_wp2_with fail
          refine bodyPost_ret (v := .tuple #[.agg #[.int .i64 0, .int .i64 n, .string ⟨t.toArray⟩, .slice A r.length cc], .nilIface]) (by simp [results, Tryz.results19, go_sem, c0, c1, c2, c3, f0, f1, f2, f3, hne, hne']) rfl ⟨fun hp => (by rw [HRN.out] at hp; cases hp), fun p hp => ?_, ?_⟩
          · rw [HRN.out] at hp
            obtain rfl := Option.some.inj hp
            refine ⟨_, _, _, rfl, ?_⟩
            have hA : ∀ b o, A = some ⟨b, o, none⟩ → b ≠ w.heap.size := fun b o e => by have := hbl.out b o e; omega
            refine ⟨⟨_, _, _, rfl, rdS_setA (rdS_setA (rdS_setA (rdS_setA HRD.out hA _ _) hA _ _) hA _ _) hA _ _, fun b o e => ?_⟩, by unfold I64; simp, HNI.out⟩
            obtain ⟨cs, h4⟩ := hst.out b o e
            have hne2 := hA b o e
            exact ⟨cs, set_other (set_other (set_other (set_other h4 hne2 _ _) hne2 _ _) hne2 _ _) hne2 _ _⟩
          · repeat (refine Below.setCell ?_ (by first | (simp; done) | (simp; omega)) _)
            exact HB.out

theorem outW_bad {a : List UInt8} {r : List (List UInt8)} (h : (r.length = 1 ∧ a ≠ errorL) ∨ (r.length ≠ 1 ∧ r.length < 3) ∨ (3 ≤ r.length ∧ a ≠ okL)) : outW (a :: r) = none := by
  match r, h with
  | [], _ => rfl
  | [b], h => simp only [outW, out2]; rw [if_neg]; intro e; simp [e] at h
  | [b, c], _ => rfl
  | b :: c :: d :: r, h =>
    simp only [outW, out4]; rw [if_neg]; intro e; simp [e] at h; omega
theorem outcome_any (s : ByteArray) (w : World) (hs : s.size ≤ 100000) (he : EnvT w) :
    Calls Tryz.prog 19 #[.string s] w (OutP (outcomeR s.data.toList) w) := by
  have bad : ∀ a r, spl 32 s.data.toList = a :: r → ((r.length = 1 ∧ a ≠ errorL) ∨ (r.length ≠ 1 ∧ r.length < 3) ∨ (3 ≤ r.length ∧ a ≠ okL)) →
      Calls Tryz.prog 19 #[.string s] w (OutP (outcomeR s.data.toList) w) := fun a r hw h => by
    have hn : outcomeR s.data.toList = none := by unfold outcomeR; rw [hw]; exact outW_bad h
    rw [hn]
    exact (outcome_bad s a r w hs he hw h).mono fun e w' ⟨h1, h2⟩ => ⟨fun _ => h1, fun p hp => (by cases hp), h2⟩
  obtain ⟨a, r, hw⟩ := List.exists_cons_of_ne_nil (spl_ne 32 s.data.toList)
  match r, hw with
  | [], hw => exact bad a [] hw (.inr (.inl ⟨by simp, by simp⟩))
  | [b], hw =>
    by_cases ha : a = errorL
    · have := outcome_2 s a b w hs he hw ha
      unfold outcomeR; rw [hw]; exact this
    · exact bad a [b] hw (.inl ⟨rfl, ha⟩)
  | [b, c], hw => exact bad a _ hw (.inr (.inl ⟨by simp, by simp⟩))
  | b :: c :: d :: r, hw =>
    by_cases ha : a = okL
    · have := outcome_ok s a b c d r w hs he hw ha
      unfold outcomeR; rw [hw]; exact this
    · exact bad a _ hw (.inr (.inr ⟨by simp, ha⟩))
end Go.Proofs.YtcbdmaelgedbkaaGreatDoor
