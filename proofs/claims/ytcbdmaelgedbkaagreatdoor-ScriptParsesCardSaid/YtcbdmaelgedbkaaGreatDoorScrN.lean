/- Walks of the reference's Only, Same. -/
import Derived.Test.YtcbdmaelgedbkaaGreatDoorScrM
namespace Go.Proofs.YtcbdmaelgedbkaaGreatDoor
open Go.RowKit Go.Shelf

/-- A deed with just the fields of a list. -/
def onlyTo (d : RDeed) (l : List Int) : RDeed where
  kind := d.kind
  n := if 3 ∈ l then d.n else 0
  m := if 4 ∈ l then d.m else 0
  k := if 5 ∈ l then d.k else 0
  path := if 1 ∈ l then d.path else ⟨#[]⟩
  as_ := if 2 ∈ l then d.as_ else ⟨#[]⟩
  bv := if 6 ∈ l then d.bv else .slice none 0 0
  kv := if 7 ∈ l then d.kv else .slice none 0 0
  b := if 6 ∈ l then d.b else []
  keep := if 7 ∈ l then d.keep else []
def onlyD (d : RDeed) : RDeed := onlyTo d (hasL d.kind.toNat)
theorem has_range : ∀ k, ∀ z ∈ hasL k, 1 ≤ z ∧ z ≤ 7 := by
  intro k
  by_cases h : k < 26
  · exact (show ∀ k : Fin 26, ∀ z ∈ hasL k.val, 1 ≤ z ∧ z ≤ 7 by decide +kernel) ⟨k, h⟩
  · unfold hasL
    rw [List.getElem?_eq_none (by simp [hasT]; omega)]
    intro z hz; simp at hz
theorem has_len : ∀ k, (hasL k).length ≤ 3 := by
  intro k
  by_cases h : k < 26
  · exact (show ∀ k : Fin 26, (hasL k.val).length ≤ 3 by decide +kernel) ⟨k, h⟩
  · unfold hasL
    rw [List.getElem?_eq_none (by simp [hasT]; omega)]
    simp
theorem set_box {w : World} {b : Nat} {cs : Array Value} {t : TypeId} (h : w.heap[b]? = some (.cells cs t (0, 0))) (j : Nat) (u : Value) : (w.setCell ⟨b, j, none⟩ u).heap[b]? = some (.cells (cs.setIfInBounds j u) t (0, 0)) := by
  simp [World.setCell, Array.getElem?_modify, h]
theorem set_other {w : World} {b c : Nat} {o : Obj} (h : w.heap[c]? = some o) (hne : c ≠ b) (j : Nat) (u : Value) : (w.setCell ⟨b, j, none⟩ u).heap[c]? = some o := by
  rw [Below.heap_setCell _ _ _ _ hne]; exact h
theorem frozen_box {w : World} {b : Nat} {cs : Array Value} {t : TypeId} (h : w.heap[b]? = some (.cells cs t (0, 0))) (j : Nat) : w.frozen? ⟨b, j, none⟩ = false := by
  simp [World.frozen?, h]

/-- The cells of a deed with just the fields of a list. -/
def oCells (kk : Nat) (n m k : Int) (path as_ : ByteArray) (ab : Option Addr) (nb cb : Nat) (ak : Option Addr) (nk ck : Nat) (l : List Int) : Array Value :=
  #[.int .i64 kk, .int .i64 (if 3 ∈ l then n else 0), .int .i64 (if 4 ∈ l then m else 0), .int .i64 (if 5 ∈ l then k else 0), .string (if 1 ∈ l then path else ⟨#[]⟩), .string (if 2 ∈ l then as_ else ⟨#[]⟩),
    .slice (if 6 ∈ l then ab else none) (if 6 ∈ l then nb else 0) (if 6 ∈ l then cb else 0), .slice (if 7 ∈ l then ak else none) (if 7 ∈ l then nk else 0) (if 7 ∈ l then ck else 0)]
section
variable (kk : Nat) (n m k : Int) (path as_ : ByteArray) (ab : Option Addr) (nb cb : Nat) (ak : Option Addr) (nk ck : Nat) (l : List Int)
theorem oCells_1 : oCells kk n m k path as_ ab nb cb ak nk ck (l ++ [1]) = (oCells kk n m k path as_ ab nb cb ak nk ck l).setIfInBounds 4 (.string path) := by simp [oCells]
theorem oCells_2 : oCells kk n m k path as_ ab nb cb ak nk ck (l ++ [2]) = (oCells kk n m k path as_ ab nb cb ak nk ck l).setIfInBounds 5 (.string as_) := by simp [oCells]
theorem oCells_3 : oCells kk n m k path as_ ab nb cb ak nk ck (l ++ [3]) = (oCells kk n m k path as_ ab nb cb ak nk ck l).setIfInBounds 1 (.int .i64 n) := by simp [oCells]
theorem oCells_4 : oCells kk n m k path as_ ab nb cb ak nk ck (l ++ [4]) = (oCells kk n m k path as_ ab nb cb ak nk ck l).setIfInBounds 2 (.int .i64 m) := by simp [oCells]
theorem oCells_5 : oCells kk n m k path as_ ab nb cb ak nk ck (l ++ [5]) = (oCells kk n m k path as_ ab nb cb ak nk ck l).setIfInBounds 3 (.int .i64 k) := by simp [oCells]
theorem oCells_6 : oCells kk n m k path as_ ab nb cb ak nk ck (l ++ [6]) = (oCells kk n m k path as_ ab nb cb ak nk ck l).setIfInBounds 6 (.slice ab nb cb) := by simp [oCells]
theorem oCells_7 : oCells kk n m k path as_ ab nb cb ak nk ck (l ++ [7]) = (oCells kk n m k path as_ ab nb cb ak nk ck l).setIfInBounds 7 (.slice ak nk ck) := by simp [oCells]
end
theorem rdS_set {α : Type} {enc : α → Value} {w : World} {b : Nat} {off n c : Nat} {xs : List α} (h : RdS enc w (.slice (some ⟨b, off, none⟩) n c) xs) {g : Nat} (hne : b ≠ g) (j : Nat) (u : Value) : RdS enc (w.setCell ⟨g, j, none⟩ u) (.slice (some ⟨b, off, none⟩) n c) xs := by
  rcases h with h | h | ⟨b', off', c', h1, h2, h3, h4⟩
  · exact .inl h
  · exact .inr (.inl h)
  · simp only [Value.slice.injEq, Option.some.injEq, Addr.mk.injEq, and_true] at h1
    obtain ⟨⟨rfl, rfl⟩, rfl, rfl⟩ := h1
    refine .inr (.inr ⟨b, off, c, rfl, by simpa [World.setCell] using h2, h3, fun i x hx => ?_⟩)
    rw [World.cell?_setCell_other _ _ _ _ (fun e => hne (congrArg Addr.block e).symm)]
    exact h4 i x hx
theorem heap3 (w : World) (A B C : Obj) : (((w.alloc A).alloc B).alloc C).heap[w.heap.size]? = some A ∧ (((w.alloc A).alloc B).alloc C).heap[w.heap.size + 1]? = some B ∧ (((w.alloc A).alloc B).alloc C).heap[w.heap.size + 1 + 1]? = some C := by
  have e1 : (w.alloc A).heap.size = w.heap.size + 1 := by simp
  have e2 : ((w.alloc A).alloc B).heap.size = w.heap.size + 1 + 1 := by simp
  refine ⟨?_, ?_, ?_⟩
  · rw [Below.heap_alloc _ _ _ (by omega), Below.heap_alloc _ _ _ (by omega)]; exact heap_alloc_new w A
  · rw [Below.heap_alloc _ _ _ (by omega), ← e1]; exact heap_alloc_new _ B
  · rw [← e2]; exact heap_alloc_new _ C
set_option maxRecDepth 100000 in
set_option maxHeartbeats 1000000 in
theorem only_core (kk : Nat) (n m k : Int) (path as_ : ByteArray) (ab : Option Addr) (nb cb : Nat) (ak : Option Addr) (nk ck : Nat) (w : World) (h1 : kk < 26) :
    Calls Tryz.prog 24 #[.agg #[.int .i64 kk, .int .i64 n, .int .i64 m, .int .i64 k, .string path, .string as_, .slice ab nb cb, .slice ak nk ck]] w fun e w' =>
      e = .returned (.agg (oCells kk n m k path as_ ab nb cb ak nk ck (hasL kk))) ∧ Below w.heap.size w w' := by
  have hrange := has_range kk
  have HR := Lib.hid hrange; clear hrange
  go_enter Tryz.func24, Tryz.ntmps24
  go_wp2_with fail
  refine (has_any kk h1 _).mono ?_
  rintro e w1 ⟨v, rfl, hr, hb1, hvb⟩
  obtain ⟨la, lc, rfl⟩ := rdS_len hr
  have hla : Hid (∀ b off, la = some ⟨b, off, none⟩ → b = w.heap.size + 3) := by
    intro b off e
    rcases hvb with h | ⟨n', c', h⟩
    · simp only [Value.slice.injEq] at h; rw [h.1] at e; cases e
    · simp only [Value.slice.injEq] at h
      rw [h.1] at e
      simp at e; omega
  clear hvb
  have hx0 : w1.heap[w.heap.size]? = some (.cells #[.int .i64 kk, .int .i64 n, .int .i64 m, .int .i64 k, .string path, .string as_, .slice ab nb cb, .slice ak nk ck] 44 (0, 0)) := (hb1.block _ (by rw [World.size_alloc, World.size_alloc, World.size_alloc]; omega)).trans (heap3 w _ _ _).1
  have hx1 : w1.heap[w.heap.size + 1]? = some (.cells #[.int .i64 0, .int .i64 0, .int .i64 0, .int .i64 0, .string ⟨#[]⟩, .string ⟨#[]⟩, .slice none 0 0, .slice none 0 0] 44 (0, 0)) := (hb1.block _ (by rw [World.size_alloc, World.size_alloc, World.size_alloc]; omega)).trans (heap3 w _ _ _).2.1
  have hx2 : w1.heap[w.heap.size + 1 + 1]? = some (.cells (oCells kk n m k path as_ ab nb cb ak nk ck []) 44 (0, 0)) := (hb1.block _ (by rw [World.size_alloc, World.size_alloc, World.size_alloc]; omega)).trans (heap3 w _ _ _).2.2
  have hbel : Below w.heap.size w w1 := (((((Below.refl _ w).alloc (Nat.le_refl _) _).alloc (by simp) _).alloc (by simp; omega) _)).trans (hb1.mono (by simp; omega))
  have hll := has_len kk
  obtain ⟨lh, hlh⟩ : ∃ lh, hasL kk = lh := ⟨_, rfl⟩
  rw [hlh] at hr HR hll ⊢
  have HLH := Lib.hid hlh; clear hlh
  have HX0 := Lib.hid hx0; have HX1 := Lib.hid hx1; have HX2 := Lib.hid hx2; have HRd := Lib.hid hr
  have HB := Lib.hid hbel
  clear hx0 hx1 hx2 hr hbel hb1
  go_wp2_with fail
  go_loopw [5] (fun i wr => ∃ j : Nat, j ≤ lh.length ∧ i = .int .i64 j ∧ RdS encI wr (.slice la lh.length lc) lh ∧ Hid (wr.heap[w.heap.size]? = some (.cells #[.int .i64 kk, .int .i64 n, .int .i64 m, .int .i64 k, .string path, .string as_, .slice ab nb cb, .slice ak nk ck] 44 (0, 0))) ∧ Hid (wr.heap[w.heap.size + 1]? = some (.cells #[.int .i64 0, .int .i64 0, .int .i64 0, .int .i64 0, .string ⟨#[]⟩, .string ⟨#[]⟩, .slice none 0 0, .slice none 0 0] 44 (0, 0))) ∧ Hid (wr.heap[w.heap.size + 1 + 1]? = some (.cells (oCells kk n m k path as_ ab nb cb ak nk ck (lh.take j)) 44 (0, 0))) ∧ Hid (Below w.heap.size w wr)) (fun i _ => lh.length - (intOf i).toNat)
  case atStart => exact ⟨0, Nat.zero_le _, rfl, HRd.out, HX0, HX1, HX2, HB⟩
  case round =>
    clear HX0 HX1 HX2 HRd HB
    obtain ⟨j, hj, rfl, hr, hx0, hx1, hx2, hbel⟩ := hrel
    by_cases hlt : j < lh.length
    · obtain ⟨z, hz⟩ : ∃ z, lh[j]? = some z := ⟨lh[j], by simp [hlt]⟩
      have hz17 := HR.out z (List.mem_of_getElem? hz)
      have HZ := Lib.hid hz
      obtain ⟨b, off, rfl, hcell⟩ : ∃ b off, la = some ⟨b, off, none⟩ ∧ wr.cell? ⟨b, off + j, none⟩ = some (.int .i64 z) := by
        rcases hr with ⟨h, h2⟩ | ⟨a, c, h, h2⟩ | ⟨b, off, c, h1, h2, h3, h4⟩
        · rw [h2] at hlt; simp at hlt
        · rw [h2] at hlt; simp at hlt
        · simp only [Value.slice.injEq] at h1
          exact ⟨b, off, h1.1, h4 j z hz⟩
      have hbc : b ≠ w.heap.size + 1 + 1 := by
        have := hla.out b off rfl; omega
      have hr' : Hid (RdS encI wr (.slice (some ⟨b, off, none⟩) lh.length lc) lh) := hr
      have htake : lh.take (j + 1) = lh.take j ++ [z] := by rw [List.take_add_one, hz]; rfl
      have HTK := Lib.hid htake
      have f0 := box_cells (d := ⟨kk, n, m, k, path, as_, .slice ab nb cb, .slice ak nk ck, [], []⟩) hx0.out
      obtain ⟨q0, q1, q2, q3, q4, q5, q6, q7⟩ := f0
      have fz : ∀ i, wr.frozen? ⟨w.heap.size + 1 + 1, i, none⟩ = false := fun i => frozen_box hx2.out i
      clear hr hz htake
      have hz7 : z = 1 ∨ z = 2 ∨ z = 3 ∨ z = 4 ∨ z = 5 ∨ z = 6 ∨ z = 7 := by omega
      clear hz17
      rcases hz7 with rfl | rfl | rfl | rfl | rfl | rfl | rfl
      · obtain ⟨cv, hcv⟩ : ∃ cv, wr.cell? ⟨w.heap.size + 1 + 1, 4, none⟩ = some cv := ⟨_, cell_of_row wr _ _ _ _ _ hx2.out⟩
        have fz := fz 4
        go_wp2_with fail
        go_roundw
        case rel =>
          refine ⟨j + 1, by omega, by go_num, rdS_set hr'.out hbc _ _, set_other hx0.out (by omega) _ _, set_other hx1.out (by omega) _ _, ?_, Below.setCell hbel.out (by simp; omega) _⟩
          unfold Hid
          rw [HTK.out, oCells_1]
          exact set_box hx2.out _ _
        case measure => simp [intOf]; omega
      · obtain ⟨cv, hcv⟩ : ∃ cv, wr.cell? ⟨w.heap.size + 1 + 1, 5, none⟩ = some cv := ⟨_, cell_of_row wr _ _ _ _ _ hx2.out⟩
        have fz := fz 5
        go_wp2_with fail
        go_roundw
        case rel =>
          refine ⟨j + 1, by omega, by go_num, rdS_set hr'.out hbc _ _, set_other hx0.out (by omega) _ _, set_other hx1.out (by omega) _ _, ?_, Below.setCell hbel.out (by simp; omega) _⟩
          unfold Hid
          rw [HTK.out, oCells_2]
          exact set_box hx2.out _ _
        case measure => simp [intOf]; omega
      · obtain ⟨cv, hcv⟩ : ∃ cv, wr.cell? ⟨w.heap.size + 1 + 1, 1, none⟩ = some cv := ⟨_, cell_of_row wr _ _ _ _ _ hx2.out⟩
        have fz := fz 1
        go_wp2_with fail
        go_roundw
        case rel =>
          refine ⟨j + 1, by omega, by go_num, rdS_set hr'.out hbc _ _, set_other hx0.out (by omega) _ _, set_other hx1.out (by omega) _ _, ?_, Below.setCell hbel.out (by simp; omega) _⟩
          unfold Hid
          rw [HTK.out, oCells_3]
          exact set_box hx2.out _ _
        case measure => simp [intOf]; omega
      · obtain ⟨cv, hcv⟩ : ∃ cv, wr.cell? ⟨w.heap.size + 1 + 1, 2, none⟩ = some cv := ⟨_, cell_of_row wr _ _ _ _ _ hx2.out⟩
        have fz := fz 2
        go_wp2_with fail
        go_roundw
        case rel =>
          refine ⟨j + 1, by omega, by go_num, rdS_set hr'.out hbc _ _, set_other hx0.out (by omega) _ _, set_other hx1.out (by omega) _ _, ?_, Below.setCell hbel.out (by simp; omega) _⟩
          unfold Hid
          rw [HTK.out, oCells_4]
          exact set_box hx2.out _ _
        case measure => simp [intOf]; omega
      · obtain ⟨cv, hcv⟩ : ∃ cv, wr.cell? ⟨w.heap.size + 1 + 1, 3, none⟩ = some cv := ⟨_, cell_of_row wr _ _ _ _ _ hx2.out⟩
        have fz := fz 3
        go_wp2_with fail
        go_roundw
        case rel =>
          refine ⟨j + 1, by omega, by go_num, rdS_set hr'.out hbc _ _, set_other hx0.out (by omega) _ _, set_other hx1.out (by omega) _ _, ?_, Below.setCell hbel.out (by simp; omega) _⟩
          unfold Hid
          rw [HTK.out, oCells_5]
          exact set_box hx2.out _ _
        case measure => simp [intOf]; omega
      · obtain ⟨cv, hcv⟩ : ∃ cv, wr.cell? ⟨w.heap.size + 1 + 1, 6, none⟩ = some cv := ⟨_, cell_of_row wr _ _ _ _ _ hx2.out⟩
        have fz := fz 6
        go_wp2_with fail
        go_roundw
        case rel =>
          refine ⟨j + 1, by omega, by go_num, rdS_set hr'.out hbc _ _, set_other hx0.out (by omega) _ _, set_other hx1.out (by omega) _ _, ?_, Below.setCell hbel.out (by simp; omega) _⟩
          unfold Hid
          rw [HTK.out, oCells_6]
          exact set_box hx2.out _ _
        case measure => simp [intOf]; omega
      · obtain ⟨cv, hcv⟩ : ∃ cv, wr.cell? ⟨w.heap.size + 1 + 1, 7, none⟩ = some cv := ⟨_, cell_of_row wr _ _ _ _ _ hx2.out⟩
        have fz := fz 7
        go_wp2_with fail
        go_roundw
        case rel =>
          refine ⟨j + 1, by omega, by go_num, rdS_set hr'.out hbc _ _, set_other hx0.out (by omega) _ _, set_other hx1.out (by omega) _ _, ?_, Below.setCell hbel.out (by simp; omega) _⟩
          unfold Hid
          rw [HTK.out, oCells_7]
          exact set_box hx2.out _ _
        case measure => simp [intOf]; omega
    · obtain rfl : j = lh.length := by omega
      rw [List.take_length] at hx2
      clear hr hj hlt
      obtain ⟨cs, hcs⟩ : ∃ cs, oCells kk n m k path as_ ab nb cb ak nk ck lh = cs := ⟨_, rfl⟩
      have hco := hcs
      unfold oCells at hco
      obtain ⟨n', hn'⟩ : ∃ n', (if 3 ∈ lh then n else 0) = n' := ⟨_, rfl⟩
      obtain ⟨m', hm'⟩ : ∃ n', (if 4 ∈ lh then m else 0) = n' := ⟨_, rfl⟩
      obtain ⟨k', hk'⟩ : ∃ n', (if 5 ∈ lh then k else 0) = n' := ⟨_, rfl⟩
      obtain ⟨p', hp'⟩ : ∃ n', (if 1 ∈ lh then path else ⟨#[]⟩) = n' := ⟨_, rfl⟩
      obtain ⟨s', hs'⟩ : ∃ n', (if 2 ∈ lh then as_ else ⟨#[]⟩) = n' := ⟨_, rfl⟩
      obtain ⟨a1, ha1⟩ : ∃ n', (if 6 ∈ lh then ab else none) = n' := ⟨_, rfl⟩
      obtain ⟨a2, ha2⟩ : ∃ n', (if 6 ∈ lh then nb else 0) = n' := ⟨_, rfl⟩
      obtain ⟨a3, ha3⟩ : ∃ n', (if 6 ∈ lh then cb else 0) = n' := ⟨_, rfl⟩
      obtain ⟨a4, ha4⟩ : ∃ n', (if 7 ∈ lh then ak else none) = n' := ⟨_, rfl⟩
      obtain ⟨a5, ha5⟩ : ∃ n', (if 7 ∈ lh then nk else 0) = n' := ⟨_, rfl⟩
      obtain ⟨a6, ha6⟩ : ∃ n', (if 7 ∈ lh then ck else 0) = n' := ⟨_, rfl⟩
      rw [hn', hm', hk', hp', hs', ha1, ha2, ha3, ha4, ha5, ha6] at hco
      clear hn' hm' hk' hp' hs' ha1 ha2 ha3 ha4 ha5 ha6
      rw [hcs] at hx2
      subst hco
      have HCS := Lib.hid hcs; clear hcs
      have f2 := box_cells (d := ⟨kk, n', m', k', p', s', .slice a1 a2 a3, .slice a4 a5 a6, [], []⟩) hx2.out
      obtain ⟨q0, q1, q2, q3, q4, q5, q6, q7⟩ := f2
      have f1 := box_cells (d := ⟨0, 0, 0, 0, ⟨#[]⟩, ⟨#[]⟩, .slice none 0 0, .slice none 0 0, [], []⟩) hx1.out
      obtain ⟨r0, r1, r2, r3, r4, r5, r6, r7⟩ := f1
      have z0 := frozen_box hx1.out 0; have z1 := frozen_box hx1.out 1; have z2 := frozen_box hx1.out 2; have z3 := frozen_box hx1.out 3
      have z4 := frozen_box hx1.out 4; have z5 := frozen_box hx1.out 5; have z6 := frozen_box hx1.out 6; have z7 := frozen_box hx1.out 7
      go_wp2_with fail
      refine bodyPost_ret (v := .agg #[.int .i64 kk, .int .i64 n', .int .i64 m', .int .i64 k', .string p', .string s', .slice a1 a2 a3, .slice a4 a5 a6]) (by simp [results, Tryz.results24, go_sem, r0, r1, r2, r3, r4, r5, r6, r7]) rfl ⟨by rw [HLH.out, HCS.out], ?_⟩
      iterate 8 (refine Below.setCell ?_ (by simp) _)
      exact hbel.out

theorem only_any (d : RDeed) (w : World) (h0 : 0 ≤ d.kind) (h1 : d.kind < 26) (hb : ∃ a n c, d.bv = .slice a n c) (hk : ∃ a n c, d.kv = .slice a n c) :
    Calls Tryz.prog 24 #[d.val] w fun e w' => e = .returned (onlyD d).val ∧ Below w.heap.size w w' := by
  obtain ⟨kind, n, m, k, path, as_, bv, kv, bl, keep⟩ := d
  simp only at h0 h1 hb hk
  obtain ⟨kk, rfl⟩ := Int.eq_ofNat_of_zero_le h0
  obtain ⟨ab, nb, cb, rfl⟩ := hb
  obtain ⟨ak, nk, ck, rfl⟩ := hk
  refine (only_core kk n m k path as_ ab nb cb ak nk ck w (by omega)).mono fun e w' ⟨he, hb⟩ => ⟨he.trans ?_, hb⟩
  unfold onlyD onlyTo RDeed.val oCells
  simp only [Int.toNat_natCast]
  by_cases h6 : 6 ∈ hasL kk <;> by_cases h7 : 7 ∈ hasL kk <;> simp [h6, h7]
end Go.Proofs.YtcbdmaelgedbkaaGreatDoor
