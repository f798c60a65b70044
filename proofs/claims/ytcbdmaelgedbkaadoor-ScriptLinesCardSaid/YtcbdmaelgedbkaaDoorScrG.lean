/- Walks: the law's small, awake. -/
import Derived.Test.YtcbdmaelgedbkaaDoorScrF
namespace Go.Proofs.YtcbdmaelgedbkaaDoor
open Go.RowKit Go.Shelf

/-- A deed as it came in: nothing is asked of its sizes. -/
structure RDeed.Raw (w : World) (d : RDeed) : Prop where
  rb : RdS encB w d.bv d.b
  rk : RdS encI w d.kv d.keep
  kind : I64 d.kind
  n : I64 d.n
  m : I64 d.m
  k : I64 d.k
  path : d.path.size ≤ 9223372036854775807
  as_ : d.as_.size ≤ 9223372036854775807
  keep : ∀ x ∈ d.keep, I64 x
theorem RDeed.Raw.below {w w' : World} {d : RDeed} (h : d.Raw w) (hb : Below w.heap.size w w') : d.Raw w' := { h with rb := h.rb.below hb, rk := h.rk.below hb }
def smallD (d : RDeed) : Bool := decide (d.path.size ≤ 2000) && decide (d.as_.size ≤ 500) && decide (d.b.length ≤ 2000) && decide (d.keep.length ≤ 40)
def smallR (ds : List RDeed) : Bool := decide (ds.length ≤ 20) && ds.all smallD
theorem smallD_iff {d : RDeed} : smallD d = true ↔ d.path.size ≤ 2000 ∧ d.as_.size ≤ 500 ∧ d.b.length ≤ 2000 ∧ d.keep.length ≤ 40 := by
  simp [smallD, and_assoc]
theorem RDeed.Raw.in {w : World} {d : RDeed} (h : d.Raw w) (hs : smallD d = true) : d.In w := by
  obtain ⟨h1, h2, h3, h4⟩ := smallD_iff.1 hs
  exact ⟨h.rb, h.rk, h.kind, h.n, h.m, h.k, by omega, by omega, by omega, by omega, h.keep⟩
theorem rdS_len {α : Type} {enc : α → Value} {w : World} {v : Value} {xs : List α} (h : RdS enc w v xs) : ∃ a c, v = .slice a xs.length c := by
  rcases h with ⟨h, rfl⟩ | ⟨a, c, h, rfl⟩ | ⟨b, off, c, h, -⟩
  · exact ⟨_, _, h⟩
  · exact ⟨_, _, h⟩
  · exact ⟨_, _, h⟩
theorem smallR_bad {ds : List RDeed} {k : Nat} {d : RDeed} (hk : ds[k]? = some d) (h : ¬ (d.path.size ≤ 2000 ∧ d.as_.size ≤ 500 ∧ d.b.length ≤ 2000 ∧ d.keep.length ≤ 40)) : smallR ds = false := by
  unfold smallR
  rw [List.all_eq_false.2 ⟨d, List.mem_of_getElem? hk, fun e => h (smallD_iff.1 e)⟩, Bool.and_false]
theorem rdDeeds_open {w : World} {v : Value} {ds : List RDeed} (hr : RdDeeds w v ds) : ∃ (av : Option Addr) (cv : Nat), v = .slice av ds.length cv ∧ ∀ k d, ds[k]? = some d → ∃ b off, av = some ⟨b, off, none⟩ ∧ b < w.heap.size ∧ ∀ i u, d.cells[i]? = some u → w.cell? ⟨b, off + k * 8 + i, none⟩ = some u := by
  rcases hr with ⟨rfl, rfl⟩ | ⟨a, c, rfl, rfl⟩ | ⟨b, off, c, h1, h2, h3, h4⟩
  · exact ⟨none, 0, rfl, fun k d hk => by simp at hk⟩
  · exact ⟨some a, c, rfl, fun k d hk => by simp at hk⟩
  · exact ⟨_, _, h1, fun k d hk => ⟨b, off, rfl, h2, h4 k d hk⟩⟩

set_option maxRecDepth 100000 in
set_option maxHeartbeats 4000000 in
theorem small_any (v : Value) (ds : List RDeed) (w : World) (hr : RdDeeds w v ds) (hd : ∀ d ∈ ds, d.Raw w) :
    Calls Tryd.prog 6 #[v] w fun e w' => e = .returned (.bool (smallR ds)) ∧ w = w' := by
  obtain ⟨av, cv, rfl, hcells⟩ := rdDeeds_open hr
  have HD := Lib.hid hd; have HC := Lib.hid hcells; clear hd hr hcells
  by_cases h20 : 20 < ds.length
  · have HR : Hid (smallR ds = false) := by unfold Hid smallR; simp; omega
    go_enter Tryd.func6, Tryd.ntmps6
    go_wp2
    go_ret
    exact ⟨by rw [HR.out]; rfl, rfl⟩
  have h20' : ds.length ≤ 20 := by omega
  go_enter Tryd.func6, Tryd.ntmps6
  go_wp2
  go_loop [3] (fun i => ∃ k : Nat, k ≤ ds.length ∧ i = .int .i64 k ∧ Hid (∀ d ∈ ds.take k, smallD d = true)) (fun i => ds.length - (intOf i).toNat)
  case atStart => exact ⟨0, Nat.zero_le _, rfl, fun d hd => by simp at hd⟩
  case round =>
    obtain ⟨k, hk, rfl, hok⟩ := hrel
    by_cases hlt : k < ds.length
    · obtain ⟨d, hdk⟩ : ∃ d, ds[k]? = some d := ⟨ds[k], by simp [hlt]⟩
      obtain ⟨b, off, rfl, hbw, hc⟩ := HC.out k d hdk
      have hraw := HD.out d (List.mem_of_getElem? hdk)
      obtain ⟨ab, cb, hbv⟩ := rdS_len hraw.rb
      obtain ⟨ak, ck, hkv⟩ := rdS_len hraw.rk
      have q4 := hc 4 _ rfl; have q5 := hc 5 _ rfl; have q6 := hc 6 _ rfl; have q7 := hc 7 _ rfl
      rw [hbv] at q6
      rw [hkv] at q7
      have p1 := hraw.path; have p2 := hraw.as_
      have HK := Lib.hid hdk; clear hdk hc hbv hkv hraw
      by_cases c1 : d.path.size ≤ 2000
      · by_cases c2 : d.as_.size ≤ 500
        · by_cases c3 : d.b.length ≤ 2000
          · by_cases c4 : d.keep.length ≤ 40
            · have HS : Hid (smallD d = true) := smallD_iff.2 ⟨c1, c2, c3, c4⟩
              go_wp2
              go_round
              case rel =>
                refine ⟨k + 1, by omega, by go_num, fun d' hd' => ?_⟩
                rw [List.take_add_one, HK.out] at hd'
                rcases List.mem_append.1 hd' with h | h
                · exact hok.out d' h
                · simp at h; rw [h]; exact HS.out
              case measure => simp [intOf]; omega
            · have HS : Hid (smallR ds = false) := smallR_bad HK.out (by omega)
              have c4' : 40 < d.keep.length := by omega
              go_wp2
              go_ret
              exact ⟨by rw [HS.out]; rfl, rfl⟩
          · have HS : Hid (smallR ds = false) := smallR_bad HK.out (by omega)
            have c3' : 2000 < d.b.length := by omega
            go_wp2
            go_ret
            exact ⟨by rw [HS.out]; rfl, rfl⟩
        · have HS : Hid (smallR ds = false) := smallR_bad HK.out (by omega)
          have c2' : 500 < d.as_.size := by omega
          go_wp2
          go_ret
          exact ⟨by rw [HS.out]; rfl, rfl⟩
      · have HS : Hid (smallR ds = false) := smallR_bad HK.out (by omega)
        have c1' : 2000 < d.path.size := by omega
        go_wp2
        go_ret
        exact ⟨by rw [HS.out]; rfl, rfl⟩
    · have HS : Hid (smallR ds = true) := by
        obtain rfl : k = ds.length := by omega
        unfold Hid smallR
        rw [List.take_length] at hok
        rw [List.all_eq_true.2 hok.out]; simp; omega
      go_wp2
      go_ret
      exact ⟨by rw [HS.out]; rfl, rfl⟩

def awakeD : RDeed := ⟨6, 0, 493, 0, ⟨#[47, 97, 32, 98]⟩, ⟨#[]⟩, .slice none 0 0, .slice none 0 0, [], []⟩
theorem awake_text : printR [awakeD] = (0, [109, 107, 100, 105, 114, 32, 47, 97, 37, 50, 48, 98, 32, 52, 57, 51, 10]) := by kernel_rfl

set_option maxRecDepth 100000 in
set_option maxHeartbeats 4000000 in
theorem awake_any (w : World) (he : Env w) :
    Calls Tryd.prog 5 #[] w fun e w' => e = .returned (.bool true) ∧ Below w.heap.size w w' := by
  go_enter Tryd.func5, Tryd.ntmps5
  go_wp2_with fail
  refine (print_any _ [awakeD] _ (.inr <| .inr ⟨w.heap.size, 0, 1, rfl, by simp, by simp, ?hc⟩) (by simp) ?hd (he.below ((Below.refl _ _).alloc (Nat.le_refl _) _))).mono ?_
  case hc =>
    intro j d hj i u hu
    cases j with
    | succ j => simp at hj
    | zero =>
      simp at hj; subst hj
      rw [World.cell?_alloc_at _ _ _ _ rfl]
      simpa [RDeed.cells, awakeD] using hu
  case hd =>
    intro d hd
    obtain rfl := List.mem_singleton.1 hd
    refine ⟨.inl ⟨rfl, rfl⟩, .inl ⟨rfl, rfl⟩, ?_, ?_, ?_, ?_, by decide, by decide, by decide, by decide, by simp [awakeD]⟩ <;> (unfold I64 awakeD; simp)
  rintro e w1 ⟨rfl, hb1⟩
  rw [awake_text]
  go_wp2_with fail
  go_ret
  exact ⟨rfl, ((Below.refl _ _).alloc (Nat.le_refl _) _).trans (hb1.mono (by simp))⟩
end Go.Proofs.YtcbdmaelgedbkaaDoor
