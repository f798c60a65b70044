/- The walk of script.Print. -/
import Derived.Test.YtcbdmaelgedbkaaGreatDoorScrE
namespace Go.Proofs.YtcbdmaelgedbkaaGreatDoor
open Go.RowKit Go.Shelf

/-- The slice v reads as deeds. -/
def RdDeeds (w : World) (v : Value) (ds : List RDeed) : Prop :=
  (v = .slice none 0 0 ∧ ds = []) ∨ (∃ a c, v = .slice (some a) 0 c ∧ ds = []) ∨ ∃ b off c, v = .slice (some ⟨b, off, none⟩) ds.length c ∧ b < w.heap.size ∧ ds.length ≤ c ∧ ∀ j d, ds[j]? = some d → ∀ i u, d.cells[i]? = some u → w.cell? ⟨b, off + j * 8 + i, none⟩ = some u
theorem RdDeeds.below {w w' : World} {v : Value} {ds : List RDeed} (h : RdDeeds w v ds) (hb : Below w.heap.size w w') : RdDeeds w' v ds := by
  rcases h with h | h | ⟨b, off, c, h1, h2, h3, h4⟩
  · exact .inl h
  · exact .inr (.inl h)
  · exact .inr <| .inr ⟨b, off, c, h1, Nat.lt_of_lt_of_le h2 hb.size, h3, fun j d hd i u hu => (hb.cell (p := ⟨b, off + j * 8 + i, none⟩) h2).trans (h4 j d hd i u hu)⟩
def lineNL (d : RDeed) : List UInt8 := (lineR d).2 ++ [10]
/-- A script: the error, the text. -/
def printR (ds : List RDeed) : Int × List UInt8 := match ds.find? (fun d => (lineR d).1 != 0) with
  | some d => ((lineR d).1, [])
  | none => (0, ds.flatMap lineNL)
theorem lineNL_len (ds : List RDeed) : (ds.flatMap lineNL).length ≤ 4097 * ds.length := by
  induction ds with
  | nil => simp
  | cons d ds ih =>
    have := lineR_len d
    simp only [List.flatMap_cons, List.length_append, List.length_cons, lineNL, List.length_nil] at *
    omega

theorem rdS_slice {α : Type} {enc : α → Value} {w : World} {v : Value} {xs : List α} (h : RdS enc w v xs) : ∃ a n c, v = .slice a n c := by
  rcases h with ⟨h, -⟩ | ⟨a, c, h, -⟩ | ⟨b, off, c, h, -⟩
  · exact ⟨_, _, _, h⟩
  · exact ⟨_, _, _, h⟩
  · exact ⟨_, _, _, h⟩
theorem printR_ok {ds : List RDeed} (h : ∀ d ∈ ds, (lineR d).1 = 0) : printR ds = (0, ds.flatMap lineNL) := by
  unfold printR
  rw [List.find?_eq_none.2 (fun d hd => by simp [h d hd])]
theorem printR_bad {ds : List RDeed} {k : Nat} {d : RDeed} {n : Int} (h : ∀ d ∈ ds.take k, (lineR d).1 = 0) (hk : ds[k]? = some d) (hn : (lineR d).1 = n) (h0 : n ≠ 0) : printR ds = (n, []) := by
  have hs : ds = ds.take k ++ d :: ds.drop (k + 1) := by
    have hlt := (List.getElem?_eq_some_iff.1 hk).1
    have hd := (List.getElem?_eq_some_iff.1 hk).2
    rw [← hd, List.getElem_cons_drop, List.take_append_drop]
  unfold printR
  rw [hs, List.find?_append, List.find?_eq_none.2 (fun d hd => by simp [h d hd])]
  simp [hn, h0]

set_option maxRecDepth 100000 in
set_option maxHeartbeats 4000000 in
theorem print_any (v : Value) (ds : List RDeed) (w : World) (hr : RdDeeds w v ds) (hl : ds.length ≤ 1000) (hd : ∀ d ∈ ds, d.In w) (he : Env w) :
    Calls Tryz.prog 11 #[v] w fun e w' => e = .returned (.tuple #[.string ⟨(printR ds).2.toArray⟩, .int .i64 (printR ds).1]) ∧ Below w.heap.size w w' := by
  obtain ⟨av, cv, hav, hcells⟩ : ∃ (av : Option Addr) (cv : Nat), v = .slice av ds.length cv ∧ ∀ k d, ds[k]? = some d → ∃ b off, av = some ⟨b, off, none⟩ ∧ b < w.heap.size ∧ ∀ i u, d.cells[i]? = some u → w.cell? ⟨b, off + k * 8 + i, none⟩ = some u := by
    rcases hr with ⟨rfl, rfl⟩ | ⟨a, c, rfl, rfl⟩ | ⟨b, off, c, h1, h2, h3, h4⟩
    · exact ⟨none, 0, rfl, fun k d hk => by simp at hk⟩
    · exact ⟨some a, c, rfl, fun k d hk => by simp at hk⟩
    · exact ⟨_, _, h1, fun k d hk => ⟨b, off, rfl, h2, h4 k d hk⟩⟩
  subst hav
  have HD := Lib.hid hd; have HE := Lib.hid he; have HC := Lib.hid hcells; clear hd he hr hcells
  go_enter Tryz.func11, Tryz.ntmps11
  go_wp2_with fail
  go_loopw [16] (fun i wr => ∃ k : Nat, k ≤ ds.length ∧ i = .int .i64 k ∧ Hid (∀ d ∈ ds.take k, (lineR d).1 = 0) ∧ Lib.IsBuilder 47 5 w.heap.size w.heap.size (Lib.byteCells ((ds.take k).flatMap lineNL)) wr ∧ Below w.heap.size w wr) (fun i _ => ds.length - (intOf i).toNat)
  case atStart =>
    refine ⟨0, Nat.zero_le _, rfl, fun d hd => by simp at hd, .inl ⟨Nat.le_refl _, _, heap_alloc_new w _, ?_, ?_⟩, (Below.refl _ _).alloc (Nat.le_refl _) _⟩
    · exact World.ownsRow_nil _ _ _ _
    · simp [Value.ownBlock]
  case round =>
    obtain ⟨k, hk, rfl, hok, hB, hbel⟩ := hrel
    by_cases hlt : k < ds.length
    · obtain ⟨d, hdk⟩ : ∃ d, ds[k]? = some d := ⟨ds[k], by simp [hlt]⟩
      obtain ⟨b, off, rfl, hbw, hc⟩ := HC.out k d hdk
      have hcell : ∀ i u, d.cells[i]? = some u → wr.cell? ⟨b, off + k * 8 + i, none⟩ = some u := fun i u hu => (hbel.cell (p := ⟨b, off + k * 8 + i, none⟩) hbw).trans (hc i u hu)
      have q0 := hcell 0 _ rfl; have q1 := hcell 1 _ rfl; have q2 := hcell 2 _ rfl; have q3 := hcell 3 _ rfl
      have q4 := hcell 4 _ rfl; have q5 := hcell 5 _ rfl; have q6 := hcell 6 _ rfl; have q7 := hcell 7 _ rfl
      simp only [Nat.add_zero] at q0
      have HK := Lib.hid hdk; clear hdk hc hcell
      obtain ⟨ab, nb, cb, hbv⟩ := rdS_slice (HD.out d (List.mem_of_getElem? HK.out)).rb
      obtain ⟨ak, nk, ck, hkv⟩ := rdS_slice (HD.out d (List.mem_of_getElem? HK.out)).rk
      rw [hbv] at q6
      rw [hkv] at q7
      have HBV := Lib.hid hbv; have HKV := Lib.hid hkv
      clear hbv hkv
      go_wp2_with fail
      have hd := HD.out d (List.mem_of_getElem? HK.out)
      have hb1 : Below wr.heap.size wr (wr.alloc (.cells #[.int .i64 d.kind, .int .i64 d.n, .int .i64 d.m, .int .i64 d.k, .string d.path, .string d.as_, d.bv, d.kv] 44)) := (Below.refl _ _).alloc (Nat.le_refl _) _
      have hb2 := hbel.trans (hb1.mono hbel.size)
      have hl := line_any d _ (hd.below hb2) (HE.out.below hb2)
      unfold RDeed.val at hl
      rw [HBV.out, HKV.out] at hl hb1 hb2
      have HB1 := Lib.hid hb1; have HB2 := Lib.hid hb2
      clear q0 q1 q2 q3 q4 q5 q6 q7 hd hb1 hb2
      refine hl.mono ?_
      clear hl
      rintro e w3 ⟨rfl, hb3⟩
      have hbel3 := HB1.out.trans (hb3.mono (by simp))
      have HB3 := Lib.hid hbel3
      have hBel4 := hbel.trans (hbel3.mono hbel.size)
      have HB4 := Lib.hid hBel4
      clear hb3 hbel3 hBel4
      rcases lineR_code d with hz | hz | hz
      · have he : errV (lineR d).1 = .nilIface := by rw [hz]; rfl
        rw [he]; clear he
        have HZ := Lib.hid hz; clear hz
        have hll := lineR_len d
        have hn := lineNL_len (ds.take k)
        have hn2 : (ds.take k).length ≤ ds.length := by simp; omega
        have HN : Hid (((ds.take k).flatMap lineNL).length ≤ 4097 * 1000) := Nat.le_trans hn (Nat.mul_le_mul_left _ (by omega))
        clear hn hn2
        go_wp2_with fail
        refine (Tryz.Builder_WriteString _ _ _ _ _ (isBuilder_below hB HB3.out) (by
          rw [byteCells_length, Lib.size_eq, data_app]
          have := HN.out
          simp only [List.length_append, List.length_cons, List.length_nil]
          omega) HB4.out.size).mono ?_
        rintro e w4 ⟨rfl, hB4, hb4⟩
        have hbel5 := HB4.out.trans hb4
        clear hB hbel hb4
        go_wp2_with fail
        go_roundw
        case rel =>
          have hk1 : ds.take (k + 1) = ds.take k ++ [d] := by rw [List.take_add_one, HK.out]; rfl
          refine ⟨k + 1, by omega, by go_num, ?_, .inr ?_, hbel5⟩
          · intro d' hd'
            rw [hk1] at hd'
            rcases List.mem_append.1 hd' with h | h
            · exact hok.out d' h
            · rw [List.mem_singleton.1 h]; exact HZ.out
          · rw [hk1, List.flatMap_append, byteCells_append]
            have e1 : Lib.strCells (⟨(lineR d).2.toArray⟩ ++ ⟨#[10]⟩) = Lib.byteCells ([d].flatMap lineNL) := by
              rw [Lib.strCells, Lib.byteCells, data_app]
              simp [lineNL]
            rw [e1] at hB4
            exact hB4
        case measure => simp [intOf]; omega
      · have he : errV (lineR d).1 = .iface 24 (.int .i64 2) := by rw [hz]; rfl
        rw [he]; clear he
        have HP : Hid (printR ds = (2, [])) := printR_bad hok.out HK.out hz (by decide)
        clear hz
        go_wp2_with fail
        refine (split_arg _ (HE.out.below HB4.out)).mono ?_
        rintro e w4 ⟨rfl, hb4⟩
        go_wp2_with fail
        go_ret2
        exact ⟨by rw [HP.out]; rfl, HB4.out.trans (hb4.mono HB4.out.size)⟩
      · have he : errV (lineR d).1 = .iface 24 (.int .i64 15) := by rw [hz]; rfl
        rw [he]; clear he
        have HP : Hid (printR ds = (15, [])) := printR_bad hok.out HK.out hz (by decide)
        clear hz
        go_wp2_with fail
        refine (split_big _ (HE.out.below HB4.out)).mono ?_
        rintro e w4 ⟨rfl, hb4⟩
        go_wp2_with fail
        go_ret2
        exact ⟨by rw [HP.out]; rfl, HB4.out.trans (hb4.mono HB4.out.size)⟩
    · obtain rfl : k = ds.length := by omega
      rw [List.take_length] at hB hok
      have HP : Hid (printR ds = (0, ds.flatMap lineNL)) := printR_ok hok.out
      go_wp2_with fail
      refine (Tryz.Builder_String_any _ _ _ _ hB hbel.size).mono ?_
      rintro e w1 ⟨rfl, hbel1⟩
      go_wp2_with fail
      go_ret2
      exact ⟨by rw [HP.out]; rfl, hbel.trans hbel1⟩
end Go.Proofs.YtcbdmaelgedbkaaGreatDoor
