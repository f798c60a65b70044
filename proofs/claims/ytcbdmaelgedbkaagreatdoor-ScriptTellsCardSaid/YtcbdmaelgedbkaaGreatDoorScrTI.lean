/- ScriptTells holds: whatever the outcomes and the text, the call returns true and leaves its arguments as they were; the card ties what the row lists to the program's text. -/
import Derived.Test.YtcbdmaelgedbkaaGreatDoorScrKZ
import Derived.Test.YtcbdmaelgedbkaaGreatDoorScrTH
namespace Go.Proofs.YtcbdmaelgedbkaaGreatDoor.tells
open Go.ChangeShapes Go.WideShapes Go.ChangeAt Go.RowKit Go.Deep

section
variable {H : Type} {enc : TypeId × Value → H} {W : World} {fuel : Nat}
theorem str_eta (s : ByteArray) : Value.string s = encStr s.data.toList := rfl
theorem strs_of_trod {v : Value} {x : DataW H × List MemPlace} (h : DataW.trod enc Tryz.prog W 0 (fun _ => true) true fuel 25 [v] = some x) : ∃ ns : List (List UInt8), RdS encStr W v ns ∧ ∀ y ∈ ns, y.length ≤ 9223372036854775807 := by
  have z1 : Tryz.prog.cellsOf 9 = 1 := by kernel_rfl
  rcases open_slice Tryz.underlying25 h with ⟨hv, -⟩ | ⟨a, len, cap, m, n, D, Pl, hv, -, hl, -, hm, -, hi⟩
  · simp at hv
    exact ⟨[], .inl ⟨hv, rfl⟩, fun n hn => by simp at hn⟩
  · simp at hv hm
    subst hm
    obtain ⟨ns, hdl, hds⟩ := list_choose (P := fun i (y : List UInt8) => y.length ≤ 9223372036854775807 ∧ W.cell? (a.add i) = some (encStr y)) len (fun i hilt => by
      obtain ⟨cs', hcs, ht⟩ := hi i (by omega)
      rw [z1] at hcs
      obtain ⟨s, e, -, hs⟩ := DataW.trod_string Tryz.underlying9 ht
      subst e
      obtain ⟨-, hcl, hat⟩ := World.cells?_some hcs
      refine ⟨s.data.toList, ?_, ?_⟩
      · rw [← Lib.size_eq]; unfold maxLen at hs; simpa using hs
      · have := hat 0 (by omega)
        rw [Go.Deep.add_add] at this
        rw [← str_eta]
        simpa using this)
    refine ⟨ns, ?_, fun y hy => by
      obtain ⟨i, hilt, he⟩ := List.getElem_of_mem hy
      exact (hds i y (by simp [hilt, he])).1⟩
    cases len with
    | zero => exact .inr (.inl ⟨a, m, hv, List.eq_nil_of_length_eq_zero hdl⟩)
    | succ l =>
      obtain ⟨y0, hy0⟩ : ∃ d, ns[0]? = some d := ⟨ns[0]'(by omega), by simp [hdl]⟩
      have h0 := (hds 0 y0 hy0).2
      have hsp := cell_lt h0
      rw [Addr.add, if_pos rfl] at hsp
      have ha : a = ⟨a.block, a.off, none⟩ := by obtain ⟨b, o, s⟩ := a; simp at hsp; simp [hsp.2]
      refine .inr (.inr ⟨a.block, a.off, m, by rw [hdl, ← ha]; exact hv, hsp.1, by omega, fun j y hy => ?_⟩)
      have := (hds j y hy).2
      rw [add_plain hsp.2] at this
      exact this
set_option maxRecDepth 100000 in
theorem out_of_trod {cs : List Value} {y : DataW H × List MemPlace} (h : DataW.trod enc Tryz.prog W 0 (fun _ => true) true fuel 27 cs = some y) : ∃ r : POut × Value, cs = oCells4 r ∧ OutRaw W r := by
  obtain ⟨xs, n, hn, hy, hlen, hyl, hf⟩ := DataW.trod_struct Tryz.underlying27 h
  have hc4 : cs.length = 4 := hlen.trans (show Tryz.prog.cellsOf 27 = 4 by kernel_rfl)
  match cs, hc4 with
  | [c0, c1, c2, c3], _ =>
    match xs, hyl with
    | [y0, y1, y2, y3], _ =>
      have z0 : Tryz.prog.cellsOf 24 = 1 := by kernel_rfl
      have z1 : Tryz.prog.cellsOf 3 = 1 := by kernel_rfl
      have z2 : Tryz.prog.cellsOf 9 = 1 := by kernel_rfl
      have z3 : Tryz.prog.cellsOf 25 = 1 := by kernel_rfl
      have g0 : DataW.trod enc Tryz.prog W 0 (fun _ => true) true n 24 [c0] = some y0 := by simpa [z0] using hf 0 _ rfl
      have g1 : DataW.trod enc Tryz.prog W 0 (fun _ => true) true n 3 [c1] = some y1 := by simpa [z1] using hf 1 _ rfl
      have g2 : DataW.trod enc Tryz.prog W 0 (fun _ => true) true n 9 [c2] = some y2 := by simpa [z2] using hf 2 _ rfl
      have g3 : DataW.trod enc Tryz.prog W 0 (fun _ => true) true n 25 [c3] = some y3 := by simpa [z3] using hf 3 _ rfl
      obtain ⟨n0, e0, -, w0⟩ := DataW.trod_int Tryz.underlying24 g0
      obtain ⟨n1, e1, -, w1⟩ := DataW.trod_int Tryz.underlying3 g1
      obtain ⟨s2, e2, -, w2⟩ := DataW.trod_string Tryz.underlying9 g2
      obtain ⟨ns, r3, w3⟩ := strs_of_trod g3
      simp only [List.cons.injEq, and_true] at e0 e1 e2
      subst e0 e1 e2
      refine ⟨(⟨n0, n1, s2.data.toList, ns⟩, c3), rfl, r3, i64_of_wf w0, i64_of_wf w1, ?_, w3⟩
      rw [← Lib.size_eq]; unfold maxLen at w2; simpa using w2
set_option maxRecDepth 100000 in
theorem outs_of_trod {v : Value} {x : DataW H × List MemPlace} (h : DataW.trod enc Tryz.prog W 0 (fun _ => true) true fuel 22 [v] = some x) : ∃ rs : List (POut × Value), RdOuts W v rs ∧ ∀ r ∈ rs, OutRaw W r := by
  have z8 : Tryz.prog.cellsOf 27 = 4 := by kernel_rfl
  rcases open_slice Tryz.underlying22 h with ⟨hv, -⟩ | ⟨a, len, cap, m, n, D, Pl, hv, -, hl, -, hm, -, hi⟩
  · simp at hv
    exact ⟨[], .inl ⟨hv, rfl⟩, fun n hn => by simp at hn⟩
  · simp at hv hm
    subst hm
    obtain ⟨ds, hdl, hds⟩ := list_choose (P := fun i (d : POut × Value) => OutRaw W d ∧ ∀ j u, (oCells4 d)[j]? = some u → W.cell? (a.add (i * 4 + j)) = some u) len (fun i hilt => by
      obtain ⟨cs', hcs, ht⟩ := hi i (by omega)
      rw [z8] at hcs
      obtain ⟨d, rfl, hraw⟩ := out_of_trod ht
      obtain ⟨-, hcl, hat⟩ := World.cells?_some hcs
      refine ⟨d, hraw, fun j u hu => ?_⟩
      have hj : j < 4 := (List.getElem?_eq_some_iff.1 hu).1
      rw [← Go.Deep.add_add, hat j hj, hu])
    have hraw : ∀ d ∈ ds, OutRaw W d := fun d hd => by
      obtain ⟨i, hilt, he⟩ := List.getElem_of_mem hd
      exact (hds i d (by simp [hilt, he])).1
    refine ⟨ds, ?_, hraw⟩
    cases len with
    | zero => exact .inr (.inl ⟨a, m, hv, List.eq_nil_of_length_eq_zero hdl⟩)
    | succ l =>
      obtain ⟨d0, hd0⟩ : ∃ d, ds[0]? = some d := ⟨ds[0]'(by omega), by simp [hdl]⟩
      have h0 := (hds 0 d0 hd0).2 0 _ rfl
      have hsp := cell_lt h0
      rw [show 0 * 4 + 0 = 0 from rfl, Addr.add, if_pos rfl] at hsp
      have ha : a = ⟨a.block, a.off, none⟩ := by obtain ⟨b, o, s⟩ := a; simp at hsp; simp [hsp.2]
      refine .inr (.inr ⟨a.block, a.off, m, by rw [hdl, ← ha]; exact hv, hsp.1, by omega, fun j d hd i u hu => ?_⟩)
      have := (hds j d hd).2 i u hu
      rw [add_plain hsp.2] at this
      rw [Nat.add_assoc]; exact this
end

theorem laidOut : laidOutB Tryz.prog = true := by kernel_rfl
set_option maxRecDepth 100000 in
theorem contract (H : Type) (enc : TypeId × Value → H) (W : World) (base : Nat) (args : Array Value) (ds gs : List (DataW H)) (before : List MemPlace)
    (hval : ∀ (j : Nat) t v, Tryz.f3.params[j]? = some t → args[j]? = some v → Value.okWide Tryz.prog W .any base t v)
    (hW : DataW.Whole enc Tryz.prog Tryz.f3.params.toList Rows.scriptTellsSpec.vars false W args.toList ds gs before) (hL : laidMetH Tryz.prog laidL W) (hS : W.ShapedOpen Tryz.prog) :
    Calls Tryz.prog 3 args W fun e W' => ∃ v, e = .returned v ∧ Rows.scriptTellsSpec.post enc Tryz.prog Tryz.f3 false true false false W args v W' := by
  have hW' := hW
  obtain ⟨p, q, hA0, hV, rfl, hfz, hnd⟩ := hW
  have hA : DataW.TrodAll enc Tryz.prog W 0 (fun _ => true) true Tryz.f3.params.toList args.toList ds p := hA0
  rw [Tryz.params3] at hA hval
  obtain ⟨v0, vs0, d0, ds0, p0, q0, hargs, rfl, rfl, h0, r0⟩ := trodAll_cons hA
  obtain ⟨v1, vs1, d1, ds1, p1, q1, rfl, rfl, rfl, h1, r1⟩ := trodAll_cons r0
  obtain ⟨rfl, rfl, rfl⟩ := trodAll_nil r1
  obtain rfl : args = #[v0, v1] := by cases args; simp_all
  obtain ⟨rfl, rfl⟩ := trodVars_none hV
  obtain ⟨a0, l0, c0, e0⟩ := okWide_slice Tryz.underlying22 (hval 0 22 v0 rfl rfl)
  have k0 : ∃ a : List (POut × Value), RdOuts W v0 a ∧ ∀ d ∈ a, OutRaw W d := by
    obtain ⟨fuel, hf⟩ := h0
    refine outs_of_trod (fuel := fuel) (enc := enc) (x := (d0, p0)) ?_
    rw [e0] at hf ⊢; exact hf
  obtain ⟨rs, ra, wa⟩ := k0
  have h1' := h1
  obtain ⟨s, rfl, -, -, -⟩ := Go.ChangeMaps.open_string Tryz.underlying9 (hval 1 9 v1 rfl rfl) h1'
  clear hA0
  refine (tells_walk v0 rs s W ra wa (env_of_laid hL hS)).mono fun e W' ⟨he, hb⟩ => ?_
  subst he
  have lt0 : ∀ x ∈ p0, x.block < W.heap.size := by obtain ⟨m, hm⟩ := h0; exact DataW.trod_lt m _ _ _ hm
  have lt1 : ∀ x ∈ p1, x.block < W.heap.size := by obtain ⟨m, hm⟩ := h1; exact DataW.trod_lt m _ _ _ hm
  exact ⟨_, rfl, _, _, _, [], _, [], hW', trodAll_mk1 (shut_bool Tryz.underlying4 _), (trodAll_cons_mk (Below.trod laidOut (by kernel_rfl) (of_decide_eq_true (by kernel_rfl)) h0 hb lt0) (trodAll_cons_mk (Below.trod laidOut (by kernel_rfl) (of_decide_eq_true (by kernel_rfl)) h1 hb lt1) trodAll_mk0)), rfl, hb.frame _, fun h => by cases h⟩

theorem reads (os : Os) {H : Type} (enc : TypeId × Value → H) : ∃ places, DataW.whole enc Tryz.prog ((laidWorld os).forCall (fun _ _ => 0) ⟨#[], #[.slice none 0 0, .string ⟨#[]⟩], []⟩).memory Tryz.f3.params.toList Rows.scriptTellsSpec.vars false #[Value.slice none 0 0, Value.string ⟨#[]⟩].toList 8 = some ([.nil, .lit (.string [])], [], places) :=
  ⟨[], by kernel_rfl⟩

set_option maxRecDepth 100000 in
theorem lifted (os : Os) (started : os.Started) (H : Type) (enc : TypeId × Value → H) (F : Stop.Interp) :
    ReturnsInHanded {} Tryz.checked os 3 .any ((OpenSpec.ofChange Rows.scriptTellsSpec).preRow enc Tryz.prog Tryz.f3 Rows.scriptTellsRow.domain false Rows.scriptTellsRow.laid) (((OpenSpec.ofChange Rows.scriptTellsSpec).at F).post enc Tryz.prog Tryz.f3 false true false false) := by
  obtain ⟨places, hx⟩ := reads os enc
  refine returnsInHanded_of_row (C := Tryz.checked) (s := OpenSpec.ofChange Rows.scriptTellsSpec) own started (by kernel_rfl) Tryz.func3
    (witness_row_at (enc := enc) (C := Tryz.checked) false (laidWorld os) #[.slice none 0 0, .string ⟨#[]⟩] rfl (by kernel_rfl) (by kernel_rfl) (by kernel_rfl)
      (OpenSpec.preRow_of_cond 8 hx (by kernel_rfl) (fun k hk => by cases hk) (by kernel_rfl) (laidWorld_met os _))) ?_
  intro W base args ds gs before hval hW _ _ _ hL hS _
  exact contract H enc W base args ds gs before hval hW hL hS

theorem said : Rows.ScriptTellsSaid :=
  OpenClaim.holds_of_cond 3 Tryz.f3 rfl rfl rfl rfl rfl rfl rfl ⟨rfl, rfl, rfl, rfl, rfl⟩ rfl rfl rfl rfl rfl (by kernel_rfl) Tryz.func3 (by kernel_rfl)
    (of_decide_eq_true (by kernel_rfl)) (by unfold Func.isWrapper; rw [if_neg (of_decide_eq_false (by kernel_rfl))]; exact ⟨rfl, rfl⟩)
    (fun os started H enc _ F => by rw [OpenClaim.pre_eq_preRow]; exact lifted os started H enc F)

/-- No parameter wants a stand-in; the program's own looks are off. -/
theorem plain (f : FuncId) (fn : Func) (hf : Tryz.pinned.checked.prog.funcNamed "turnkey/turnkeylaw29.ScriptTells" = some f) (hfn : Tryz.pinned.checked.prog.funcs[f]? = some fn) :
    true = Tryz.pinned.checked.prog.looks [] ∧ ∀ (j : Nat) t, fn.params[j]? = some t → Tryz.pinned.checked.prog.wantsStandIn t = false := by
  obtain rfl : f = 3 := Option.some.inj ((show Tryz.prog.funcNamed "turnkey/turnkeylaw29.ScriptTells" = some 3 by kernel_rfl).symm.trans hf) |>.symm
  obtain rfl : fn = Tryz.f3 := (Option.some.inj (Tryz.func3.symm.trans hfn)).symm
  refine ⟨by kernel_rfl, fun j t ht => ?_⟩
  rw [Tryz.params3] at ht
  have hm := Array.mem_of_getElem? ht
  simp only [List.mem_toArray, List.mem_cons, List.not_mem_nil, or_false] at hm
  rcases hm with rfl | rfl
  · exact (show Tryz.prog.wantsStandIn 22 = false by kernel_rfl)
  · exact (show Tryz.prog.wantsStandIn 9 = false by kernel_rfl)

theorem card : Rows.ScriptTellsCardSaid :=
  Claim7.holds_tied_plain_at .later [] _ _ _ _ said (fun _ h => by cases h) (by kernel_rfl) (fun _ h => by cases h) scriptTells_row_tie rfl ⟨rfl, rfl⟩ (by kernel_rfl) rfl plain (by kernel_rfl)
#print axioms card
end Go.Proofs.YtcbdmaelgedbkaaGreatDoor.tells
