/- The walk of ScriptWhole: the rows of deeds that it joins. -/
import Derived.Test.YtcbdmaelgedbkaaDoorScrG
import Derived.Laws.AppendOwnNone
namespace Go.Proofs.YtcbdmaelgedbkaaDoor
open Go.RowKit Go.Shelf

theorem info_deed : (Tryd.prog.info? 32).map (fun i => (i.zero, i.size, i.bytes)) = some (some (.agg #[.int .i64 0, .int .i64 0, .int .i64 0, .int .i64 0, .string ⟨#[]⟩, .string ⟨#[]⟩, .slice none 0 0, .slice none 0 0]), 8, 112) := by kernel_rfl

theorem printR_find {ds : List RDeed} : (printR ds).1 = 0 ↔ ∀ d ∈ ds, (lineR d).1 = 0 := by
  constructor
  · intro h
    unfold printR at h
    split at h
    · rename_i d hd
      have := List.find?_some hd
      simp at this; exact absurd h this
    · rename_i hd
      intro d hm
      have := List.find?_eq_none.1 hd d hm
      simpa using this
  · intro h; rw [printR_ok h]
theorem printR_app (a b : List RDeed) (ha : (printR a).1 = 0) (hb : (printR b).1 = 0) : printR (a ++ b) = (0, (printR a).2 ++ (printR b).2) := by
  have h1 := printR_find.1 ha
  have h2 := printR_find.1 hb
  rw [printR_ok h1, printR_ok h2, printR_ok (ds := a ++ b) (fun d hd => (List.mem_append.1 hd).elim (h1 d) (h2 d)), List.flatMap_append]
theorem printR_app_bad (a b : List RDeed) (h : (printR a).1 ≠ 0 ∨ (printR b).1 ≠ 0) : (printR (a ++ b)).1 ≠ 0 := by
  intro e
  have := printR_find.1 e
  rcases h with h | h
  · exact h (printR_find.2 fun d hd => this d (List.mem_append_left _ hd))
  · exact h (printR_find.2 fun d hd => this d (List.mem_append_right _ hd))

theorem cells_len (d : RDeed) : d.cells.length = 8 := rfl
theorem flat_len (ds : List RDeed) : (ds.flatMap RDeed.cells).length = ds.length * 8 := by
  induction ds with
  | nil => rfl
  | cons d ds ih => rw [List.flatMap_cons, List.length_append, ih, cells_len, List.length_cons]; omega
theorem flat_get : ∀ (ds : List RDeed) (j : Nat) (u : Value), (ds.flatMap RDeed.cells)[j]? = some u ↔ ∃ d, ds[j / 8]? = some d ∧ d.cells[j % 8]? = some u
  | [], j, u => by simp
  | d :: ds, j, u => by
    rw [List.flatMap_cons, List.getElem?_append, cells_len]
    by_cases h : j < 8
    · rw [if_pos h, Nat.div_eq_of_lt h, Nat.mod_eq_of_lt h]
      simp
    · rw [if_neg h, flat_get ds (j - 8) u]
      rw [show j / 8 = (j - 8) / 8 + 1 from by omega, show j % 8 = (j - 8) % 8 from by omega]
      simp
/-- A source that is appended: nil, or the cells 'news' from an address on. -/
def SrcS (w : World) (x : Value) (m size : Nat) (news : List Value) : Prop :=
  (x = .slice none 0 0 ∧ m = 0 ∧ news = []) ∨ ∃ ad c, x = .slice (some ad) m c ∧ news.length = m * size ∧ ∀ j u, news[j]? = some u → w.cell? (ad.add j) = some u
theorem srcS_deeds {w : World} {v : Value} {ds : List RDeed} (h : RdDeeds w v ds) : SrcS w v ds.length 8 (ds.flatMap RDeed.cells) := by
  rcases h with ⟨rfl, rfl⟩ | ⟨a, c, rfl, rfl⟩ | ⟨b, off, c, rfl, -, -, h⟩
  · exact .inl ⟨rfl, rfl, rfl⟩
  · exact .inr ⟨a, c, rfl, rfl, fun j u hu => by simp at hu⟩
  · refine .inr ⟨_, _, rfl, flat_len ds, fun j u hu => ?_⟩
    obtain ⟨d, hd, hu⟩ := (flat_get ds j u).1 hu
    have := h _ d hd _ u hu
    rw [show off + j / 8 * 8 + j % 8 = off + j from by omega] at this
    have e1 : (⟨b, off, none⟩ : Addr).add j = ⟨b, off + j, none⟩ := by unfold Addr.add; split <;> simp_all
    rw [e1]; exact this
theorem deeds_of_owns {w : World} {base : Nat} {e : TypeId} {v : Value} {ds : List RDeed} (h : w.ownsRow base e 8 v ds.length (ds.flatMap RDeed.cells)) : RdDeeds w v ds := by
  rcases h.2 with ⟨h1, h2⟩ | ⟨g, cap, cur, rfl, h2, h3, h4, h5, h6, h7⟩
  · exact .inl ⟨h1, List.eq_nil_of_length_eq_zero h2⟩
  · refine .inr <| .inr ⟨g, 0, cap, rfl, (Array.getElem?_eq_some_iff.1 h3).1, h4, fun j d hd i u hu => ?_⟩
    have hi : i < 8 := (List.getElem?_eq_some_iff.1 hu).1
    have := h.cells (g := g) rfl (j * 8 + i) u ((flat_get ds _ u).2 ⟨d, by rw [show (j * 8 + i) / 8 = j from by omega]; exact hd, by rw [show (j * 8 + i) % 8 = i from by omega]; exact hu⟩)
    have e1 : (⟨g, 0, none⟩ : Addr).add (j * 8 + i) = ⟨g, 0 + j * 8 + i, none⟩ := by unfold Addr.add; split <;> simp_all
    rw [e1] at this; exact this
theorem cells_one (ds : List RDeed) (hs : ∀ d ∈ ds, (∃ a n c, d.bv = .slice a n c) ∧ ∃ a n c, d.kv = .slice a n c) : ∀ u ∈ ds.flatMap RDeed.cells, u.oneCell' = true := by
  intro u hu
  obtain ⟨d, hd, hu⟩ := List.mem_flatMap.1 hu
  obtain ⟨⟨a, n, c, h1⟩, a', n', c', h2⟩ := hs d hd
  simp only [RDeed.cells, h1, h2, List.mem_cons, List.not_mem_nil, or_false] at hu
  rcases hu with rfl | rfl | rfl | rfl | rfl | rfl | rfl | rfl <;> rfl

/-- append onto a row of the call's own, whatever the source. -/
theorem wpList_append_src {P : Program} {w : World} {ops : Array Oper} {rest : List Oper} {o : Oper} {a : Act} {Q : Exit → Act → World → Prop} (hgd : o.guard = none) (s x : Operand) (t : TypeId)
    (ho : o.op = .call { callee := .builtin .append, args := #[s, x], argTypes := #[t, t] })
    (base : Nat) (e : TypeId) (i : TypeInfo) (z : Value) (size bytes : Nat) (ht : P.underlying t = some (.slice e)) (hi : P.info? e = some i) (hz : i.zero = some z)
    (hsize : i.size = size) (hby : i.bytes = bytes) (hzs : z.cells.size = size) (hsz : 0 < size)
    (v : Value) (n : Nat) (xs : List Value) (hs : a.eval s = v) (hown : w.ownsRow base e size v n xs)
    (xv : Value) (m : Nat) (news : List Value) (hx0 : a.eval x = xv) (hx : SrcS w xv m size news) (h1 : ∀ u ∈ news, u.oneCell' = true)
    (h63 : n + m ≤ maxLen) (hbytes : (n + m) * bytes ≤ 140737488355328) (hbase : base ≤ w.heap.size)
    (h : ∀ v' w', w'.ownsRow base e size v' (n + m) (xs ++ news) → w.grownBy w' v.ownBlock → wpList P ops Q rest (a.put o.dst v') w') : wpList P ops Q (o :: rest) a w := by
  subst hx0
  rcases hx with ⟨hx, rfl, rfl⟩ | ⟨ad, c, hx, hl, hn⟩
  · refine wpList_append_own_none hgd s x t ho base e i size ht hi v n xs hs hown hx (h v w (by simpa using hown) ⟨rfl, rfl, rfl, Nat.le_refl _, fun _ _ _ => rfl⟩)
  · exact wpList_append_own w hgd s x t ho base e i z size bytes ht hi hz hsize hby hzs hsz v n xs hs hown ad m c news hx hl hn h1 h63 hbytes hbase fun v' w' h2 h3 _ => h v' w' h2 h3
end Go.Proofs.YtcbdmaelgedbkaaDoor
