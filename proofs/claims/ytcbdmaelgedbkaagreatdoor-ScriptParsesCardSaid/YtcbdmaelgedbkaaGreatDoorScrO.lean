/- The walk of the reference's Same. -/
import Derived.Test.YtcbdmaelgedbkaaGreatDoorScrN
import Derived.Deep.QuietTactic
import Derived.BigQuiet
namespace Go.Proofs.YtcbdmaelgedbkaaGreatDoor
open Go.RowKit Go.Shelf

def sameR (a b : RDeed) : Bool := decide (a.keep = b.keep) && (a.kind == b.kind) && (a.n == b.n) && (a.m == b.m) && (a.k == b.k) && (a.path.toList == b.path.toList) && (a.as_.toList == b.as_.toList) && (a.b == b.b)

/-- In the loop of Same. -/
structure SameI (a b : RDeed) (w wr : World) : Prop where
  x : wr.heap[w.heap.size]? = some (.cells #[.int .i64 a.kind, .int .i64 a.n, .int .i64 a.m, .int .i64 a.k, .string a.path, .string a.as_, a.bv, a.kv] 44 (0, 0))
  y : wr.heap[w.heap.size + 1]? = some (.cells #[.int .i64 b.kind, .int .i64 b.n, .int .i64 b.m, .int .i64 b.k, .string b.path, .string b.as_, b.bv, b.kv] 44 (0, 0))
  ka : RdS encI wr a.kv a.keep
  kb : RdS encI wr b.kv b.keep
  ba : RdS encB wr a.bv a.b
  bb : RdS encB wr b.bv b.b
  bel : Below w.heap.size w wr
theorem rdS_at {α : Type} {enc : α → Value} {w : World} {A : Option Addr} {n c : Nat} {xs : List α} (h : RdS enc w (.slice A n c) xs) {j : Nat} {x : α} (hj : xs[j]? = some x) : ∃ b off, A = some ⟨b, off, none⟩ ∧ w.cell? ⟨b, off + j, none⟩ = some (enc x) := by
  rcases h with ⟨h, h2⟩ | ⟨a, c, h, h2⟩ | ⟨b, off, c, h1, h2, h3, h4⟩
  · rw [h2] at hj; simp at hj
  · rw [h2] at hj; simp at hj
  · simp only [Value.slice.injEq] at h1
    exact ⟨b, off, h1.1, h4 j x hj⟩
theorem SameI.drewN {a b : RDeed} {w wr : World} (h : SameI a b w wr) (n : Nat) : SameI a b w (wr.drewN n) :=
  ⟨h.x, h.y, h.ka, h.kb, h.ba, h.bb, below_drewN h.bel n⟩

set_option maxRecDepth 100000 in
set_option maxHeartbeats 2000000 in
theorem same_any (a b : RDeed) (w : World) (ha : a.In w) (hb : b.In w) :
    Calls Tryz.prog 23 #[a.val, b.val] w fun e w' => e = .returned (.bool (sameR a b)) ∧ Below w.heap.size w w' := by
  obtain ⟨ka, na, ma, xa, pa, sa, bva, kva, la, ta⟩ := a
  obtain ⟨kb, nb, mb, xb, pb, sb, bvb, kvb, lb, tb⟩ := b
  obtain ⟨a1, c1, hbv⟩ := rdS_len ha.rb
  obtain ⟨a2, c2, hkv⟩ := rdS_len ha.rk
  obtain ⟨a3, c3, hbv'⟩ := rdS_len hb.rb
  obtain ⟨a4, c4, hkv'⟩ := rdS_len hb.rk
  simp only at hbv hkv hbv' hkv'
  have hlA := ha.keepN
  have hlB := hb.keepN
  simp only at hlA hlB
  subst hbv hkv hbv' hkv'
  have hI : SameI ⟨ka, na, ma, xa, pa, sa, .slice a1 la.length c1, .slice a2 ta.length c2, la, ta⟩ ⟨kb, nb, mb, xb, pb, sb, .slice a3 lb.length c3, .slice a4 tb.length c4, lb, tb⟩ w ((w.alloc (.cells #[.int .i64 ka, .int .i64 na, .int .i64 ma, .int .i64 xa, .string pa, .string sa, .slice a1 la.length c1, .slice a2 ta.length c2] 44)).alloc (.cells #[.int .i64 kb, .int .i64 nb, .int .i64 mb, .int .i64 xb, .string pb, .string sb, .slice a3 lb.length c3, .slice a4 tb.length c4] 44)) := by
    have hB : Below w.heap.size w ((w.alloc (.cells #[.int .i64 ka, .int .i64 na, .int .i64 ma, .int .i64 xa, .string pa, .string sa, .slice a1 la.length c1, .slice a2 ta.length c2] 44)).alloc (.cells #[.int .i64 kb, .int .i64 nb, .int .i64 mb, .int .i64 xb, .string pb, .string sb, .slice a3 lb.length c3, .slice a4 tb.length c4] 44)) := ((Below.refl _ _).alloc (Nat.le_refl _) _).alloc (by simp) _
    refine ⟨?_, ?_, ha.rk.below hB, hb.rk.below hB, ha.rb.below hB, hb.rb.below hB, hB⟩
    · rw [Below.heap_alloc _ _ _ (by simp)]; exact heap_alloc_new _ _
    · rw [show w.heap.size + 1 = (w.alloc (.cells #[.int .i64 ka, .int .i64 na, .int .i64 ma, .int .i64 xa, .string pa, .string sa, .slice a1 la.length c1, .slice a2 ta.length c2] 44)).heap.size from by simp]; exact heap_alloc_new _ _
  have HI := Lib.hid hI; clear hI ha hb
  obtain ⟨S, hS⟩ : ∃ S, sameR ⟨ka, na, ma, xa, pa, sa, .slice a1 la.length c1, .slice a2 ta.length c2, la, ta⟩ ⟨kb, nb, mb, xb, pb, sb, .slice a3 lb.length c3, .slice a4 tb.length c4, lb, tb⟩ = S := ⟨_, rfl⟩
  rw [hS]
  have HS := Lib.hid hS; clear hS
  unfold RDeed.val
  by_cases hlen : ta.length = tb.length
  · go_enter Tryz.func23, Tryz.ntmps23
    have hne : ((ta.length : Int) != tb.length) = false := by rw [hlen]; simp
    have HLen := Lib.hid hlen; clear hlen
    go_wp2_with fail
    obtain ⟨W0, hW0⟩ : ∃ W0, ((w.alloc (.cells #[.int .i64 ka, .int .i64 na, .int .i64 ma, .int .i64 xa, .string pa, .string sa, .slice a1 la.length c1, .slice a2 ta.length c2] 44)).alloc (.cells #[.int .i64 kb, .int .i64 nb, .int .i64 mb, .int .i64 xb, .string pb, .string sb, .slice a3 lb.length c3, .slice a4 tb.length c4] 44)) = W0 := ⟨_, rfl⟩
    have hI := HI.out
    rw [hW0] at hI ⊢
    have HI0 := Lib.hid hI
    clear hW0 hI HI
    go_loopw [5] (fun i wr => ∃ j : Nat, j ≤ ta.length ∧ i = .int .i64 j ∧ Hid (∀ k, k < j → ta[k]? = tb[k]?) ∧ Hid (SameI ⟨ka, na, ma, xa, pa, sa, .slice a1 la.length c1, .slice a2 ta.length c2, la, ta⟩ ⟨kb, nb, mb, xb, pb, sb, .slice a3 lb.length c3, .slice a4 tb.length c4, lb, tb⟩ w wr)) (fun i _ => ta.length - (intOf i).toNat)
    case atStart => exact ⟨0, Nat.zero_le _, rfl, fun k hk => by omega, HI0⟩
    case round =>
      clear HI0 hne
      obtain ⟨j, hj, rfl, heq, hI⟩ := hrel
      have hbd : ta.length ≤ 2000 := hlA
      obtain ⟨q0, q1, q2, q3, q4, q5, q6, q7⟩ := box_cells hI.out.x
      obtain ⟨r0, r1, r2, r3, r4, r5, r6, r7⟩ := box_cells hI.out.y
      by_cases hlt : j < ta.length
      · obtain ⟨z1, hz1⟩ : ∃ z, ta[j]? = some z := ⟨ta[j], by simp [hlt]⟩
        obtain ⟨z2, hz2⟩ : ∃ z, tb[j]? = some z := ⟨tb[j]'(by rw [← HLen.out]; exact hlt), by simp [HLen.out ▸ hlt]⟩
        obtain ⟨b1, o1, rfl, hcell1⟩ := rdS_at hI.out.ka hz1
        obtain ⟨b2, o2, rfl, hcell2⟩ := rdS_at hI.out.kb hz2
        simp only [encI] at hcell1 hcell2
        have hlt2 : j < tb.length := by rw [← HLen.out]; exact hlt
        have HZ1 := Lib.hid hz1; have HZ2 := Lib.hid hz2
        clear hz1 hz2 q0 q1 q2 q3 q4 q5 q6 r0 r1 r2 r3 r4 r5 r6
        by_cases hzz : z1 = z2
        · have hzb : (z1 != z2) = false := by simp [hzz]
          have HZZ := Lib.hid hzz; clear hzz
          go_wp2_with fail
          go_quiet (fail)
          go_wp2_with fail
          go_roundw
          case rel =>
            refine ⟨j + 1, by omega, by go_num, ?_, hI.out.drewN _⟩
            intro k hk
            by_cases hkj : k < j
            · exact heq.out k hkj
            · obtain rfl : k = j := by omega
              rw [HZ1.out, HZ2.out, HZZ.out]
          case measure => simp [intOf]; omega
        · have hzb : (z1 != z2) = true := by simp [hzz]
          have HZZ := Lib.hid hzz; clear hzz
          go_wp2_with fail
          go_quiet (fail)
          go_wp2_with fail
          have HSF : Hid (S = false) := by
            unfold Hid
            rw [← HS.out]
            unfold sameR
            rw [decide_eq_false (fun e => HZZ.out (by simp only at e; have h1 := HZ1.out; rw [e, HZ2.out] at h1; exact (Option.some.inj h1).symm))]; simp
          go_ret
          exact ⟨by rw [HSF.out]; rfl, below_drewN hI.out.bel _⟩
      · obtain rfl : j = ta.length := by omega
        have HSK : Hid (S = ((ka == kb) && (na == nb) && (ma == mb) && (xa == xb) && (pa.toList == pb.toList) && (sa.toList == sb.toList) && (la == lb))) := by
          unfold Hid
          have : ta = tb := by
            apply List.ext_getElem?
            intro k
            by_cases hk : k < ta.length
            · exact heq.out k hk
            · rw [List.getElem?_eq_none (by omega), List.getElem?_eq_none (by have := HLen.out; omega)]
          rw [← HS.out]
          unfold sameR
          simp [this]
        have hcv1 := run_string_of (src := 41) Tryz.underlying41 Tryz.underlying5 Tryz.underlying9 hI.out.ba
        have hcv2 := run_string_of (src := 41) Tryz.underlying41 Tryz.underlying5 Tryz.underlying9 hI.out.bb
        simp only at hcv1 hcv2
        go_wp2_with fail
        all_goals
          clear q0 q1 q2 q3 q4 q5 q6 q7 r0 r1 r2 r3 r4 r5 r6 r7 hcv1 hcv2
          go_ret
          refine ⟨?_, hI.out.bel⟩
          rw [HSK.out]
          simp [*]
  · have HSF : Hid (S = false) := by
      unfold Hid
      rw [← HS.out]
      unfold sameR
      rw [decide_eq_false (fun e => hlen (by simp only at e; rw [e]))]; simp
    have hne : ((ta.length : Int) != tb.length) = true := by rw [bne_iff_ne]; omega
    clear hlen
    go_enter Tryz.func23, Tryz.ntmps23
    go_wp2_with fail
    go_ret
    exact ⟨by rw [HSF.out]; rfl, HI.out.bel⟩
end Go.Proofs.YtcbdmaelgedbkaaGreatDoor
