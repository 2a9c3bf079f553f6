/- The walk over the document's Take: whoever is there. Conditions: the meters lie whole in memory; the time is an int. -/
import Derived.Test.YtepibimlmfhceaaRtTakePure
namespace Go.Proofs.Ytepibimlmfhceaa
open Go.RowKit

set_option maxRecDepth 100000 in
set_option maxHeartbeats 2000000 in
theorem rtake12_some {w : World} {rb : Nat} {rate burst : Int} {v : Value} {l : List REnt} (hi lo now : Int) (h : RAt w rb rate burst v l) (hn : I64 now) {i : Nat} {x : REnt} (hx : l[i]? = some x) (hxa : x.a = (hi, lo)) :
    Calls Try.prog 26 #[.pointer (some ⟨rb, 0, none⟩), .agg #[.int .u64 hi, .int .u64 lo], .int .i64 now] w (RTake rb rate burst v l (hi, lo) now w) := by
  obtain ⟨i0, hi0, hz0, hz1, hz2⟩ := info_parts Try.info76
  have hS := Blk.new w 46 #[.int .u64 hi, .int .u64 lo]
  have hO0 := (Off.refl (fun _ => False) w).alloc (.cells #[.int .u64 hi, .int .u64 lo] 46)
  have h0 := h.off hO0 (fun _ _ k => k)
  have s0 : (w.alloc (.cells #[.int .u64 hi, .int .u64 lo] 46)).cell? ⟨w.heap.size, 0, none⟩ = some (.int .u64 hi) := hS.cell 0
  have s1 : (w.alloc (.cells #[.int .u64 hi, .int .u64 lo] 46)).cell? ⟨w.heap.size, 1, none⟩ = some (.int .u64 lo) := hS.cell 1
  have hil : i < l.length := by
    rcases Nat.lt_or_ge i l.length with h' | h'
    · exact h'
    · rw [List.getElem?_eq_none h'] at hx; cases hx
  have hxm := List.mem_of_getElem? hx
  have hfew := h.few
  go_enter Try.func26, Try.ntmps26
  go_wp2_with fail
  refine (at_any hi lo h0).mono ?_
  rintro e w2 ⟨hO2, ⟨k, x', hx', hxa', rfl⟩ | ⟨hno, rfl⟩⟩
  · have hki : k = i := by
      have := nodup_inj h.keys (List.mem_of_getElem? hx') hxm (hxa'.trans hxa.symm)
      subst this
      have hkl : k < l.length := by
        rcases Nat.lt_or_ge k l.length with h' | h'
        · exact h'
        · rw [List.getElem?_eq_none h'] at hx'; cases hx'
      have hnd : l.Nodup := (List.nodup_iff_pairwise_ne.2 ((List.pairwise_map.1 (List.nodup_iff_pairwise_ne.1 h.keys)).imp fun hne e => hne (by rw [e])))
      rw [List.getElem?_eq_getElem hkl] at hx'
      rw [List.getElem?_eq_getElem hil] at hx
      exact (List.getElem_inj hnd).1 (by simp only [Option.some.injEq] at hx hx'; rw [hx, hx'])
    subst hki
    rw [hx] at hx'; cases hx'
    have hO3 := ((hO0.step hO2 (fun _ _ k => k)).alloc (.cells #[.int .u64 hi, .int .u64 lo, .pointer none] 75))
    have h3 := h.off hO3 (fun _ _ k => k)
    have hS2 := hO2.blk hS id
    obtain ⟨a, cap, hv, hcap, hcm, hcell⟩ := ownsRow_form h3.row
    obtain ⟨g, rfl, hgo, hg⟩ := hcell k hil
    subst hv
    have c2 : (w2.alloc (.cells #[.int .u64 hi, .int .u64 lo, .pointer none] 75)).cell? ⟨rb, 2, none⟩ = some (.slice (some ⟨g, 0, none⟩) l.length cap) := h3.top.cell 2
    rw [List.getElem?_map, hx] at hg
    have hg' : (w2.alloc (.cells #[.int .u64 hi, .int .u64 lo, .pointer none] 75)).cell? ⟨g, k, none⟩ = some (.pointer (some ⟨x.o, 0, none⟩)) := hg
    have t0 : w2.cell? ⟨w.heap.size, 0, none⟩ = some (.int .u64 hi) := hS2.cell 0
    have t1 : w2.cell? ⟨w.heap.size, 1, none⟩ = some (.int .u64 lo) := hS2.cell 1
    have hk0 : (0 : Int) ≤ (k : Int) := by omega
    have hkl : (k : Int) < (l.length : Int) := by omega
    have HX := Lib.hid hx
    clear hx hg hcell s0 s1
    unfold maxLen at hcm
    go_wp2_with fail
    clear c2 hg' t0 t1
    generalize w2.alloc (.cells #[.int .u64 hi, .int .u64 lo, .pointer none] 75) = w3 at *
    refine (out_any k h3 hil).mono ?_
    rintro e w4 ⟨v4, rfl, h4, hO4, hv4⟩
    have hU4 := hO4.blk (h3.one x hxm) (fun e => MAt.blk_ne h3.top (h3.one x hxm) (by decide) e.symm)
    have hB4 := h3.bk x hxm |>.off hO4 (fun e => MAt.blk_ne h3.top (h3.bk x hxm) (by decide) e.symm)
    have hlen4 : (l.eraseIdx k).length + 1 = l.length := by rw [List.length_eraseIdx, if_pos hil]; omega
    have c4 : w4.cell? ⟨rb, 2, none⟩ = some v4 := h4.top.cell 2
    go_wp2_with (first
      | (at_builtin; refine wpList_append_own_at _ rfl (.tmp 90) (.tmp 92) 57 rfl 0 76 i0 (.pointer none) 1 8 Try.underlying57 hi0 hz0 hz1 hz2 rfl (by decide) v4 _ _ rfl (h4.row.alloc _) ⟨w4.heap.size, 0, none⟩ 1 1 [.pointer (some ⟨x.o, 0, none⟩)] rfl rfl (cell_one_new _ _ _) (fun u hu => by simp at hu; subst hu; rfl) (by unfold maxLen; omega) (by omega) (Nat.zero_le _) ?_; intro v5 w5 hown5 hgrow5 hnn5 hloc5; have hO5 : Off (fun i => v4.ownBlock = some i) w4 w5 := (((Off.refl (fun _ => False) w4).alloc (.cells #[.pointer (some ⟨x.o, 0, none⟩)] 76)).mono (fun _ _ k => k.elim)).step (grown_off hgrow5) (fun i _ e => e.symm); have hT5 := hO5.blk h4.top (fun e => by obtain ⟨cur, hb⟩ := ownsRow_blk h4.row e; exact MAt.blk_ne hb h4.top (by decide) rfl); have c5 : w5.cell? ⟨rb, 2, none⟩ = some v4 := hT5.cell 2; have f5 : w5.frozen? ⟨rb, 2, none⟩ = false := hT5.free 2; have hU5 := hO5.blk hU4 (fun e => by obtain ⟨cur, hb⟩ := ownsRow_blk h4.row e; exact MAt.blk_ne hb hU4 (by decide) rfl); have u5 : w5.cell? ⟨x.o, 2, none⟩ = some (.pointer (some ⟨x.c, 0, none⟩)) := hU5.cell 2; have hne5 : ¬ rb = x.o := MAt.blk_ne hT5 hU5 (by decide); have hv5 : ¬ v5 = .slice none 0 0 := fun e => absurd (hnn5.1 e).2 (by omega); obtain ⟨g5, cap5, cur5, rfl, hb5, hg5, hc5, hm5, hs5, ht5⟩ := hown5.2.resolve_left (fun e => hv5 e.1)))
    have hB5 := hB4.off hO5 (fun e => by obtain ⟨cur, hb⟩ := ownsRow_blk h4.row e; exact MAt.blk_ne hb hB4 (by decide) rfl)
    have hnec : rb ≠ x.c := MAt.blk_ne hT5 hB5 (by decide)
    have hneo : x.o ≠ x.c := MAt.blk_ne hU5 hB5 (by decide)
    have hneg : g5 ≠ rb := MAt.blk_ne (T := 76) (cs := cur5) hg5 hT5 (by decide)
    have hnegc : g5 ≠ x.c := MAt.blk_ne (T := 76) (cs := cur5) hg5 hB5 (by decide)
    refine (rtake_any x.c x.s now 1 _ (Blk.setOther hB5 hnec _) (h.ok x hxm) hn ⟨by omega, by omega⟩).mono ?_
    rintro e w7 ⟨rfl, hB7, hO7⟩
    have hT7 := hO7.blk (hT5.setCell 2 (.slice (some ⟨g5, 0, none⟩) l.length cap5)) hnec
    have hU7 := hO7.blk (hU5.setOther hne5 (.slice (some ⟨g5, 0, none⟩) l.length cap5)) hneo
    have hG7 : Blk w7 g5 76 cur5 := hO7.blk (Blk.setOther (p := ⟨rb, 2, none⟩) (show Blk w5 g5 76 cur5 from hg5) hneg.symm (.slice (some ⟨g5, 0, none⟩) l.length cap5)) hnegc
    have hO47 : Off (fun i => i = rb ∨ v4.ownBlock = some i ∨ i = x.c) w4 w7 :=
      (((hO5.mono (S' := fun i => i = rb ∨ v4.ownBlock = some i ∨ i = x.c) fun _ _ k => .inr (.inl k)).setCell (p := ⟨rb, 2, none⟩) _ fun _ => .inl rfl)).step hO7 (fun _ _ k => .inr (.inr k))
    have hsub : ∀ y, y ∈ l.eraseIdx k → y ∈ l := fun y hy => List.mem_of_mem_eraseIdx hy
    have hnx : ∀ y ∈ l.eraseIdx k, y.a ≠ x.a := erased_ne h.keys HX.out
    go_wp2
    go_ret2
    have hfin := h4.snoc (n := { x with s := x.s.took now 1 }) hO47 (fun y hy e => by
        rcases e with e | e | e
        · exact MAt.blk_ne h4.top (h4.one y hy) (by decide) e.symm
        · obtain ⟨cur, hb⟩ := ownsRow_blk h4.row e; exact MAt.blk_ne hb (h4.one y hy) (by decide) rfl
        · exact MAt.blk_ne (h4.one y hy) hB4 (by decide) e) (fun y hy e => by
        rcases e with e | e | e
        · exact MAt.blk_ne h4.top (h4.bk y hy) (by decide) e.symm
        · obtain ⟨cur, hb⟩ := ownsRow_blk h4.row e; exact MAt.blk_ne hb (h4.bk y hy) (by decide) rfl
        · exact hnx y hy (by rw [nodup_inj h.cs (hsub y hy) hxm e])) (fun y hy e => hnx y hy (by rw [nodup_inj h.cs (hsub y hy) hxm e])) hnx (by omega) hT7
        (by rw [hlen4]; exact ⟨by simp; omega, .inr ⟨g5, cap5, cur5, rfl, Nat.zero_le _, hG7, by omega, hm5, hs5, by rw [← hlen4]; exact ht5⟩⟩) hU7 hB7 (Bk.took_ok (h.ok x hxm) hn)
    refine ⟨_, _, _, _, rfl, .inl ⟨k, x, HX.out, hxa, rfl, rfl, rfl⟩, hfin, ?_, ?_⟩
    · refine (hO3.mono (S' := ROwn rb (.slice (some ⟨g, 0, none⟩) l.length cap) l) (fun _ _ k => k.elim)).step (hO4.mono (S' := ROwn rb (.slice (some ⟨g, 0, none⟩) l.length cap) l) (fun i _ e => .inl e)) (fun _ _ k => k) |>.step hO47 ?_
      intro i hi e
      have := hO3.size
      rcases e with e | e | e
      · exact .inl e
      · have := hv4 i e; omega
      · exact .inr (.inr ⟨x, hxm, .inr e⟩)
    · intro i hi
      have := hO3.size
      have := hO4.size
      rcases hi with e | e | ⟨y, hy, e⟩
      · exact .inl (.inl e)
      · have hg5i : g5 = i := by simpa [Value.ownBlock] using e
        subst hg5i
        right
        rcases hloc5 with e | e
        · have := hv4 g5 (e ▸ rfl); omega
        · have : g5 = (w4.alloc (.cells #[.pointer (some ⟨x.o, 0, none⟩)] 76)).heap.size := by simpa [Value.ownBlock] using e
          simp at this; omega
      · rcases List.mem_append.1 hy with hy | hy
        · exact .inl (.inr (.inr ⟨y, hsub y hy, e⟩))
        · rw [List.mem_singleton.1 hy] at e; exact .inl (.inr (.inr ⟨x, hxm, e⟩))
  · exact absurd hxa (hno x hxm)
end Go.Proofs.Ytepibimlmfhceaa
