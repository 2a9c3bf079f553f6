/- The walk over the Drop of the document's wheel. Conditions: the wheel lies whole in memory. -/
import Derived.Test.YtbkgjghbmafoeaaRfAt
namespace Go.Proofs.Ytbkgjghbmafoeaa
open Go.RowKit

theorem RDrop.mk {w w2 w3 : World} {rb : Nat} {v0 v2 : Value} {g : Option Nat} {L : List Tm} {k m : Nat} {x : Tm} {id : Int} {xs : List Value} {e : Ending} (H : RfAt w rb v0 g L) (hx : L[k]? = some x) (hid : x.1 = id)
    (hO2 : Off (fun _ => False) w w2) (hT2 : Blk w2 rb 60 #[v0]) (hown : w2.ownsRow w.heap.size 98 2 v2 m xs) (hxs : xs = (tcells L).take (k * 2) ++ (tcells L).drop ((k + 1) * 2)) (hm : m = k + (L.length - (k + 1)))
    (hw : w3 = w2.setCell ⟨rb, 0, none⟩ v2) (he : e = .returned (.bool true)) : RDrop rb L g id w e w3 := by
  have hk : k < L.length := by
    rcases Nat.lt_or_ge k L.length with h' | h'
    · exact h'
    · rw [List.getElem?_eq_none h'] at hx; cases hx
  have hE : L.eraseIdx k = L.take k ++ L.drop (k + 1) := List.eraseIdx_eq_take_drop_succ ..
  have hlen : (L.eraseIdx k).length = m := by rw [List.length_eraseIdx, if_pos hk]; omega
  have hdel := erase_del H.srt.ids hx
  rw [hid] at hdel
  have hrow : w2.ownsRow w.heap.size 98 2 v2 (L.eraseIdx k).length (tcells (L.eraseIdx k)) := by
    rw [hlen, hE, tcells_append, tcells_take, tcells_drop, ← hxs]; exact hown
  have hR := RfAt.set hT2 hrow hw (H.srt.sub (List.eraseIdx_sublist _ _)) (by have := H.few; omega)
  refine ⟨v2, v2.ownBlock, L.eraseIdx k, true, he, ⟨hdel, .inl ⟨rfl, x, List.mem_of_getElem? hx, hid⟩⟩, hR, ?_, .inr fun i hi => (hown.lt i hi).1⟩
  rw [hw]; exact (hO2.mono (S' := (· = rb)) fun _ _ k => k.elim).setCell _ fun _ => rfl

set_option maxRecDepth 100000 in
set_option maxHeartbeats 2000000 in
theorem rdrop_any {w : World} {rb : Nat} {v : Value} {g : Option Nat} {L : List Tm} (id : Int) (H : RfAt w rb v g L) :
    Calls Try.prog 44 #[.pointer (some ⟨rb, 0, none⟩), .int .i64 id] w (RDrop rb L g id w) := by
  obtain ⟨i0, hi0, hz0, hz1, hz2⟩ := info_parts Try.info98
  obtain ⟨a, cap, hv, hcap, hcm, _⟩ := H.row.form
  subst hv
  have c0 : w.cell? ⟨rb, 0, none⟩ = some (.slice a L.length cap) := H.top.cell 0
  have hfew := H.few
  have hrbl := H.top.lt
  unfold maxLen at hcm
  go_enter Try.func44, Try.ntmps44
  go_wp2_with fail
  go_loopw [5] (RDropRel w id L) (fun i _ => L.length - (intOf i).toNat)
  case atStart => exact ⟨0, Nat.zero_le _, rfl, rfl, fun j x hj => absurd hj (Nat.not_lt_zero _)⟩
  case round =>
    obtain ⟨k, hk, rfl, hw, hno⟩ := hrel
    subst hw
    by_cases hlt : k < L.length
    · obtain ⟨x, hx⟩ : ∃ x, L[k]? = some x := ⟨L[k], List.getElem?_eq_getElem hlt⟩
      obtain ⟨b, off, rfl, hg, d0, d1⟩ := H.row.at hx
      have hkl : (k : Int) < (L.length : Int) := by omega
      have hk0 : (0 : Int) ≤ (k : Int) := by omega
      have HX := Lib.hid hx
      clear hx
      by_cases hxi : x.1 = id
      · have hown0 := World.ownsRow_made w (e := 98) (size := 2) #[] 0 (Nat.le_refl _) (by decide) rfl
        have hO0 := (Off.refl (fun _ => False) w).alloc (.cells #[] 98)
        have c0' : (w.alloc (.cells #[] 98)).cell? ⟨rb, 0, none⟩ = some (.slice (some ⟨b, off, none⟩) L.length cap) := (H.top.alloc _).cell 0
        have hkc : (k : Int) ≤ (cap : Int) := by omega
        have hkl1 : (k : Int) + 1 ≤ (L.length : Int) := by omega
        have hcap0 : ¬ cap = 0 := by omega
        have HI := Lib.hid hxi
        rw [hxi] at d0
        clear hxi
        by_cases hce : cap = k + 1
        · have hn : L.length ≤ k + 1 := by omega
          subst hce
          have hcc : (k : Int) + 1 ≤ ((k + 1 : Nat) : Int) := by omega
          go_wp2_with (first
            | (at_builtin; refine wpList_append_own _ rfl (.tmp 27) (.tmp 33) 58 rfl w.heap.size 98 i0 (.agg #[.int .i64 0, .int .i64 0]) 2 16 Try.underlying58 hi0 hz0 hz1 hz2 rfl (by decide) (.slice (some ⟨w.heap.size, 0, none⟩) 0 0) 0 [] rfl hown0 ⟨b, off, none⟩ k (k + 1) ((tcells L).take (k * 2)) rfl (by simp [tcells_length]; omega) (H.row.newsTake hO0) (fun u hu => tcells_one u (List.mem_of_mem_take hu)) (by unfold maxLen; omega) (by omega) (by simp) ?_; intro v1 w1 hown1 hgrow1 hnn1; have hO1 : Off (fun _ => False) w w1 := hO0.step (grown_off hgrow1) (fun i hi e => by simp [Value.ownBlock] at e; omega); have c2' : w1.cell? ⟨rb, 0, none⟩ = some (.slice (some ⟨b, off, none⟩) L.length (k + 1)) := (hO1.cell (p := ⟨rb, 0, none⟩) hrbl (fun k => k)).trans c0; have hl1 := hown1.lt; have hv1 : ¬ v1 = .slice none 0 0 := by simpa using hnn1)
            | (at_builtin; refine wpList_append_own _ rfl (.tmp 36) (.tmp 43) 58 rfl w.heap.size 98 i0 (.agg #[.int .i64 0, .int .i64 0]) 2 16 Try.underlying58 hi0 hz0 hz1 hz2 rfl (by decide) v1 _ _ rfl hown1 ⟨b, off, none⟩ 0 0 [] rfl rfl (fun j u hu => by simp at hu) (fun u hu => by simp at hu) (by unfold maxLen; omega) (by omega) (by have := hO1.size; omega) ?_; intro v2 w2 hown2 hgrow2 hnn2; have hO2 : Off (fun _ => False) w w2 := hO1.step (grown_off hgrow2) (fun i hi e => by have := (hl1 i e.symm).1; omega); have hT2 := hO2.blk H.top (fun k => k); have hown2' := Lib.hid hown2; obtain ⟨g2, cap2, cur2, rfl, hb2, hg2, hc2, hm2, hs2, ht2⟩ := hown2.2.resolve_left (fun e => hv1 (hnn2.1 e.1).1); have c2'' : w2.cell? ⟨rb, 0, none⟩ = some (.slice (some ⟨b, off, none⟩) L.length (k + 1)) := hT2.cell 0; have cf2 : w2.frozen? ⟨rb, 0, none⟩ = false := hT2.free 0; clear hnn2 hown2))
          go_ret
          exact RDrop.mk H HX.out HI.out hO2 hT2 hown2'.out (by rw [List.drop_eq_nil_of_le (by rw [tcells_length]; omega)]; simp) (by omega) (by simp) rfl
        · have hce' : ¬ k + 1 = cap := fun e => hce e.symm
          go_wp2_with (first
            | (at_builtin; refine wpList_append_own _ rfl (.tmp 27) (.tmp 33) 58 rfl w.heap.size 98 i0 (.agg #[.int .i64 0, .int .i64 0]) 2 16 Try.underlying58 hi0 hz0 hz1 hz2 rfl (by decide) (.slice (some ⟨w.heap.size, 0, none⟩) 0 0) 0 [] rfl hown0 ⟨b, off, none⟩ k cap ((tcells L).take (k * 2)) rfl (by simp [tcells_length]; omega) (H.row.newsTake hO0) (fun u hu => tcells_one u (List.mem_of_mem_take hu)) (by unfold maxLen; omega) (by omega) (by simp) ?_; intro v1 w1 hown1 hgrow1 hnn1; have hO1 : Off (fun _ => False) w w1 := hO0.step (grown_off hgrow1) (fun i hi e => by simp [Value.ownBlock] at e; omega); have c2' : w1.cell? ⟨rb, 0, none⟩ = some (.slice (some ⟨b, off, none⟩) L.length cap) := (hO1.cell (p := ⟨rb, 0, none⟩) hrbl (fun k => k)).trans c0; have hl1 := hown1.lt; have hv1 : ¬ v1 = .slice none 0 0 := by simpa using hnn1)
            | (at_builtin; refine wpList_append_own _ rfl (.tmp 36) (.tmp 43) 58 rfl w.heap.size 98 i0 (.agg #[.int .i64 0, .int .i64 0]) 2 16 Try.underlying58 hi0 hz0 hz1 hz2 rfl (by decide) v1 _ _ rfl hown1 ⟨b, off + (k + 1) * 2, none⟩ (L.length - (k + 1)) (cap - (k + 1)) ((tcells L).drop ((k + 1) * 2)) rfl (by simp [tcells_length]; omega) (H.row.newsDrop hO1) (fun u hu => tcells_one u (List.mem_of_mem_drop hu)) (by unfold maxLen; omega) (by omega) (by have := hO1.size; omega) ?_; intro v2 w2 hown2 hgrow2 hnn2; have hO2 : Off (fun _ => False) w w2 := hO1.step (grown_off hgrow2) (fun i hi e => by have := (hl1 i e.symm).1; omega); have hT2 := hO2.blk H.top (fun k => k); have hown2' := Lib.hid hown2; obtain ⟨g2, cap2, cur2, rfl, hb2, hg2, hc2, hm2, hs2, ht2⟩ := hown2.2.resolve_left (fun e => hv1 (hnn2.1 e.1).1); have c2'' : w2.cell? ⟨rb, 0, none⟩ = some (.slice (some ⟨b, off, none⟩) L.length cap) := hT2.cell 0; have cf2 : w2.frozen? ⟨rb, 0, none⟩ = false := hT2.free 0; clear hnn2 hown2))
          go_ret
          exact RDrop.mk H HX.out HI.out hO2 hT2 hown2'.out (by simp) (by omega) (by simp) rfl
      · go_wp2
        refine ⟨⟨k + 1, by omega, by go_num, rfl, fun j y hj hy => ?_⟩, by simp [intOf]; omega⟩
        by_cases hjk : j = k
        · subst hjk; rw [HX.out] at hy; cases hy; exact hxi
        · exact hno j y (by omega) hy
    · have hab : ∀ y ∈ L, y.1 ≠ id := fun y hy => by
        obtain ⟨j, hj, rfl⟩ := List.getElem_of_mem hy
        exact hno j _ (by omega) (List.getElem?_eq_getElem hj)
      go_wp2
      go_ret
      exact ⟨_, g, L, false, rfl, ⟨(del_none hab).symm, .inr ⟨rfl, hab⟩⟩, H, Off.refl _ _, .inl rfl⟩
end Go.Proofs.Ytbkgjghbmafoeaa
