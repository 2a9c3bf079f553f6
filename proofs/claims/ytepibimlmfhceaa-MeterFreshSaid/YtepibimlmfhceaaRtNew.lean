/- The walk over the document's Take: a source that is not there, and there is room. Conditions: the meters lie whole in memory; the time is an int. -/
import Derived.Test.YtepibimlmfhceaaRtTake
import Derived.Deep.RegionHeld3
namespace Go.Proofs.Ytepibimlmfhceaa
open Go.RowKit

theorem Off.fresh {S : Nat → Prop} {w w' : World} (h : Off S w w') (hS : ∀ k, S k → w.heap.size ≤ k) : Off (fun _ => False) w w' :=
  ⟨h.os, h.tape, h.output, h.size, fun k hk _ => h.block k hk (fun hs => absurd (hS k hs) (by omega))⟩

set_option maxRecDepth 100000 in
set_option maxHeartbeats 2000000 in
theorem rtake12_few {w : World} {rb : Nat} {rate burst : Int} {v : Value} {l : List REnt} (hi lo now : Int) (h : RAt w rb rate burst v l) (hn : I64 now) (habs : ∀ e ∈ l, e.a ≠ (hi, lo)) (hlen : l.length < 32) :
    Calls Try.prog 26 #[.pointer (some ⟨rb, 0, none⟩), .agg #[.int .u64 hi, .int .u64 lo], .int .i64 now] w (RTake rb rate burst v l (hi, lo) now w) := by
  obtain ⟨i0, hi0, hz0, hz1, hz2⟩ := info_parts Try.info76
  have hS := Blk.new w 46 #[.int .u64 hi, .int .u64 lo]
  have hO0 := (Off.refl (fun _ => False) w).alloc (.cells #[.int .u64 hi, .int .u64 lo] 46)
  have h0 := h.off hO0 (fun _ _ k => k)
  have s0 : (w.alloc (.cells #[.int .u64 hi, .int .u64 lo] 46)).cell? ⟨w.heap.size, 0, none⟩ = some (.int .u64 hi) := hS.cell 0
  have s1 : (w.alloc (.cells #[.int .u64 hi, .int .u64 lo] 46)).cell? ⟨w.heap.size, 1, none⟩ = some (.int .u64 lo) := hS.cell 1
  go_enter Try.func26, Try.ntmps26
  go_wp2_with fail
  refine (at_any hi lo h0).mono ?_
  rintro e w3 ⟨hO2, ⟨k, x', hx', hxa', rfl⟩ | ⟨hno, rfl⟩⟩
  · exact absurd hxa' (habs x' (List.mem_of_getElem? hx'))
  · have h3 := h0.off hO2 (fun _ _ k => k)
    have hS3 := hO2.blk hS id
    have hO3 := (hO0.step hO2 (fun _ _ k => k)).mono (S' := ROwn rb v l) (fun _ _ k => k.elim)
    have hv3 : ∀ i, ROwn rb v l i → ROwn rb v l i ∨ w.heap.size ≤ i := fun i k => .inl k
    have hR : ∀ n : REnt, n.a = (hi, lo) → n.s = (Bk.new rate burst now).took now 1 → RTakeR rate burst l (hi, lo) now (l ++ [n]) ((Bk.new rate burst now).takes now 1) true :=
      fun n h1 h2 => .inr (.inl ⟨habs, hlen, n, h1, h2, rfl, rfl, rfl⟩)
    clear s0 s1 h0 hO0 hO2 hS
    obtain ⟨a, cap, hv, _⟩ := ownsRow_form h3.row
    have c2 : w3.cell? ⟨rb, 2, none⟩ = some v := h3.top.cell 2
    have hl32 : ¬ (l.length : Int) = 32 := by omega
    subst hv
    have hlen3' := hlen
    have habs3 := habs
    have hlen3 := h3.few
    have hrb3 := h3.top.lt
    have e0 : w3.cell? ⟨w.heap.size, 0, none⟩ = some (.int .u64 hi) := hS3.cell 0
    have e1 : w3.cell? ⟨w.heap.size, 1, none⟩ = some (.int .u64 lo) := hS3.cell 1
    have hU4 := Blk.new w3 75 #[.int .u64 hi, .int .u64 lo, .pointer none]
    have hO4 := (Off.refl (fun _ => False) w3).alloc (.cells #[.int .u64 hi, .int .u64 lo, .pointer none] 75)
    have h4 := h3.off hO4 (fun _ _ k => k)
    have r0 : (w3.alloc (.cells #[.int .u64 hi, .int .u64 lo, .pointer none] 75)).cell? ⟨rb, 0, none⟩ = some (.int .i64 rate) := h4.top.cell 0
    have r1 : (w3.alloc (.cells #[.int .u64 hi, .int .u64 lo, .pointer none] 75)).cell? ⟨rb, 1, none⟩ = some (.int .i64 burst) := h4.top.cell 1
    have hrb4 := h4.top.lt
    have hol := hU4.lt
    go_wp2_with fail
    clear e0 e1
    have hsz4 : w3.heap.size < (w3.alloc (.cells #[.int .u64 hi, .int .u64 lo, .pointer none] 75)).heap.size := by simp
    generalize w3.alloc (.cells #[.int .u64 hi, .int .u64 lo, .pointer none] 75) = w4 at *
    generalize ho : w3.heap.size = o at *
    go_region_held3 (fun w' => w'.cell? ⟨rb, 0, none⟩ = some (.int .i64 rate) ∧ w'.cell? ⟨rb, 1, none⟩ = some (.int .i64 burst)) (first | exact ⟨r0, r1⟩ | exact ⟨s0, s1⟩ | exact ⟨z0, z1⟩)
      (first | (go_at_call 15; refine (rnew_any rate burst now _).mono ?_; rintro e w5 ⟨c, rfl, hcn, hB5, hO5⟩; have s0 := (hO5.cell (p := ⟨rb, 0, none⟩) hrb4 id).trans r0; have s1 := (hO5.cell (p := ⟨rb, 1, none⟩) hrb4 id).trans r1; have hU5 := hO5.blk hU4.drew id; have k5 : w5.cell? ⟨o, 2, none⟩ = some (.pointer none) := hU5.cell 2; have kf5 : w5.frozen? ⟨o, 2, none⟩ = false := hU5.free 2; have hor : o ≠ rb := MAt.blk_ne hU4 h4.top (by decide); have hOs : Off (· = o) w5 (w5.setCell ⟨o, 2, none⟩ (.pointer (some ⟨c, 0, none⟩))) := (Off.refl _ _).setAt _ _; have z0 := (hOs.cell (p := ⟨rb, 0, none⟩) (Nat.lt_of_lt_of_le hrb4 hO5.size) hor.symm).trans s0; have z1 := (hOs.cell (p := ⟨rb, 1, none⟩) (Nat.lt_of_lt_of_le hrb4 hO5.size) hor.symm).trans s1))
    have hU6 : Blk (w5.setCell ⟨o, 2, none⟩ (.pointer (some ⟨c, 0, none⟩))) o 75 #[.int .u64 hi, .int .u64 lo, .pointer (some ⟨c, 0, none⟩)] := hU5.setCell 2 _
    have hoc : o ≠ c := MAt.blk_ne hU5 hB5 (by decide)
    have hB6 : BAt 61 (w5.setCell ⟨o, 2, none⟩ (.pointer (some ⟨c, 0, none⟩))) c (Bk.new rate burst now) := Blk.setOther hB5 hoc _
    have hcs : w3.heap.size ≤ c := by simp at hcn; omega
    have hos : w3.heap.size ≤ o := by omega
    have hO36 : Off (fun _ => False) w3 (w5.setCell ⟨o, 2, none⟩ (.pointer (some ⟨c, 0, none⟩))) :=
      (((hO4.drew.step hO5 (fun _ _ k => k)).mono (S' := fun i => i = o) (fun _ _ k => k.elim)).step hOs (fun _ _ k => k)).fresh (fun k hk => by omega)
    have h6 := h3.off hO36 (fun _ _ k => k)
    clear s0 s1 z0 z1 r0 r1 k5 kf5 hU5 hB5 hOs hO5 hO4 h4 hU4 hrb4 hol hcn hsz4 ho
    generalize w5.setCell ⟨o, 2, none⟩ (.pointer (some ⟨c, 0, none⟩)) = w6 at *
    generalize Value.slice a l.length cap = v3 at *
    have c6 : w6.cell? ⟨rb, 2, none⟩ = some (v3) := h6.top.cell 2
    go_wp2_with (first
      | (at_builtin; refine wpList_append_own_at _ rfl (.tmp 90) (.tmp 92) 57 rfl 0 76 i0 (.pointer none) 1 8 Try.underlying57 hi0 hz0 hz1 hz2 rfl (by decide) (v3) _ _ rfl (h6.row.alloc _) ⟨w6.heap.size, 0, none⟩ 1 1 [.pointer (some ⟨o, 0, none⟩)] rfl rfl (cell_one_new _ _ _) (fun u hu => by simp at hu; subst hu; rfl) (by unfold maxLen; omega) (by omega) (Nat.zero_le _) ?_; intro v7 w7 hown7 hgrow7 hnn7 hloc7; have hO7 : Off (fun i => (v3).ownBlock = some i) w6 w7 := (((Off.refl (fun _ => False) w6).alloc (.cells #[.pointer (some ⟨o, 0, none⟩)] 76)).mono (fun _ _ k => k.elim)).step (grown_off hgrow7) (fun i _ e => e.symm); have hT7 := hO7.blk h6.top (fun e => by obtain ⟨cur, hb⟩ := ownsRow_blk h6.row e; exact MAt.blk_ne hb h6.top (by decide) rfl); have c7 : w7.cell? ⟨rb, 2, none⟩ = some (v3) := hT7.cell 2; have f7 : w7.frozen? ⟨rb, 2, none⟩ = false := hT7.free 2; have hU7 := hO7.blk hU6 (fun e => by obtain ⟨cur, hb⟩ := ownsRow_blk h6.row e; exact MAt.blk_ne hb hU6 (by decide) rfl); have u7 : w7.cell? ⟨o, 2, none⟩ = some (.pointer (some ⟨c, 0, none⟩)) := hU7.cell 2; have hne7 : ¬ rb = o := MAt.blk_ne hT7 hU7 (by decide); have hv7 : ¬ v7 = .slice none 0 0 := fun e => absurd (hnn7.1 e).2 (by omega); obtain ⟨g7, cap7, cur7, rfl, hb7, hg7, hc7, hm7, hs7, ht7⟩ := hown7.2.resolve_left (fun e => hv7 e.1)))
    have hB7 := hB6.off hO7 (fun e => by obtain ⟨cur, hb⟩ := ownsRow_blk h6.row e; exact MAt.blk_ne hb hB6 (by decide) rfl)
    have hnec : rb ≠ c := MAt.blk_ne hT7 hB7 (by decide)
    have hneg : g7 ≠ rb := MAt.blk_ne (T := 76) (cs := cur7) hg7 hT7 (by decide)
    have hnegc : g7 ≠ c := MAt.blk_ne (T := 76) (cs := cur7) hg7 hB7 (by decide)
    have hs0 := Bk.new_ok rate burst now hn
    refine (rtake_any c (Bk.new rate burst now) now 1 _ (Blk.setOther hB7 hnec _) hs0 hn ⟨by omega, by omega⟩).mono ?_
    rintro e w8 ⟨rfl, hB8, hO8⟩
    have hT8 := hO8.blk (hT7.setCell 2 (.slice (some ⟨g7, 0, none⟩) ((l).length + 1) cap7)) hnec
    have hU8 := hO8.blk (hU7.setOther hne7 (.slice (some ⟨g7, 0, none⟩) ((l).length + 1) cap7)) hoc
    have hG8 : Blk w8 g7 76 cur7 := hO8.blk (Blk.setOther (p := ⟨rb, 2, none⟩) (show Blk w7 g7 76 cur7 from hg7) hneg.symm (.slice (some ⟨g7, 0, none⟩) ((l).length + 1) cap7)) hnegc
    have hO68 : Off (fun i => i = rb ∨ (v3).ownBlock = some i ∨ i = c) w6 w8 :=
      (((hO7.mono (S' := fun i => i = rb ∨ (v3).ownBlock = some i ∨ i = c) fun _ _ k => .inr (.inl k)).setCell (p := ⟨rb, 2, none⟩) _ fun _ => .inl rfl)).step hO8 (fun _ _ k => .inr (.inr k))
    have hO38 := (hO36.mono (S' := fun i => i = rb ∨ (v3).ownBlock = some i ∨ i = c) (fun _ _ k => k.elim)).step hO68 (fun _ _ k => k)
    go_wp2
    go_ret2
    have hfin := h3.snoc (n := ⟨(hi, lo), o, c, (Bk.new rate burst now).took now 1⟩) hO38 (fun y hy e => by
        rcases e with e | e | e
        · exact MAt.blk_ne h3.top (h3.one y hy) (by decide) e.symm
        · obtain ⟨cur, hb⟩ := ownsRow_blk h3.row e; exact MAt.blk_ne hb (h3.one y hy) (by decide) rfl
        · have := (h3.one y hy).lt; omega) (fun y hy e => by
        rcases e with e | e | e
        · exact MAt.blk_ne h3.top (h3.bk y hy) (by decide) e.symm
        · obtain ⟨cur, hb⟩ := ownsRow_blk h3.row e; exact MAt.blk_ne hb (h3.bk y hy) (by decide) rfl
        · have := (h3.bk y hy).lt; omega) (fun y hy e => by have := (h3.bk y hy).lt; simp only at e; omega) habs3 hlen3' hT8
        ⟨by simp, .inr ⟨g7, cap7, cur7, rfl, Nat.zero_le _, hG8, hc7, hm7, hs7, ht7⟩⟩ hU8 hB8 (Bk.took_ok hs0 hn)
    refine ⟨_, _, _, _, rfl, hR _ rfl rfl, hfin, hO3.step hO38 ?_, ?_⟩
    · intro i hi e
      have := hO3.size
      rcases e with e | e | e
      · exact .inl e
      · exact (hv3 i (.inr (.inl e))).elim id (fun k => by omega)
      · omega
    · intro i hi
      have := hO3.size
      have := hO36.size
      rcases hi with e | e | ⟨y, hy, e⟩
      · exact .inl (.inl e)
      · have hg7i : g7 = i := by simpa [Value.ownBlock] using e
        subst hg7i
        rcases hloc7 with e | e
        · exact hv3 g7 (.inr (.inl (e ▸ rfl)))
        · right
          have : g7 = (w6.alloc (.cells #[.pointer (some ⟨o, 0, none⟩)] 76)).heap.size := by simpa [Value.ownBlock] using e
          simp at this; omega
      · rcases List.mem_append.1 hy with hy | hy
        · exact hv3 i (.inr (.inr ⟨y, hy, e⟩))
        · rw [List.mem_singleton.1 hy] at e
          simp only at e
          right; omega
end Go.Proofs.Ytepibimlmfhceaa
