/- The walks over row.Push, heap.Push. Conditions: the row lies whole in memory; it is a heap. -/
import Derived.Test.YtbkgjghbmafoeaaPopWalk
namespace Go.Proofs.Ytbkgjghbmafoeaa
open Go.RowKit

theorem Try.info90 : (Try.prog.info? 90).map (fun i => (i.zero, i.size, i.bytes)) = some (some (.pointer none), 1, 8) := by kernel_rfl

theorem grown_off {w w' : World} {row : Option Nat} (h : w.grownBy w' row) : Off (fun i => some i = row) w w' :=
  ⟨h.os, h.tape, h.output, h.size, fun k hk hn => h.block k hk hn⟩

theorem ownsRow_form {w : World} {base T : Nat} {v : Value} {n : Nat} {xs : List Value} (h : w.ownsRow base T 1 v n xs) :
    ∃ a cap, v = .slice a n cap ∧ n ≤ cap ∧ cap ≤ maxLen ∧ ∀ i, i < n → ∃ g, a = some ⟨g, 0, none⟩ ∧ v.ownBlock = some g ∧ w.cell? ⟨g, i, none⟩ = xs[i]? := by
  obtain ⟨hl, ⟨rfl, rfl⟩ | ⟨g, cap, cur, rfl, _, hg, hc, hm, hs, ht⟩⟩ := h
  · exact ⟨none, 0, rfl, Nat.le_refl _, Nat.zero_le _, fun i hi => absurd hi (Nat.not_lt_zero _)⟩
  · refine ⟨some ⟨g, 0, none⟩, cap, rfl, hc, hm, fun i hi => ⟨g, rfl, rfl, ?_⟩⟩
    rw [← ht, List.getElem?_take, if_pos (by omega)]
    simp [World.cell?, hg]

theorem ownsRow_lt {w : World} {base T sz : Nat} {v : Value} {n : Nat} {xs : List Value} (h : w.ownsRow base T sz v n xs) {g : Nat} (hg : v.ownBlock = some g) : g < w.heap.size := (h.lt g hg).2

theorem ownsRow_off {w w' : World} {base T sz : Nat} {v : Value} {n : Nat} {xs : List Value} {S : Nat → Prop} (h : w.ownsRow base T sz v n xs) (k : Off S w w') (hn : ∀ g, v.ownBlock = some g → ¬ S g) : w'.ownsRow base T sz v n xs := by
  obtain ⟨hl, h0 | ⟨g, cap, cur, hv, hb, hg, r⟩⟩ := h
  · exact ⟨hl, .inl h0⟩
  · refine ⟨hl, .inr ⟨g, cap, cur, hv, hb, ?_, r⟩⟩
    rw [k.block g (Array.getElem?_eq_some_iff.1 hg).1 (hn g (by rw [hv]; rfl))]; exact hg

theorem ownsRow_blk {w : World} {base T sz : Nat} {v : Value} {n : Nat} {xs : List Value} (h : w.ownsRow base T sz v n xs) {g : Nat} (hg : v.ownBlock = some g) : ∃ cur, Blk w g T cur := by
  obtain ⟨_, ⟨rfl, _⟩ | ⟨g', cap, cur, rfl, _, hg', _⟩⟩ := h
  · simp [Value.ownBlock] at hg
  · simp [Value.ownBlock] at hg; subst hg; exact ⟨cur, hg'⟩

def hptrs (n : Nat) (h : Hp) : List Value := (List.range n).map fun i => .pointer (some ⟨(h i).o, 0, none⟩)

theorem hptrs_at {n i : Nat} {h : Hp} (hi : i < n) : (hptrs n h)[i]? = some (.pointer (some ⟨(h i).o, 0, none⟩)) := by
  simp [hptrs, List.getElem?_map, List.getElem?_range hi]

/-- A wheel's row, be it nil. -/
structure WRow (w : World) (wb r : Nat) (v : Value) (n : Nat) (h : Hp) : Prop where
  top : Blk w wb 89 #[v, .map (some r)]
  row : w.ownsRow 0 90 1 v n (hptrs n h)
  one : ∀ i, i < n → Blk w (h i).o 93 #[.int .i64 (h i).id, .int .i64 (h i).at_, .int .i64 i]

def WOwn (wb : Nat) (v : Value) (n : Nat) (h : Hp) (i : Nat) : Prop := i = wb ∨ v.ownBlock = some i ∨ ∃ k, k < n ∧ i = (h k).o

theorem WRow.off {w w' : World} {wb r : Nat} {v : Value} {n : Nat} {h : Hp} {S : Nat → Prop} (H : WRow w wb r v n h) (k : Off S w w') (hn : ∀ i, WOwn wb v n h i → ¬ S i) : WRow w' wb r v n h where
  top := k.blk H.top (hn _ (.inl rfl))
  row := ownsRow_off H.row k fun g hg => hn _ (.inr (.inl hg))
  one := fun i hi => k.blk (H.one i hi) (hn _ (.inr (.inr ⟨i, hi, rfl⟩)))

theorem HAt.wrow {w : World} {wb r g cap n : Nat} {h : Hp} (H : HAt w wb r g cap n h) : WRow w wb r (.slice (some ⟨g, 0, none⟩) n cap) n h where
  top := H.top
  one := H.one
  row := by
    obtain ⟨cur, hb, hs, hc, hm, hcur⟩ := H.row
    refine ⟨by simp [hptrs], .inr ⟨g, cap, cur, rfl, Nat.zero_le _, hb, hc, hm, by omega, ?_⟩⟩
    apply List.ext_getElem?
    intro i
    rw [List.getElem?_take]
    by_cases hi : i < n
    · rw [if_pos (by omega), hptrs_at hi]; simpa using hcur i hi
    · rw [if_neg (by omega), List.getElem?_eq_none (by simp [hptrs]; omega)]

theorem WRow.hat {w : World} {wb r : Nat} {v : Value} {n : Nat} {h : Hp} (H : WRow w wb r v n h) (hn : 0 < n) : ∃ g cap, v = .slice (some ⟨g, 0, none⟩) n cap ∧ HAt w wb r g cap n h := by
  obtain ⟨hl, ⟨rfl, rfl⟩ | ⟨g, cap, cur, rfl, _, hg, hc, hm, hs, ht⟩⟩ := H.row
  · omega
  · refine ⟨g, cap, rfl, H.top, ⟨cur, hg, by omega, hc, hm, fun i hi => ?_⟩, H.one⟩
    have := hptrs_at (h := h) hi
    rw [← ht, List.getElem?_take, if_pos (by omega)] at this
    simpa using this

def ext (n : Nat) (d : DE) (h : Hp) : Hp := fun k => if k = n then d else h k

theorem hptrs_ext {n : Nat} {d : DE} {h : Hp} : hptrs (n + 1) (ext n d h) = hptrs n h ++ [.pointer (some ⟨d.o, 0, none⟩)] := by
  unfold hptrs
  rw [List.range_succ, List.map_append]
  congr 1
  · refine List.map_congr_left fun i hi => ?_
    have : i ≠ n := by have := List.mem_range.1 hi; omega
    simp [ext, this]
  · simp [ext]

def RPush (wb r : Nat) (v : Value) (n : Nat) (h : Hp) (d : DE) (w : World) (e : Ending) (w' : World) : Prop :=
  ∃ g cap, e = .returned (.tuple #[]) ∧ HAt w' wb r g cap (n + 1) (ext n d h) ∧ Off (fun i => i = wb ∨ v.ownBlock = some i ∨ i = d.o) w w' ∧ (v.ownBlock = some g ∨ w.heap.size ≤ g)

theorem run_assert90 (w : World) (p : Addr) : (Instr.typeAssert (.iface 90 (.pointer (some p))) 20 90 false).run Try.prog w = .ok (.pointer (some p)) w := by kernel_rfl

set_option maxRecDepth 100000 in
set_option maxHeartbeats 1000000 in
theorem rpush_any {w : World} {wb r : Nat} {v : Value} {n : Nat} {h : Hp} (d : DE) {x : Value} (H : WRow w wb r v n h) (hD : Blk w d.o 93 #[.int .i64 d.id, .int .i64 d.at_, x]) (hd : ∀ i, i < n → (h i).o ≠ d.o) (hN : n ≤ 1000000) :
    Calls Try.prog 70 #[.pointer (some ⟨wb, 0, none⟩), .iface 90 (.pointer (some ⟨d.o, 0, none⟩))] w (RPush wb r v n h d w) := by
  obtain ⟨i0, hi0, hz0, hz1, hz2⟩ := info_parts Try.info90
  obtain ⟨a, cap, hv, hcap, hcm, _⟩ := ownsRow_form H.row
  have c0 : w.cell? ⟨wb, 0, none⟩ = some v := H.top.cell 0
  have d2 : w.cell? ⟨d.o, 2, none⟩ = some x := hD.cell 2
  have f2 : w.frozen? ⟨d.o, 2, none⟩ = false := hD.free 2
  have hwd : wb ≠ d.o := blk_ne H.top hD (by decide)
  have hO1 : Off (· = d.o) w (w.setCell ⟨d.o, 2, none⟩ (.int .i64 n)) := (Off.refl _ _).setAt 2 _
  have hvd : ∀ g, v.ownBlock = some g → g ≠ d.o := fun g hg => by obtain ⟨cur, hb⟩ := ownsRow_blk H.row hg; exact blk_ne hb hD (by decide)
  have H1 := H.off hO1 (by
    rintro i (e | e | ⟨k, hk, e⟩)
    · rw [e]; exact hwd
    · exact hvd _ e
    · rw [e]; exact hd k hk)
  have hD1 : Blk (w.setCell ⟨d.o, 2, none⟩ (.int .i64 n)) d.o 93 #[.int .i64 d.id, .int .i64 d.at_, .int .i64 n] := hD.setCell 2 _
  have c1 : (w.setCell ⟨d.o, 2, none⟩ (.int .i64 n)).cell? ⟨wb, 0, none⟩ = some v := H1.top.cell 0
  have HX := Lib.hid hv
  unfold maxLen at hcm
  have hta := run_assert90 w ⟨d.o, 0, none⟩
  have hcn : ∀ j u, [Value.pointer (some ⟨d.o, 0, none⟩)][j]? = some u → ((w.setCell ⟨d.o, 2, none⟩ (.int .i64 n)).alloc (.cells #[.pointer (some ⟨d.o, 0, none⟩)] 90)).cell? ((⟨w.heap.size, 0, none⟩ : Addr).add j) = some u := fun j u hu => by
    have := cell_one_new (w.setCell ⟨d.o, 2, none⟩ (.int .i64 n)) (.pointer (some ⟨d.o, 0, none⟩)) 90 j u hu
    simpa using this
  have hT1 := H1.top
  have hsz : (w.setCell ⟨d.o, 2, none⟩ (.int .i64 n)).heap.size = w.heap.size := by simp
  subst hv
  go_enter Try.func70, Try.ntmps70
  go_wp2_with (first
      | (at_builtin; refine wpList_append_own_at _ rfl (.tmp 17) (.tmp 19) 87 rfl 0 90 i0 (.pointer none) 1 8 Try.underlying87 hi0 hz0 hz1 hz2 rfl (by decide) (.slice a n cap) n (hptrs n h) rfl (H1.row.alloc _) ⟨w.heap.size, 0, none⟩ 1 1 [.pointer (some ⟨d.o, 0, none⟩)] rfl rfl hcn (fun u hu => by simp at hu; subst hu; rfl) (by unfold maxLen; omega) (by omega) (Nat.zero_le _) ?_; intro v7 w7 hown7 hgrow7 hnn7 hloc7; have hO7 : Off (fun i => (Value.slice a n cap).ownBlock = some i) (w.setCell ⟨d.o, 2, none⟩ (.int .i64 n)) w7 := (((Off.refl (fun _ => False) (w.setCell ⟨d.o, 2, none⟩ (.int .i64 n))).alloc (.cells #[.pointer (some ⟨d.o, 0, none⟩)] 90)).mono (fun _ _ k => k.elim)).step (grown_off hgrow7) (fun i _ e => e.symm); have hT7 := hO7.blk hT1 (fun e => by obtain ⟨cur, hb⟩ := ownsRow_blk H1.row e; exact blk_ne hb hT1 (by decide) rfl); have c7 : w7.cell? ⟨wb, 0, none⟩ = some (.slice a n cap) := hT7.cell 0; have f7 : w7.frozen? ⟨wb, 0, none⟩ = false := hT7.free 0; have hv7 : ¬ v7 = .slice none 0 0 := fun e => absurd (hnn7.1 e).2 (by omega); obtain ⟨g7, cap7, cur7, rfl, hb7, hg7, hc7, hm7, hs7, ht7⟩ := hown7.2.resolve_left (fun e => hv7 e.1)))
  go_end0
  have hO2 : Off (fun i => i = wb ∨ (Value.slice a n cap).ownBlock = some i ∨ i = d.o) w (w7.setCell ⟨wb, 0, none⟩ (.slice (some ⟨g7, 0, none⟩) (n + 1) cap7)) :=
    ((hO1.mono (S' := fun i => i = wb ∨ (Value.slice a n cap).ownBlock = some i ∨ i = d.o) fun _ _ k => .inr (.inr k)).step hO7 (fun _ _ k => .inr (.inl k))).setCell _ fun _ => .inl rfl
  have hW : Off (· = wb) w7 (w7.setCell ⟨wb, 0, none⟩ (.slice (some ⟨g7, 0, none⟩) (n + 1) cap7)) := (Off.refl _ _).setAt 0 _
  have hg7' : Blk w7 g7 90 cur7 := hg7
  refine ⟨g7, cap7, rfl, ⟨hT7.setCell 0 _, ⟨cur7, hW.blk hg7' (blk_ne hg7' hT7 (by decide)), by omega, hc7, hm7, fun i hi => ?_⟩, fun i hi => ?_⟩, hO2, ?_⟩
  · have := hptrs_at (h := ext n d h) hi
    rw [hptrs_ext, ← ht7, List.getElem?_take, if_pos (by omega)] at this
    simpa using this
  · by_cases hin : i = n
    · subst hin
      have hx : ext i d h i = d := by simp [ext]
      rw [hx]
      exact hW.blk (hO7.blk hD1 (fun e => hvd _ e rfl)) (fun e => hwd e.symm)
    · have hx : ext n d h i = h i := by simp [ext, hin]
      rw [hx]
      have hb := H1.one i (by omega)
      have hb' := hO7.blk hb (fun e => by obtain ⟨cur, hc⟩ := ownsRow_blk H1.row e; exact blk_ne hb hc (by decide) rfl)
      exact hW.blk hb' (blk_ne hb' hT7 (by decide))
  · rcases hloc7 with e | e
    · exact .inl e.symm
    · right
      have : g7 = ((w.setCell ⟨d.o, 2, none⟩ (.int .i64 n)).alloc (.cells #[.pointer (some ⟨d.o, 0, none⟩)] 90)).heap.size := by simpa [Value.ownBlock] using e
      simp at this; omega

def PushR (wb r : Nat) (v : Value) (n : Nat) (h0 : Hp) (d : DE) (w : World) (e : Ending) (w' : World) : Prop :=
  ∃ g cap h, e = .returned (.tuple #[]) ∧ HAt w' wb r g cap (n + 1) h ∧ Rea (n + 1) (n + 1) (ext n d h0) h ∧ Heap h (n + 1) ∧
    Off (fun i => WOwn wb v n h0 i ∨ i = d.o) w w' ∧ (v.ownBlock = some g ∨ w.heap.size ≤ g)

theorem ext_rea {n : Nat} {d : DE} {h : Hp} (R : Rea n n h h) (hid : ∀ i, i < n → (h i).id ≠ d.id) (hd : ∀ i, i < n → (h i).o ≠ d.o) : Rea (n + 1) (n + 1) (ext n d h) (ext n d h) := by
  refine Rea.refl (fun i j hi hj he => ?_) (fun i j hi hj he => ?_)
  · simp only [ext] at he
    split at he <;> split at he
    · omega
    · exact absurd he.symm (hid j (by omega))
    · exact absurd he (hid i (by omega))
    · exact R.id i j (by omega) (by omega) he
  · simp only [ext] at he
    split at he <;> split at he
    · omega
    · exact absurd he.symm (hd j (by omega))
    · exact absurd he (hd i (by omega))
    · exact R.o i j (by omega) (by omega) he

set_option maxRecDepth 100000 in
set_option maxHeartbeats 1000000 in
theorem hpush_any {w : World} {wb r : Nat} {v : Value} {n : Nat} {h : Hp} (d : DE) {x : Value} (H : WRow w wb r v n h) (R : Rea n n h h) (hH : Heap h n) (hD : Blk w d.o 93 #[.int .i64 d.id, .int .i64 d.at_, x])
    (hd : ∀ i, i < n → (h i).o ≠ d.o) (hid : ∀ i, i < n → (h i).id ≠ d.id) (hN : n ≤ 100000) :
    Calls Try.prog 43 #[.iface 95 (.pointer (some ⟨wb, 0, none⟩)), .iface 90 (.pointer (some ⟨d.o, 0, none⟩))] w (PushR wb r v n h d w) := by
  have hm1 := meth_push w ⟨wb, 0, none⟩
  go_enter Try.func43, Try.ntmps43
  go_wp2_with fail
  refine (rpush_any d H hD hd (by omega)).mono ?_
  rintro e w2 ⟨g, cap, rfl, H2, hO2, hg⟩
  have c2 : w2.cell? ⟨wb, 0, none⟩ = some (.slice (some ⟨g, 0, none⟩) (n + 1) cap) := H2.top.cell 0
  have hm2 := meth_len w2 ⟨wb, 0, none⟩ _ c2
  have a1 : (n : Int) ≤ 100000 := by omega
  go_wp2_with fail
  refine (hlen_any w2 _ (n + 1) cap (by omega)).mono ?_
  rintro e w3 ⟨rfl, rfl⟩
  have hI : ((n + 1 : Nat) : Int) - 1 = (n : Int) := by omega
  have hI2 : ((n + 1 : Nat) : Int) = (n : Int) + 1 := by omega
  have R2 := ext_rea R hid hd
  have U2 : HUp (ext n d h) (n + 1) n := hH.add (fun k hk => by have : k ≠ n := by omega
                                                                simp [ext, this])
  go_wp2_with fail
  refine (up_any n H2 R2 U2 (by omega) (Nat.le_refl _) (by omega)).mono ?_
  rintro e w4 ⟨rfl, h4, H4, R4, hH4, hO4⟩
  go_wp2
  go_end0
  refine ⟨g, cap, h4, rfl, H4, R4, hH4, ?_, hg⟩
  refine (hO2.mono (S' := fun i => WOwn wb v n h i ∨ i = d.o) fun i _ e => ?_).step hO4 fun i hi e => ?_
  · rcases e with e | e | e
    · exact .inl (.inl e)
    · exact .inl (.inr (.inl e))
    · exact .inr e
  · rcases e with e | ⟨k, hk, e⟩
    · subst e
      rcases hg with hg | hg
      · exact .inl (.inr (.inl hg))
      · omega
    · simp only [ext] at e
      split at e
      · exact .inr e
      · exact .inl (.inr (.inr ⟨k, by omega, e⟩))
end Go.Proofs.Ytbkgjghbmafoeaa
