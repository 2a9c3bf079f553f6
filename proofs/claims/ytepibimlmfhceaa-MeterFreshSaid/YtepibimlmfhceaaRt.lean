/- The document's meters in memory, and the walks over its New, at, Has, out. Conditions: they lie whole in memory. -/
import Derived.Test.YtepibimlmfhceaaMtStep
import Derived.Test.YtepibimlmfhceaaOwnPure
import Derived.Maps.AppendAt
namespace Go.Proofs.Ytepibimlmfhceaa
open Go.RowKit

/-- A source's: its address, its block, its bucket's block, its bucket. -/
structure REnt where
  a : Int × Int
  o : Nat
  c : Nat
  s : Bk

def REnt.ptr (e : REnt) : Value := .pointer (some ⟨e.o, 0, none⟩)

structure RAt (w : World) (rb : Nat) (rate burst : Int) (v : Value) (l : List REnt) : Prop where
  top : Blk w rb 59 #[.int .i64 rate, .int .i64 burst, v]
  row : w.ownsRow 0 76 1 v l.length (l.map REnt.ptr)
  one : ∀ e ∈ l, Blk w e.o 75 #[.int .u64 e.a.1, .int .u64 e.a.2, .pointer (some ⟨e.c, 0, none⟩)]
  bk : ∀ e ∈ l, BAt 61 w e.c e.s
  ok : ∀ e ∈ l, e.s.Ok
  keys : (l.map (·.a)).Nodup
  cs : (l.map (·.c)).Nodup
  few : l.length ≤ 32

/-- The blocks of the document's meters. -/
def ROwn (rb : Nat) (v : Value) (l : List REnt) (i : Nat) : Prop := i = rb ∨ v.ownBlock = some i ∨ ∃ e ∈ l, i = e.o ∨ i = e.c

theorem ownsRow_form {w : World} {base T : Nat} {v : Value} {n : Nat} {xs : List Value} (h : w.ownsRow base T 1 v n xs) :
    ∃ a cap, v = .slice a n cap ∧ n ≤ cap ∧ cap ≤ maxLen ∧ ∀ i, i < n → ∃ g, a = some ⟨g, 0, none⟩ ∧ v.ownBlock = some g ∧ w.cell? ⟨g, i, none⟩ = xs[i]? := by
  obtain ⟨hl, ⟨rfl, rfl⟩ | ⟨g, cap, cur, rfl, _, hg, hc, hm, hs, ht⟩⟩ := h
  · exact ⟨none, 0, rfl, Nat.le_refl _, Nat.zero_le _, fun i hi => absurd hi (Nat.not_lt_zero _)⟩
  · refine ⟨some ⟨g, 0, none⟩, cap, rfl, hc, hm, fun i hi => ⟨g, rfl, rfl, ?_⟩⟩
    rw [← ht, List.getElem?_take, if_pos (by omega)]
    simp [World.cell?, hg]

theorem ownsRow_lt {w : World} {base T sz : Nat} {v : Value} {n : Nat} {xs : List Value} (h : w.ownsRow base T sz v n xs) {g : Nat} (hg : v.ownBlock = some g) : g < w.heap.size := (h.lt g hg).2

theorem ownsRow_off {w w' : World} {base T sz : Nat} {v : Value} {n : Nat} {xs : List Value} {S : Nat → Prop} (h : w.ownsRow base T sz v n xs) (k : Off S w w') (hn : ∀ g, v.ownBlock = some g → ¬ S g) : w'.ownsRow base T sz v n xs := by
  obtain ⟨hl, h0 | ⟨g, cap, cur, hv, hb, hg, r⟩⟩ := h
  · exact ⟨hl, .inl h0⟩
  · refine ⟨hl, .inr ⟨g, cap, cur, hv, hb, ?_, r⟩⟩
    rw [k.block g (Array.getElem?_eq_some_iff.1 hg).1 (hn g (by rw [hv]; rfl))]; exact hg

/-- The row's block is known whole. -/
theorem ownsRow_blk {w : World} {base T sz : Nat} {v : Value} {n : Nat} {xs : List Value} (h : w.ownsRow base T sz v n xs) {g : Nat} (hg : v.ownBlock = some g) : ∃ cur, Blk w g T cur := by
  obtain ⟨_, ⟨rfl, _⟩ | ⟨g', cap, cur, rfl, _, hg', _⟩⟩ := h
  · simp [Value.ownBlock] at hg
  · simp [Value.ownBlock] at hg; subst hg; exact ⟨cur, hg'⟩

namespace RAt
variable {w w' : World} {rb : Nat} {rate burst : Int} {v : Value} {l : List REnt}

theorem off {S : Nat → Prop} (h : RAt w rb rate burst v l) (k : Off S w w') (hn : ∀ i, ROwn rb v l i → ¬ S i) : RAt w' rb rate burst v l where
  top := k.blk h.top (hn _ (.inl rfl))
  row := ownsRow_off h.row k (fun g hg => hn g (.inr (.inl hg)))
  one := fun e he => k.blk (h.one e he) (hn _ (.inr (.inr ⟨e, he, .inl rfl⟩)))
  bk := fun e he => k.blk (h.bk e he) (hn _ (.inr (.inr ⟨e, he, .inr rfl⟩)))
  ok := h.ok
  keys := h.keys
  cs := h.cs
  few := h.few

theorem own_lt (h : RAt w rb rate burst v l) {i : Nat} (hi : ROwn rb v l i) : i < w.heap.size := by
  rcases hi with rfl | hi | ⟨e, he, rfl | rfl⟩
  · exact h.top.lt
  · exact ownsRow_lt h.row hi
  · exact (h.one e he).lt
  · exact (h.bk e he).lt

/-- The meters' blocks and the document's are others. -/
theorem apart {mb r : Nat} {turns : Int} {rate' burst' : Int} {es : List Ent} {clock : Nat} (h : RAt w rb rate burst v l) (hM : MAt w mb r rate' burst' turns es clock) {i : Nat} (hi : ROwn rb v l i) : ¬ Own mb r es i := by
  rcases hi with rfl | hi | ⟨e, he, rfl | rfl⟩
  · exact own_not_blk hM h.top (by decide) (by decide) (by decide)
  · obtain ⟨cur, hb⟩ := ownsRow_blk h.row hi; exact own_not_blk hM hb (by decide) (by decide) (by decide)
  · exact own_not_blk hM (h.one e he) (by decide) (by decide) (by decide)
  · exact own_not_blk hM (h.bk e he) (by decide) (by decide) (by decide)
end RAt

def RNew (rate burst : Int) (w : World) (e : Ending) (w' : World) : Prop :=
  ∃ rb, e = .returned (.pointer (some ⟨rb, 0, none⟩)) ∧ w.heap.size ≤ rb ∧ RAt w' rb rate burst (.slice none 0 0) [] ∧ Off (fun _ => False) w w'

set_option maxHeartbeats 400000 in
theorem r12new_any (rate burst : Int) (w : World) : Calls Try.prog 25 #[.int .i64 rate, .int .i64 burst] w (RNew rate burst w) := by
  go_enter Try.func25, Try.ntmps25
  go_wp2
  go_ret
  refine ⟨w.heap.size, rfl, Nat.le_refl _, ⟨Blk.new w 59 _, World.ownsRow_nil _ _ _ _, ?_, ?_, ?_, ?_, ?_, ?_⟩, (Off.refl _ _).alloc _⟩
  all_goals simp

theorem run_eql_addr (w : World) (x y : Int × Int) : (binOp .eql 46 (.agg #[.int .u64 x.1, .int .u64 x.2]) (.agg #[.int .u64 y.1, .int .u64 y.2])).run Try.prog w = .ok (.bool (decide (x = y))) w := by
  simp only [binOp]
  have := addr_eq w x y
  unfold addrV at this
  simp [this]

/-- The loop of at: none of the first k has the address. -/
def AtRel (W : World) (a : Int × Int) (l : List REnt) (i : Value) (wr : World) : Prop :=
  ∃ k : Nat, k ≤ l.length ∧ i = .int .i64 k ∧ (∀ j, j < k → ∀ e, l[j]? = some e → e.a ≠ a) ∧ Off (fun _ => False) W wr

def AtPost (a : Int × Int) (l : List REnt) (w : World) (e : Ending) (w' : World) : Prop :=
  Off (fun _ => False) w w' ∧ ((∃ (k : Nat) (x : REnt), l[k]? = some x ∧ x.a = a ∧ e = .returned (.int .i64 k)) ∨ ((∀ x ∈ l, x.a ≠ a) ∧ e = .returned (.int .i64 (-1))))

set_option maxHeartbeats 1000000 in
theorem at_any {w : World} {rb : Nat} {rate burst : Int} {v : Value} {l : List REnt} (hi lo : Int) (h : RAt w rb rate burst v l) :
    Calls Try.prog 31 #[.pointer (some ⟨rb, 0, none⟩), .agg #[.int .u64 hi, .int .u64 lo]] w (AtPost (hi, lo) l w) := by
  have hS := Blk.new w 46 #[.int .u64 hi, .int .u64 lo]
  have hO0 := (Off.refl (fun _ => False) w).alloc (.cells #[.int .u64 hi, .int .u64 lo] 46)
  have h0 := h.off hO0 (fun _ _ k => k)
  have hlen := h.few
  obtain ⟨a, cap, rfl, hcap, hcm, _⟩ := ownsRow_form h.row
  unfold maxLen at hcm
  go_enter Try.func31, Try.ntmps31
  go_wp2_with fail
  go_loopw [5] (AtRel (w.alloc (.cells #[.int .u64 hi, .int .u64 lo] 46)) (hi, lo) l) (fun i _ => l.length - (intOf i).toNat)
  case atStart => exact ⟨0, Nat.zero_le _, rfl, fun j hj => absurd hj (Nat.not_lt_zero _), Off.refl _ _⟩
  case round =>
    obtain ⟨k, hk, rfl, hno, hO⟩ := hrel
    have h1 := h0.off hO (fun _ _ k => k)
    have hS1 := hO.blk hS id
    have c2 : wr.cell? ⟨rb, 2, none⟩ = some (.slice a l.length cap) := h1.top.cell 2
    have s0 : wr.cell? ⟨w.heap.size, 0, none⟩ = some (.int .u64 hi) := hS1.cell 0
    have s1 : wr.cell? ⟨w.heap.size, 1, none⟩ = some (.int .u64 lo) := hS1.cell 1
    by_cases hlt : k < l.length
    · have hkl : (k : Int) < (l.length : Int) := by omega
      have hk0 : (0 : Int) ≤ (k : Int) := by omega
      obtain ⟨a', cap', hv, _, _, hcell⟩ := ownsRow_form h1.row
      simp only [Value.slice.injEq, true_and] at hv
      obtain ⟨rfl, rfl⟩ := hv
      obtain ⟨g, rfl, _, hg⟩ := hcell k hlt
      obtain ⟨x, hx⟩ : ∃ x, l[k]? = some x := ⟨l[k], List.getElem?_eq_getElem hlt⟩
      have hxm : x ∈ l := List.mem_of_getElem? hx
      rw [List.getElem?_map, hx] at hg
      have hg' : wr.cell? ⟨g, k, none⟩ = some (.pointer (some ⟨x.o, 0, none⟩)) := hg
      have o0 : wr.cell? ⟨x.o, 0, none⟩ = some (.int .u64 x.a.1) := (h1.one x hxm).cell 0
      have o1 : wr.cell? ⟨x.o, 1, none⟩ = some (.int .u64 x.a.2) := (h1.one x hxm).cell 1
      have heql := fun w => run_eql_addr w x.a (hi, lo)
      simp only at heql
      have HX := Lib.hid hx
      clear hg hx hcell
      go_wp2_with fail
      go_quiet (fail)
      go_wp2
      · go_ret
        have hxa : x.a = (hi, lo) := by assumption
        exact ⟨hO0.step (hO.drewN _) (fun _ _ k => k), .inl ⟨k, x, HX.out, hxa, rfl⟩⟩
      · have hxa : ¬ x.a = (hi, lo) := by assumption
        refine ⟨⟨k + 1, by omega, by go_num, fun j hj e he => ?_, hO.drewN _⟩, by simp [intOf]; omega⟩
        by_cases hjk : j = k
        · subst hjk; rw [HX.out] at he; cases he; exact hxa
        · exact hno j (by omega) e he
    · have hnone : ∀ x ∈ l, x.a ≠ (hi, lo) := fun x hx => by
        obtain ⟨j, hj, rfl⟩ := List.getElem_of_mem hx
        exact hno j (by omega) _ (List.getElem?_eq_getElem hj)
      go_wp2
      go_ret
      exact ⟨hO0.step hO (fun _ _ k => k), .inr ⟨hnone, rfl⟩⟩
/-- Has. -/
def RHas (hi lo : Int) (l : List REnt) (w : World) (e : Ending) (w' : World) : Prop :=
  Off (fun _ => False) w w' ∧ ((∃ x ∈ l, x.a = (hi, lo)) ∧ e = .returned (.bool true) ∨ (∀ x ∈ l, x.a ≠ (hi, lo)) ∧ e = .returned (.bool false))

set_option maxHeartbeats 1000000 in
theorem rhas_any {w : World} {rb : Nat} {rate burst : Int} {v : Value} {l : List REnt} (hi lo : Int) (h : RAt w rb rate burst v l) :
    Calls Try.prog 27 #[.pointer (some ⟨rb, 0, none⟩), .agg #[.int .u64 hi, .int .u64 lo]] w (RHas hi lo l w) := by
  have hS := Blk.new w 46 #[.int .u64 hi, .int .u64 lo]
  have hO0 := (Off.refl (fun _ => False) w).alloc (.cells #[.int .u64 hi, .int .u64 lo] 46)
  have h0 := h.off hO0 (fun _ _ k => k)
  have s0 : (w.alloc (.cells #[.int .u64 hi, .int .u64 lo] 46)).cell? ⟨w.heap.size, 0, none⟩ = some (.int .u64 hi) := hS.cell 0
  have s1 : (w.alloc (.cells #[.int .u64 hi, .int .u64 lo] 46)).cell? ⟨w.heap.size, 1, none⟩ = some (.int .u64 lo) := hS.cell 1
  go_enter Try.func27, Try.ntmps27
  go_wp2_with fail
  refine (at_any hi lo h0).mono ?_
  rintro e w2 ⟨hO, ⟨k, x, hx, hxa, rfl⟩ | ⟨hno, rfl⟩⟩
  · have hk : (0 : Int) ≤ (k : Int) := by omega
    go_wp2
    go_ret
    exact ⟨hO0.step hO (fun _ _ k => k), .inl ⟨⟨x, List.mem_of_getElem? hx, hxa⟩, rfl⟩⟩
  · go_wp2
    go_ret
    exact ⟨hO0.step hO (fun _ _ k => k), .inr ⟨hno, rfl⟩⟩

theorem Try.info76 : (Try.prog.info? 76).map (fun i => (i.zero, i.size, i.bytes)) = some (some (.pointer none), 1, 8) := by kernel_rfl

/-- out: the k-th goes; the row is a new one. -/
def ROut (rb : Nat) (rate burst : Int) (l : List REnt) (k : Nat) (w : World) (e : Ending) (w' : World) : Prop :=
  ∃ v', e = .returned (.tuple #[]) ∧ RAt w' rb rate burst v' (l.eraseIdx k) ∧ Off (· = rb) w w' ∧ ∀ g, v'.ownBlock = some g → w.heap.size ≤ g

theorem ROut.mk {w w2 : World} {rb g g2 cap cap2 : Nat} {rate burst : Int} {l : List REnt} {k n : Nat} {cur2 : Array Value} (h : RAt w rb rate burst (.slice (some ⟨g, 0, none⟩) l.length cap) l) (hk : k < l.length)
    (hO2 : Off (fun _ => False) w w2) (hR2 : RAt w2 rb rate burst (.slice (some ⟨g, 0, none⟩) l.length cap) l) (hb2 : w.heap.size ≤ g2) (hg2 : w2.heap[g2]? = some (.cells cur2 76 (0, 0)))
    (hc2 : k + (l.length - (k + 1)) ≤ cap2) (hm2 : cap2 ≤ maxLen) (hs2 : cur2.size = cap2 * 1) (hn : n = k + (l.length - (k + 1)))
    (ht2 : cur2.toList.take ((k + (l.length - (k + 1))) * 1) = (l.map REnt.ptr).take k ++ (l.map REnt.ptr).drop (k + 1)) :
    ROut rb rate burst l k w (.returned (.tuple #[])) (w2.setCell ⟨rb, 2, none⟩ (.slice (some ⟨g2, 0, none⟩) n cap2)) := by
  have hne : rb ≠ g2 := by have := h.top.lt; omega
  have hlen : (l.eraseIdx k).length = k + (l.length - (k + 1)) := by rw [List.length_eraseIdx, if_pos hk]; omega
  have hsub : ∀ e, e ∈ l.eraseIdx k → e ∈ l := fun e he => List.mem_of_mem_eraseIdx he
  have hO : Off (· = rb) w2 (w2.setCell ⟨rb, 2, none⟩ (.slice (some ⟨g2, 0, none⟩) n cap2)) := (Off.refl _ _).setAt _ _
  subst hn
  refine ⟨_, rfl, ⟨hR2.top.setCell 2 _, ?_, ?_, ?_, ?_, ?_, ?_, ?_⟩, (hO2.mono fun _ _ k => k.elim).step hO (fun _ _ k => k), fun g' hg' => by simp [Value.ownBlock] at hg'; omega⟩
  · rw [← hlen]
    refine ⟨by simp, .inr ⟨g2, cap2, cur2, rfl, Nat.zero_le _, ?_, by omega, hm2, hs2, ?_⟩⟩
    · rw [Below.heap_setCell _ _ _ _ (fun e => hne e.symm)]; exact hg2
    · rw [hlen, ht2, List.eraseIdx_eq_take_drop_succ, List.map_append, List.map_take, List.map_drop]
  · intro e he
    exact hO.blk (hR2.one e (hsub e he)) (fun k => MAt.blk_ne hR2.top (hR2.one e (hsub e he)) (by decide) k.symm)
  · intro e he
    exact hO.blk (hR2.bk e (hsub e he)) (fun k => MAt.blk_ne hR2.top (hR2.bk e (hsub e he)) (by decide) k.symm)
  · exact fun e he => h.ok e (hsub e he)
  · exact h.keys.sublist ((List.eraseIdx_sublist l k).map _)
  · exact h.cs.sublist ((List.eraseIdx_sublist l k).map _)
  · have := h.few; omega

theorem cells_take {w w1 : World} {g : Nat} {xs : List Value} {k : Nat} (hO : Off (fun _ => False) w w1) (hg : g < w.heap.size) (hn : ∀ j, j < xs.length → w.cell? ⟨g, j, none⟩ = xs[j]?) :
    ∀ j u, (xs.take k)[j]? = some u → w1.cell? ((⟨g, 0, none⟩ : Addr).add j) = some u := by
  intro j u hu
  rw [List.getElem?_take] at hu
  split at hu
  · have hj : j < xs.length := by
      rcases Nat.lt_or_ge j xs.length with h' | h'
      · exact h'
      · rw [List.getElem?_eq_none h'] at hu; cases hu
    rw [Go.WideShapes.add_plain, Nat.zero_add, hO.cell (p := ⟨g, j, none⟩) hg id, hn j hj]; exact hu
  · cases hu

theorem cells_drop {w w1 : World} {g : Nat} {xs : List Value} {k : Nat} (hO : Off (fun _ => False) w w1) (hg : g < w.heap.size) (hn : ∀ j, j < xs.length → w.cell? ⟨g, j, none⟩ = xs[j]?) :
    ∀ j u, (xs.drop k)[j]? = some u → w1.cell? ((⟨g, k, none⟩ : Addr).add j) = some u := by
  intro j u hu
  rw [List.getElem?_drop] at hu
  have hj : k + j < xs.length := by
    rcases Nat.lt_or_ge (k + j) xs.length with h' | h'
    · exact h'
    · rw [List.getElem?_eq_none h'] at hu; cases hu
  rw [Go.WideShapes.add_plain, hO.cell (p := ⟨g, k + j, none⟩) hg id, hn _ hj]; exact hu

theorem cells_none {w1 : World} {ad : Addr} {xs : List Value} {k : Nat} (hk : xs.length ≤ k) : ∀ j u, (xs.drop k)[j]? = some u → w1.cell? (ad.add j) = some u := by
  intro j u hu
  rw [List.getElem?_drop, List.getElem?_eq_none (by omega)] at hu; cases hu

set_option maxHeartbeats 1000000 in
theorem out_any {w : World} {rb : Nat} {rate burst : Int} {v : Value} {l : List REnt} (k : Nat) (h : RAt w rb rate burst v l) (hk : k < l.length) :
    Calls Try.prog 32 #[.pointer (some ⟨rb, 0, none⟩), .int .i64 k] w (ROut rb rate burst l k w) := by
  obtain ⟨i0, hi, hz0, hz1, hz2⟩ := info_parts Try.info76
  have hlen := h.few
  obtain ⟨a, cap, rfl, hcap, hcm, hcell⟩ := ownsRow_form h.row
  obtain ⟨g, rfl, hgo, _⟩ := hcell k hk
  have hgl := ownsRow_lt h.row hgo
  unfold maxLen at hcm
  have hkl : (k : Int) + 1 ≤ (l.length : Int) := by omega
  have hkc : (k : Int) ≤ (cap : Int) := by omega
  have hnews : ∀ j, j < (l.map REnt.ptr).length → w.cell? ⟨g, j, none⟩ = (l.map REnt.ptr)[j]? := fun j hj => by
    obtain ⟨g', hg', _, hc⟩ := hcell j (by simpa using hj)
    simp only [Option.some.injEq, Addr.mk.injEq, and_true] at hg'
    subst hg'; exact hc
  have c2 : (w.alloc (.cells #[] 76)).cell? ⟨rb, 2, none⟩ = some (.slice (some ⟨g, 0, none⟩) l.length cap) := (h.top.alloc _).cell 2
  have hown0 := World.ownsRow_made w (e := 76) (size := 1) #[] 0 (Nat.le_refl _) (by decide) rfl
  have hO0 := (Off.refl (fun _ => False) w).alloc (.cells #[] 76)
  have hrbl := h.top.lt
  have hcap0 : ¬ cap = 0 := by omega
  have hkl' : k + 1 ≤ l.length := hk
  have hN1 := cells_take (k := k) hO0 hgl hnews
  have h1c : ∀ u ∈ l.map REnt.ptr, u.oneCell' = true := fun u hu => by obtain ⟨e, _, rfl⟩ := List.mem_map.1 hu; rfl
  have HN := Lib.hid hnews
  clear hnews hcell
  by_cases hce : cap = k + 1
  · have hn : l.length ≤ k + 1 := by omega
    subst hce
    have hcc : (k : Int) + 1 ≤ ((k + 1 : Nat) : Int) := by omega
    go_enter Try.func32, Try.ntmps32
    go_wp2_with (first
      | (at_builtin; refine wpList_append_own _ rfl (.tmp 6) (.tmp 12) 57 rfl w.heap.size 76 i0 (.pointer none) 1 8 Try.underlying57 hi hz0 hz1 hz2 rfl (by decide) (.slice (some ⟨w.heap.size, 0, none⟩) 0 0) 0 [] rfl hown0 ⟨g, 0, none⟩ k (k + 1) ((l.map REnt.ptr).take k) rfl (by simp; omega) hN1 (fun u hu => h1c u (List.mem_of_mem_take hu)) (by unfold maxLen; omega) (by omega) (by simp) ?_; intro v1 w1 hown1 hgrow1 hnn1; have hO1 : Off (fun _ => False) w w1 := hO0.step (grown_off hgrow1) (fun i hi e => by simp [Value.ownBlock] at e; omega); have c2' : w1.cell? ⟨rb, 2, none⟩ = some (.slice (some ⟨g, 0, none⟩) l.length (k + 1)) := (hO1.cell (p := ⟨rb, 2, none⟩) hrbl id).trans (h.top.cell 2); have hl1 := hown1.lt; have hv1 : ¬ v1 = .slice none 0 0 := by simpa using hnn1)
      | (at_builtin; refine wpList_append_own _ rfl (.tmp 15) (.tmp 22) 57 rfl w.heap.size 76 i0 (.pointer none) 1 8 Try.underlying57 hi hz0 hz1 hz2 rfl (by decide) v1 _ _ rfl hown1 ⟨g, 0, none⟩ 0 0 [] rfl rfl (fun j u hu => by simp at hu) (fun u hu => by simp at hu) (by unfold maxLen; omega) (by omega) (by have := hO1.size; omega) ?_; intro v2 w2 hown2 hgrow2 hnn2; have hO2 : Off (fun _ => False) w w2 := hO1.step (grown_off hgrow2) (fun i hi e => by have := (hl1 i e.symm).1; omega); obtain ⟨g2, cap2, cur2, rfl, hb2, hg2, hc2, hm2, hs2, ht2⟩ := hown2.2.resolve_left (fun e => hv1 (hnn2.1 e.1).1); have hR2 := h.off hO2 (fun _ _ k => k); have c2'' : w2.cell? ⟨rb, 2, none⟩ = some (.slice (some ⟨g, 0, none⟩) l.length (k + 1)) := hR2.top.cell 2; have cf2 : w2.frozen? ⟨rb, 2, none⟩ = false := hR2.top.free 2; clear hnn2 hown2))
    go_end0
    exact ROut.mk h hk hO2 hR2 hb2 hg2 (by omega) hm2 hs2 (by omega) (by
      have e : (l.map REnt.ptr).drop (k + 1) = [] := List.drop_eq_nil_of_le (by simpa using hn)
      rw [e, show l.length - (k + 1) = 0 by omega]; simpa using ht2)
  · have hce' : ¬ k + 1 = cap := fun e => hce e.symm
    go_enter Try.func32, Try.ntmps32
    go_wp2_with (first
      | (at_builtin; refine wpList_append_own _ rfl (.tmp 6) (.tmp 12) 57 rfl w.heap.size 76 i0 (.pointer none) 1 8 Try.underlying57 hi hz0 hz1 hz2 rfl (by decide) (.slice (some ⟨w.heap.size, 0, none⟩) 0 0) 0 [] rfl hown0 ⟨g, 0, none⟩ k cap ((l.map REnt.ptr).take k) rfl (by simp; omega) hN1 (fun u hu => h1c u (List.mem_of_mem_take hu)) (by unfold maxLen; omega) (by omega) (by simp) ?_; intro v1 w1 hown1 hgrow1 hnn1; have hO1 : Off (fun _ => False) w w1 := hO0.step (grown_off hgrow1) (fun i hi e => by simp [Value.ownBlock] at e; omega); have c2' : w1.cell? ⟨rb, 2, none⟩ = some (.slice (some ⟨g, 0, none⟩) l.length cap) := (hO1.cell (p := ⟨rb, 2, none⟩) hrbl id).trans (h.top.cell 2); have hl1 := hown1.lt; have hv1 : ¬ v1 = .slice none 0 0 := by simpa using hnn1)
      | (at_builtin; refine wpList_append_own _ rfl (.tmp 15) (.tmp 22) 57 rfl w.heap.size 76 i0 (.pointer none) 1 8 Try.underlying57 hi hz0 hz1 hz2 rfl (by decide) v1 _ _ rfl hown1 ⟨g, k + 1, none⟩ (l.length - (k + 1)) (cap - (k + 1)) ((l.map REnt.ptr).drop (k + 1)) rfl (by simp) (cells_drop hO1 hgl HN.out) (fun u hu => h1c u (List.mem_of_mem_drop hu)) (by unfold maxLen; omega) (by omega) (by have := hO1.size; omega) ?_; intro v2 w2 hown2 hgrow2 hnn2; have hO2 : Off (fun _ => False) w w2 := hO1.step (grown_off hgrow2) (fun i hi e => by have := (hl1 i e.symm).1; omega); obtain ⟨g2, cap2, cur2, rfl, hb2, hg2, hc2, hm2, hs2, ht2⟩ := hown2.2.resolve_left (fun e => hv1 (hnn2.1 e.1).1); have hR2 := h.off hO2 (fun _ _ k => k); have c2'' : w2.cell? ⟨rb, 2, none⟩ = some (.slice (some ⟨g, 0, none⟩) l.length cap) := hR2.top.cell 2; have cf2 : w2.frozen? ⟨rb, 2, none⟩ = false := hR2.top.free 2; clear hnn2 hown2))
    go_end0
    exact ROut.mk h hk hO2 hR2 hb2 hg2 (by omega) hm2 hs2 (by omega) (by simpa using ht2)
end Go.Proofs.Ytepibimlmfhceaa
