/- The walk over the Set of the document's wheel. Conditions: the wheel lies whole in memory. -/
import Derived.Test.YtbkgjghbmafoeaaRfDrop
import Derived.Test.YtbkgjghbmafoeaaMSmall
import Derived.Deep.CutBlock
import Derived.Deep.DeepCutAuto
namespace Go.Proofs.Ytbkgjghbmafoeaa
open Go.RowKit

theorem cell_two_new (w : World) (x y : Value) (T : TypeId) : ∀ j u, [x, y][j]? = some u → (w.alloc (.cells #[x, y] T)).cell? ((⟨w.heap.size, 0, none⟩ : Addr).add j) = some u := by
  intro j u hu
  rw [Go.WideShapes.add_plain, Nat.zero_add, (Blk.new w T #[x, y]).cell]
  simpa using hu
theorem two_one {a b : Int} : ∀ u ∈ [Value.int .i64 a, Value.int .i64 b], u.oneCell' = true := fun u hu => by
  simp only [List.mem_cons, List.not_mem_nil, or_false] at hu
  rcases hu with rfl | rfl <;> rfl

theorem ins_at {x : Tm} : ∀ {L : List Tm} {k : Nat}, (∀ j y, j < k → L[j]? = some y → tlt y x) → (∀ y, L[k]? = some y → ¬ tlt y x) → k ≤ L.length → ins x L = L.take k ++ x :: L.drop k
  | [], k, _, _, hk => by
    have : k = 0 := by simpa using hk
    subst this; rfl
  | y :: L, 0, _, h, _ => by
    have := h y rfl
    simp [ins, this]
  | y :: L, k + 1, h1, h2, hk => by
    have hy := h1 0 y (by omega) rfl
    simp only [ins, hy, if_true, List.take_succ_cons, List.drop_succ_cons, List.cons_append]
    rw [ins_at (L := L) (k := k) (fun j z hj hz => h1 (j + 1) z (by omega) (by simpa using hz)) (fun z hz => h2 z (by simpa using hz)) (by simpa using hk)]

def RSet (rb : Nat) (L : List Tm) (g : Option Nat) (id at_ : Int) (w : World) (e : Ending) (w' : World) : Prop :=
  ∃ v' g' L' er, e = .returned (.int .i64 er) ∧ SetR L id at_ L' er ∧ RfAt w' rb v' g' L' ∧ Off (· = rb) w w' ∧ (g' = g ∨ ∀ i, g' = some i → w.heap.size ≤ i)

theorem RSet.mk {w w1 w2 w7 w8 : World} {rb base m k : Nat} {v0 v1 v7 : Value} {g g1 : Option Nat} {L L1 : List Tm} {id at_ : Int} {xs : List Value} {e : Ending} (H1 : RfAt w1 rb v1 g1 L1) (hO1 : Off (· = rb) w w1) (hS : ∀ L', L' = ins (id, at_) L1 → SetR L id at_ L' 0)
    (hO2 : Off (fun _ => False) w1 w2) (hO7 : Off (fun _ => False) w2 w7) (hT7 : Blk w7 rb 60 #[v0]) (hown : w7.ownsRow base 98 2 v7 m xs) (hxs : xs = (tcells L1).take (k * 2) ++ [.int .i64 id, .int .i64 at_] ++ (tcells L1).drop (k * 2)) (hbase : m = L1.length + 1)
    (hI : ins (id, at_) L1 = L1.take k ++ (id, at_) :: L1.drop k) (hN : w.heap.size ≤ base ∧ (∀ y ∈ L1, y.1 ≠ id) ∧ L1.length < 256) (hk : k ≤ L1.length) (hw : w8 = w7.setCell ⟨rb, 0, none⟩ v7) (he : e = .returned (.int .i64 0)) : RSet rb L g id at_ w e w8 := by
  have hlen : (ins (id, at_) L1).length = m := by rw [ins_length, hbase]
  have hrow : w7.ownsRow base 98 2 v7 (ins (id, at_) L1).length (tcells (ins (id, at_) L1)) := by
    rw [hlen, hI, tcells_append, tcells_cons, tcells_take, tcells_drop]
    rw [hxs] at hown
    simpa using hown
  have hR := RfAt.set hT7 hrow hw (H1.srt.ins hN.2.1) (by rw [ins_length]; omega)
  refine ⟨v7, v7.ownBlock, _, 0, he, hS _ rfl, hR, ?_, .inr fun i hi => Nat.le_trans hN.1 (hown.lt i hi).1⟩
  rw [hw]
  exact (hO1.step (hO2.step hO7 fun _ _ k => k) fun _ _ k => k.elim).setCell _ fun _ => rfl

def RSetRel (W : World) (x : Tm) (L : List Tm) (iv : Value) (wr : World) : Prop :=
  ∃ k : Nat, k ≤ L.length ∧ iv = .int .i64 k ∧ Off (fun _ => False) W wr ∧ ∀ j y, j < k → L[j]? = some y → tlt y x

/-- Where the loop ends. -/
def RSetMid (W : World) (x : Tm) (L : List Tm) (iv : Value) (wr : World) : Prop :=
  ∃ k : Nat, k ≤ L.length ∧ iv = .int .i64 k ∧ Off (fun _ => False) W wr ∧ ins x L = L.take k ++ x :: L.drop k

set_option maxRecDepth 100000 in
set_option maxHeartbeats 4000000 in
theorem rset_any {w : World} {rb : Nat} {v : Value} {g : Option Nat} {L : List Tm} (id at_ : Int) (H : RfAt w rb v g L) :
    Calls Try.prog 29 #[.pointer (some ⟨rb, 0, none⟩), .int .i64 id, .int .i64 at_] w (RSet rb L g id at_ w) := by
  obtain ⟨i0, hi0, hz0, hz1, hz2⟩ := info_parts Try.info98
  go_enter Try.func29, Try.ntmps29
  go_wp2_with fail
  refine (rdrop_any id H).mono ?_
  rintro e w1 ⟨v1, g1, L1, had, rfl, ⟨hL1, hhad⟩, H1, hO1, hg1⟩
  obtain ⟨a, cap, hv, hcap, hcm, _⟩ := H1.row.form
  subst hv
  have c0 : w1.cell? ⟨rb, 0, none⟩ = some (.slice a L1.length cap) := H1.top.cell 0
  have hfew := H1.few
  have hrbl := H1.top.lt
  unfold maxLen at hcm
  have hD := Blk.new w1 98 #[.int .i64 id, .int .i64 at_]
  by_cases hfull : had = false ∧ L1.length = 256
  · obtain ⟨rfl, hfull⟩ := hfull
    have hab : ∀ y ∈ L, y.1 ≠ id := by
      rcases hhad with ⟨h, _⟩ | ⟨_, h⟩
      · cases h
      · exact h
    have hLL : L1 = L := by rw [hL1, del_none hab]
    have hfin : RSet rb L g id at_ w (.returned (.int .i64 120)) w1 := ⟨_, g1, L1, 120, rfl, .inr ⟨hab, by rw [← hLL]; exact hfull, hLL, rfl⟩, H1, hO1, hg1⟩
    rw [hfull] at c0
    clear hhad hL1 hab hLL H1
    go_wp2_with fail
    go_ret
    exact hfin
  · have hok : (∃ y ∈ L, y.1 = id) ∨ L.length < 256 := by
      rcases hhad with ⟨_, h⟩ | ⟨h, h'⟩
      · exact .inl h
      · right
        have : L1 = L := by rw [hL1, del_none h']
        have := H.few
        rcases Nat.lt_or_ge L.length 256 with h2 | h2
        · exact h2
        · exact absurd ⟨h, by rw [‹L1 = L›]; omega⟩ hfull
    have hSR : ∀ L', L' = ins (id, at_) L1 → SetR L id at_ L' 0 := fun L' h => .inl ⟨hok, by rw [h, hL1], rfl⟩
    have hnox : ∀ y ∈ L1, y.1 ≠ id := fun y hy => by rw [hL1] at hy; exact (mem_del.1 hy).2
    have hno256 : had = true ∨ ¬ (L1.length : Int) = 256 := by
      cases had with
      | true => exact .inl rfl
      | false => exact .inr fun h => hfull ⟨rfl, by omega⟩
    have hlt256 : L1.length < 256 := by
      rcases hhad with ⟨h, h'⟩ | ⟨h, h'⟩
      · have := del_length H.srt.ids h'
        have := H.few
        rw [hL1]; omega
      · rcases Nat.lt_or_ge L1.length 256 with h2 | h2
        · exact h2
        · exact absurd ⟨h, by omega⟩ hfull
    have HS := Lib.hid hSR
    have hO2 := (Off.refl (fun _ => False) w1).alloc (.cells #[.int .i64 id, .int .i64 at_] 98)
    clear hSR hok hfull hhad hL1
    have H2 := H1.off ((Off.refl (fun _ => False) w1).alloc (.cells #[.int .i64 id, .int .i64 at_] 98)) (fun _ _ k => k)
    have hL256 : (L1.length : Int) ≤ 256 := by omega
    have hhI : had = false → (L1.length == 256) = false := fun h => by rcases hno256 with h' | h' <;> simp [h] at h' ⊢; omega
    clear hno256
    go_upto_region 2 with fail
    go_cut [23] (fun s23 wx => s23 = .bool false ∧ w1 = wx)
    case first =>
      cases had with
      | true =>
        go_wp2_with fail
        go_meet
        exact ⟨rfl, rfl⟩
      | false =>
        have hneb : ((L1.length : Int) == 256) = false := by have := hhI rfl; simp at this ⊢; omega
        clear hhI
        go_wp2_with fail
        go_meet
        exact ⟨rfl, rfl⟩
    case rest =>
      obtain ⟨hs23, hwc⟩ := hcut
      subst hs23 hwc
      clear hhI
      go_upto_block 0 with fail
      generalize hpx : w1.heap.size = px at *
      generalize w1.alloc (.cells #[.int .i64 id, .int .i64 at_] 98) = w2 at *
      go_cut [9] (fun s9 wx => RSetMid w2 (id, at_) L1 s9 wx)
      case first =>
        go_wp2_with fail
        go_loopw [9] (RSetRel w2 (id, at_) L1) (fun i _ => L1.length - (intOf i).toNat)
        case atStart => exact ⟨0, Nat.zero_le _, rfl, Off.refl _ _, fun j y hj => absurd hj (Nat.not_lt_zero _)⟩
        case round =>
          obtain ⟨k, hk, rfl, hO3, hless⟩ := hrel
          have H3 := H2.off hO3 (fun _ _ k => k)
          have hP3 := hO3.blk hD (fun k => k)
          have c3 : wr.cell? ⟨rb, 0, none⟩ = some (.slice a L1.length cap) := H3.top.cell 0
          have p0 : wr.cell? ⟨px, 0, none⟩ = some (.int .i64 id) := hP3.cell 0
          have p1 : wr.cell? ⟨px, 1, none⟩ = some (.int .i64 at_) := hP3.cell 1
          have hk0 : (0 : Int) ≤ (k : Int) := by omega
          by_cases hlt : k < L1.length
          · have hkl : (k : Int) < (L1.length : Int) := by omega
            obtain ⟨y, hy⟩ : ∃ y, L1[k]? = some y := ⟨L1[k], List.getElem?_eq_getElem hlt⟩
            obtain ⟨b, off, rfl, hg, d0, d1⟩ := H3.row.at hy
            have hgl : b < wr.heap.size := H3.lt (.inr hg)
            have HY := Lib.hid hy
            clear hy
            obtain ⟨bb, hc⟩ : ∃ bb, decide (tlt y (id, at_)) = bb := ⟨_, rfl⟩
            have HC := Lib.hid hc
            clear hc
            go_wp2_with fail
            go_region_held3 (fun w' => w'.cell? ⟨rb, 0, none⟩ = some (.slice (some ⟨b, off, none⟩) L1.length cap) ∧ w'.cell? ⟨b, off + k * 2, none⟩ = some (.int .i64 y.1) ∧ w'.cell? ⟨b, off + k * 2 + 1, none⟩ = some (.int .i64 y.2) ∧ w'.cell? ⟨px, 0, none⟩ = some (.int .i64 id) ∧ w'.cell? ⟨px, 1, none⟩ = some (.int .i64 at_)) (first | exact ⟨c3, d0, d1, p0, p1⟩ | exact ⟨e3, e0, e1, f0, f1⟩)
              (first | (go_at_call 45; refine (rless_any y (id, at_) _).mono ?_; rintro e w4 ⟨rfl, hO4⟩; rw [HC.out]; have e3 := (hO4.cell (p := ⟨rb, 0, none⟩) H3.top.lt (fun k => k)).trans c3; have e0 := (hO4.cell (p := ⟨b, off + k * 2, none⟩) hgl (fun k => k)).trans d0; have e1 := (hO4.cell (p := ⟨b, off + k * 2 + 1, none⟩) hgl (fun k => k)).trans d1; have f0 := (hO4.cell (p := ⟨px, 0, none⟩) hP3.lt (fun k => k)).trans p0; have f1 := (hO4.cell (p := ⟨px, 1, none⟩) hP3.lt (fun k => k)).trans p1))
            have hO34 := hO3.drew.step hO4 (fun _ _ k => k)
            clear c3 d0 d1 p0 p1 e3 e0 e1 f0 f1
            cases bb with
            | true =>
              go_wp2
              refine ⟨⟨k + 1, by omega, by go_num, hO34, fun j z hj hz => ?_⟩, by simp [intOf]; omega⟩
              by_cases hjk : j = k
              · subst hjk; rw [HY.out] at hz; cases hz; exact of_decide_eq_true HC.out
              · exact hless j z (by omega) hz
            | false =>
              go_wp2_with fail
              go_meet
              exact ⟨k, hk, rfl, hO34, ins_at hless (fun z hz => by rw [HY.out] at hz; cases hz; exact of_decide_eq_false HC.out) hk⟩
          · have hkl := Lib.hid (show k = L1.length by omega)
            have hkn : ¬ (k : Int) < (L1.length : Int) := by omega
            go_wp2_with fail
            go_quiet (fail)
            go_wp2_with fail
            go_meet
            exact ⟨k, hk, rfl, hO3.drewN _, ins_at hless (fun z hz => by rw [List.getElem?_eq_none (by have := hkl.out; omega)] at hz; cases hz) hk⟩
      case rest =>
        obtain ⟨k, hk, rfl, hOq, hI⟩ := hcut
        have HI := Lib.hid hI
        clear hI
        have Hq := H2.off hOq (fun _ _ k => k)
        have hPq := hOq.blk hD (fun k => k)
        generalize wc = wq at *
        have hown0 := World.ownsRow_made wq (e := 98) (size := 2) #[] 0 (Nat.le_refl _) (by decide) rfl
        have hO0 := (Off.refl (fun _ => False) wq).alloc (.cells #[] 98)
        have hk0 : (0 : Int) ≤ (k : Int) := by omega
        have hkc : (k : Int) ≤ (cap : Int) := by omega
        have hkl1 : (k : Int) ≤ (L1.length : Int) := by omega
        have hrbz := Hq.top.lt
        have q0 : (wq.alloc (.cells #[] 98)).cell? ⟨rb, 0, none⟩ = some (.slice a L1.length cap) := (Hq.top.alloc _).cell 0
        rcases Hq.row.shape with hsh | ⟨b, off, n', cap', hsh⟩
        · simp only [Value.slice.injEq] at hsh
          obtain ⟨rfl, h0, rfl⟩ := hsh
          obtain rfl : L1 = [] := List.eq_nil_of_length_eq_zero h0
          obtain rfl : k = 0 := by simpa using hk
          go_wp2_with (first
            | (at_builtin; (refine wpList_append_src rfl (.tmp 48) (.tmp 54) 58 rfl wq.heap.size 98 i0 (.agg #[.int .i64 0, .int .i64 0]) 2 16 Try.underlying58 hi0 hz0 hz1 hz2 rfl (by decide) (.slice (some ⟨wq.heap.size, 0, none⟩) 0 0) 0 [] rfl hown0 (.slice none 0 0) 0 [] rfl rfl (.inl ⟨rfl, rfl, rfl⟩) (fun u hu => by cases hu) (by unfold maxLen; omega) (by omega) (by simp) ?_; intro v5 w5 hown5 hgrow5 hnn5; have hO5 : Off (fun _ => False) wq w5 := hO0.step (grown_off hgrow5) (fun i hi e => Nat.ne_of_lt hi (Option.some.inj e)); have hP5 := hO5.blk hPq (fun k => k); have g0 : w5.cell? ⟨px, 0, none⟩ = some (.int .i64 id) := hP5.cell 0; have g1 : w5.cell? ⟨px, 1, none⟩ = some (.int .i64 at_) := hP5.cell 1; have hl5 := hown5.lt; have hv5 : ¬ v5 = .slice none 0 0 := (by simpa using hnn5); have hn2 := cell_two_new w5 (.int .i64 id) (.int .i64 at_) 98))
            | (at_builtin; (refine wpList_append_src rfl (.tmp 56) (.tmp 58) 58 rfl wq.heap.size 98 i0 (.agg #[.int .i64 0, .int .i64 0]) 2 16 Try.underlying58 hi0 hz0 hz1 hz2 rfl (by decide) v5 _ _ rfl (hown5.alloc _) (.slice (some ⟨w5.heap.size, 0, none⟩) 1 1) 1 [.int .i64 id, .int .i64 at_] rfl rfl (.inr ⟨_, _, rfl, hn2⟩) two_one (by unfold maxLen; omega) (by omega) (by have := hO5.size; simp; omega) ?_; intro v6 w6 hown6 hgrow6 hnn6; have hO6 : Off (fun _ => False) wq w6 := (hO5.alloc _).step (grown_off hgrow6) (fun i hi e => by have := (hl5 i e.symm).1; omega); have hT6 := hO6.blk Hq.top (fun k => k); have c6 : w6.cell? ⟨rb, 0, none⟩ = some (.slice none 0 0) := hT6.cell 0; have hl6 := hown6.lt; have hv6 : ¬ v6 = .slice none 0 0 := fun e => hv5 (hnn6.1 e).1))
            | (at_builtin; (refine wpList_append_src rfl (.tmp 61) (.tmp 67) 58 rfl wq.heap.size 98 i0 (.agg #[.int .i64 0, .int .i64 0]) 2 16 Try.underlying58 hi0 hz0 hz1 hz2 rfl (by decide) v6 _ _ rfl hown6 (.slice none 0 0) 0 [] rfl rfl (.inl ⟨rfl, rfl, rfl⟩) (fun u hu => by cases hu) (by unfold maxLen; omega) (by omega) (by have := hO6.size; omega) ?_; intro v7 w7 hown7 hgrow7 hnn7; have hO7 : Off (fun _ => False) wq w7 := hO6.step (grown_off hgrow7) (fun i hi e => by have := (hl6 i e.symm).1; omega); have hT7 := hO7.blk Hq.top (fun k => k); have hown7' := Lib.hid hown7; obtain ⟨g7, cap7, cur7, rfl, hb7, hg7, hc7, hm7, hs7, ht7⟩ := hown7.2.resolve_left (fun e => hv6 (hnn7.1 e.1).1); have c7 : w7.cell? ⟨rb, 0, none⟩ = some (.slice none 0 0) := hT7.cell 0; have cf7 : w7.frozen? ⟨rb, 0, none⟩ = false := hT7.free 0; clear hnn7 hown7)))
          go_ret
          exact RSet.mk (k := 0) H1 hO1 HS.out hO2 (hOq.step hO7 (fun _ _ k => k)) hT7 hown7'.out (by simp [tcells]) rfl HI.out ⟨by have := hO1.size; have := hO2.size; have := hOq.size; omega, hnox, hlt256⟩ (Nat.zero_le _) (by simp) rfl
        · simp only [Value.slice.injEq] at hsh
          obtain ⟨rfl, rfl, rfl⟩ := hsh
          by_cases hce : k = cap
          · have hn : L1.length ≤ k := by omega
            subst hce
            go_wp2_with (first
              | (at_builtin; (refine wpList_append_src rfl (.tmp 48) (.tmp 54) 58 rfl wq.heap.size 98 i0 (.agg #[.int .i64 0, .int .i64 0]) 2 16 Try.underlying58 hi0 hz0 hz1 hz2 rfl (by decide) (.slice (some ⟨wq.heap.size, 0, none⟩) 0 0) 0 [] rfl hown0 (.slice (some ⟨b, off, none⟩) k k) k ((tcells L1).take (k * 2)) rfl (by rw [List.length_take, tcells_length]; omega) (.inr ⟨_, _, rfl, Hq.row.newsTake hO0⟩) (fun u hu => tcells_one u (List.mem_of_mem_take hu)) (by unfold maxLen; omega) (by omega) (by simp) ?_; intro v5 w5 hown5 hgrow5 hnn5; have hO5 : Off (fun _ => False) wq w5 := hO0.step (grown_off hgrow5) (fun i hi e => Nat.ne_of_lt hi (Option.some.inj e)); have hP5 := hO5.blk hPq (fun k => k); have g0 : w5.cell? ⟨px, 0, none⟩ = some (.int .i64 id) := hP5.cell 0; have g1 : w5.cell? ⟨px, 1, none⟩ = some (.int .i64 at_) := hP5.cell 1; have hl5 := hown5.lt; have hv5 : ¬ v5 = .slice none 0 0 := (by simpa using hnn5); have hn2 := cell_two_new w5 (.int .i64 id) (.int .i64 at_) 98))
              | (at_builtin; (refine wpList_append_src rfl (.tmp 56) (.tmp 58) 58 rfl wq.heap.size 98 i0 (.agg #[.int .i64 0, .int .i64 0]) 2 16 Try.underlying58 hi0 hz0 hz1 hz2 rfl (by decide) v5 _ _ rfl (hown5.alloc _) (.slice (some ⟨w5.heap.size, 0, none⟩) 1 1) 1 [.int .i64 id, .int .i64 at_] rfl rfl (.inr ⟨_, _, rfl, hn2⟩) two_one (by unfold maxLen; omega) (by omega) (by have := hO5.size; simp; omega) ?_; intro v6 w6 hown6 hgrow6 hnn6; have hO6 : Off (fun _ => False) wq w6 := (hO5.alloc _).step (grown_off hgrow6) (fun i hi e => by have := (hl5 i e.symm).1; omega); have hT6 := hO6.blk Hq.top (fun k => k); have c6 : w6.cell? ⟨rb, 0, none⟩ = some (.slice (some ⟨b, off, none⟩) L1.length k) := hT6.cell 0; have hl6 := hown6.lt; have hv6 : ¬ v6 = .slice none 0 0 := fun e => hv5 (hnn6.1 e).1))
              | (at_builtin; (refine wpList_append_src rfl (.tmp 61) (.tmp 67) 58 rfl wq.heap.size 98 i0 (.agg #[.int .i64 0, .int .i64 0]) 2 16 Try.underlying58 hi0 hz0 hz1 hz2 rfl (by decide) v6 _ _ rfl hown6 (.slice (some ⟨b, off, none⟩) 0 0) 0 [] rfl rfl (.inr ⟨_, _, rfl, fun j u hu => by simp at hu⟩) (fun u hu => by cases hu) (by unfold maxLen; omega) (by omega) (by have := hO6.size; omega) ?_; intro v7 w7 hown7 hgrow7 hnn7; have hO7 : Off (fun _ => False) wq w7 := hO6.step (grown_off hgrow7) (fun i hi e => by have := (hl6 i e.symm).1; omega); have hT7 := hO7.blk Hq.top (fun k => k); have hown7' := Lib.hid hown7; obtain ⟨g7, cap7, cur7, rfl, hb7, hg7, hc7, hm7, hs7, ht7⟩ := hown7.2.resolve_left (fun e => hv6 (hnn7.1 e.1).1); have c7 : w7.cell? ⟨rb, 0, none⟩ = some (.slice (some ⟨b, off, none⟩) L1.length k) := hT7.cell 0; have cf7 : w7.frozen? ⟨rb, 0, none⟩ = false := hT7.free 0; clear hnn7 hown7)))
            go_ret
            exact RSet.mk (k := k) H1 hO1 HS.out hO2 (hOq.step hO7 (fun _ _ k => k)) hT7 hown7'.out (by rw [List.drop_eq_nil_of_le (by rw [tcells_length]; omega)]; simp) (by omega) HI.out ⟨by have := hO1.size; have := hO2.size; have := hOq.size; omega, hnox, hlt256⟩ hk (by simp) rfl
          · have hce' : ¬ k = cap := hce
            go_wp2_with (first
              | (at_builtin; (refine wpList_append_src rfl (.tmp 48) (.tmp 54) 58 rfl wq.heap.size 98 i0 (.agg #[.int .i64 0, .int .i64 0]) 2 16 Try.underlying58 hi0 hz0 hz1 hz2 rfl (by decide) (.slice (some ⟨wq.heap.size, 0, none⟩) 0 0) 0 [] rfl hown0 (.slice (some ⟨b, off, none⟩) k cap) k ((tcells L1).take (k * 2)) rfl (by rw [List.length_take, tcells_length]; omega) (.inr ⟨_, _, rfl, Hq.row.newsTake hO0⟩) (fun u hu => tcells_one u (List.mem_of_mem_take hu)) (by unfold maxLen; omega) (by omega) (by simp) ?_; intro v5 w5 hown5 hgrow5 hnn5; have hO5 : Off (fun _ => False) wq w5 := hO0.step (grown_off hgrow5) (fun i hi e => Nat.ne_of_lt hi (Option.some.inj e)); have hP5 := hO5.blk hPq (fun k => k); have g0 : w5.cell? ⟨px, 0, none⟩ = some (.int .i64 id) := hP5.cell 0; have g1 : w5.cell? ⟨px, 1, none⟩ = some (.int .i64 at_) := hP5.cell 1; have hl5 := hown5.lt; have hv5 : ¬ v5 = .slice none 0 0 := (by simpa using hnn5); have hn2 := cell_two_new w5 (.int .i64 id) (.int .i64 at_) 98))
              | (at_builtin; (refine wpList_append_src rfl (.tmp 56) (.tmp 58) 58 rfl wq.heap.size 98 i0 (.agg #[.int .i64 0, .int .i64 0]) 2 16 Try.underlying58 hi0 hz0 hz1 hz2 rfl (by decide) v5 _ _ rfl (hown5.alloc _) (.slice (some ⟨w5.heap.size, 0, none⟩) 1 1) 1 [.int .i64 id, .int .i64 at_] rfl rfl (.inr ⟨_, _, rfl, hn2⟩) two_one (by unfold maxLen; omega) (by omega) (by have := hO5.size; simp; omega) ?_; intro v6 w6 hown6 hgrow6 hnn6; have hO6 : Off (fun _ => False) wq w6 := (hO5.alloc _).step (grown_off hgrow6) (fun i hi e => by have := (hl5 i e.symm).1; omega); have hT6 := hO6.blk Hq.top (fun k => k); have c6 : w6.cell? ⟨rb, 0, none⟩ = some (.slice (some ⟨b, off, none⟩) L1.length cap) := hT6.cell 0; have hl6 := hown6.lt; have hv6 : ¬ v6 = .slice none 0 0 := fun e => hv5 (hnn6.1 e).1))
              | (at_builtin; (refine wpList_append_src rfl (.tmp 61) (.tmp 67) 58 rfl wq.heap.size 98 i0 (.agg #[.int .i64 0, .int .i64 0]) 2 16 Try.underlying58 hi0 hz0 hz1 hz2 rfl (by decide) v6 _ _ rfl hown6 (.slice (some ⟨b, off + k * 2, none⟩) (L1.length - k) (cap - k)) (L1.length - k) ((tcells L1).drop (k * 2)) rfl (by rw [List.length_drop, tcells_length]; omega) (.inr ⟨_, _, rfl, Hq.row.newsDrop hO6⟩) (fun u hu => tcells_one u (List.mem_of_mem_drop hu)) (by unfold maxLen; omega) (by omega) (by have := hO6.size; omega) ?_; intro v7 w7 hown7 hgrow7 hnn7; have hO7 : Off (fun _ => False) wq w7 := hO6.step (grown_off hgrow7) (fun i hi e => by have := (hl6 i e.symm).1; omega); have hT7 := hO7.blk Hq.top (fun k => k); have hown7' := Lib.hid hown7; obtain ⟨g7, cap7, cur7, rfl, hb7, hg7, hc7, hm7, hs7, ht7⟩ := hown7.2.resolve_left (fun e => hv6 (hnn7.1 e.1).1); have c7 : w7.cell? ⟨rb, 0, none⟩ = some (.slice (some ⟨b, off, none⟩) L1.length cap) := hT7.cell 0; have cf7 : w7.frozen? ⟨rb, 0, none⟩ = false := hT7.free 0; clear hnn7 hown7)))
            go_ret
            exact RSet.mk (k := k) H1 hO1 HS.out hO2 (hOq.step hO7 (fun _ _ k => k)) hT7 hown7'.out (by simp) (by omega) HI.out ⟨by have := hO1.size; have := hO2.size; have := hOq.size; omega, hnox, hlt256⟩ hk (by simp) rfl
end Go.Proofs.Ytbkgjghbmafoeaa
