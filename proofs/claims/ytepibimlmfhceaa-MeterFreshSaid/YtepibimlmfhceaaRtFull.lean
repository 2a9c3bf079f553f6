/- The walk over the document's Take: a source that is not there, and the row is full. Conditions: the meters lie whole in memory; the time is an int. -/
import Derived.Test.YtepibimlmfhceaaRtNew
namespace Go.Proofs.Ytepibimlmfhceaa
open Go.RowKit

/-- The buckets turned, and nothing else. -/
def rS (g : REnt → Bk) (e : REnt) : REnt := { e with s := g e }

theorem rS_proj {β : Type} {g : REnt → Bk} (p : REnt → β) (hp : ∀ e, p (rS g e) = p e) (l : List REnt) : (l.map (rS g)).map p = l.map p := by
  rw [List.map_map]; exact List.map_congr_left fun e _ => hp e

theorem RAt.turned {w w' : World} {rb : Nat} {rate burst : Int} {v : Value} {l : List REnt} (h : RAt w rb rate burst v l) {g : REnt → Bk} {S : Nat → Prop}
    (hO : Off S w w') (hS : ∀ i, S i → ∃ e ∈ l, i = e.c) (hB : ∀ e ∈ l, BAt 61 w' e.c (g e)) (hs : ∀ e ∈ l, (g e).Ok) : RAt w' rb rate burst v (l.map (rS g)) where
  top := hO.blk h.top (fun k => by obtain ⟨e, he, hb⟩ := hS _ k; exact MAt.blk_ne h.top (h.bk e he) (by decide) hb)
  row := by
    rw [rS_proj (g := g) REnt.ptr (fun _ => rfl), List.length_map]
    exact ownsRow_off h.row hO (fun i hi k => by
      obtain ⟨e, he, hb⟩ := hS _ k
      obtain ⟨cur, hc⟩ := ownsRow_blk h.row hi
      exact MAt.blk_ne hc (h.bk e he) (by decide) hb)
  one := fun x hx => by
    obtain ⟨y, hy, rfl⟩ := List.mem_map.1 hx
    exact hO.blk (h.one y hy) (fun k => by obtain ⟨e, he, hb⟩ := hS _ k; exact MAt.blk_ne (h.one y hy) (h.bk e he) (by decide) hb)
  bk := fun x hx => by
    obtain ⟨y, hy, rfl⟩ := List.mem_map.1 hx
    exact hB y hy
  ok := fun x hx => by
    obtain ⟨y, hy, rfl⟩ := List.mem_map.1 hx
    exact hs y hy
  keys := by rw [rS_proj (g := g) (·.a) (fun _ => rfl)]; exact h.keys
  cs := by rw [rS_proj (g := g) (·.c) (fun _ => rfl)]; exact h.cs
  few := by rw [List.length_map]; exact h.few

theorem rown_rS {rb : Nat} {v : Value} {g : REnt → Bk} (l : List REnt) (i : Nat) : ROwn rb v (l.map (rS g)) i ↔ ROwn rb v l i := by
  simp only [ROwn, List.mem_map]
  constructor
  · rintro (h | h | ⟨e, ⟨y, hy, rfl⟩, h⟩)
    · exact .inl h
    · exact .inr (.inl h)
    · exact .inr (.inr ⟨y, hy, h⟩)
  · rintro (h | h | ⟨y, hy, h⟩)
    · exact .inl h
    · exact .inr (.inl h)
    · exact .inr (.inr ⟨_, ⟨y, hy, rfl⟩, h⟩)

/-- The first m have learned the time. -/
def firstS (l : List REnt) (now : Int) (m : Nat) (e : REnt) : Bk := if e.a ∈ (l.take m).map (·.a) then e.s.learn now else e.s

theorem firstS_all {l : List REnt} {now : Int} : l.map (rS (firstS l now l.length)) = l.map (rLearn now) := by
  refine List.map_congr_left fun e he => ?_
  have : e.a ∈ (l.take l.length).map (·.a) := by rw [List.take_length]; exact List.mem_map_of_mem he
  simp only [rS, firstS, this, if_true, rLearn]

theorem firstS_none {l : List REnt} {now : Int} : l.map (rS (firstS l now 0)) = l := by
  conv => rhs; rw [← List.map_id l]
  exact List.map_congr_left fun e _ => by simp [rS, firstS]

theorem firstS_next {l : List REnt} {now : Int} {m : Nat} {x : REnt} (hx : l[m]? = some x) (e : REnt) (he : e.a ≠ x.a) : firstS l now (m + 1) e = firstS l now m e := by
  have hm : m < l.length := by
    rcases Nat.lt_or_ge m l.length with h' | h'
    · exact h'
    · rw [List.getElem?_eq_none h'] at hx; cases hx
  have : e.a ∈ (l.take (m + 1)).map (·.a) ↔ e.a ∈ (l.take m).map (·.a) := by
    rw [List.take_add_one, hx]
    simp [he]
  simp only [firstS, this]

theorem firstS_at {l : List REnt} {now : Int} {m : Nat} {x : REnt} (hx : l[m]? = some x) : firstS l now (m + 1) x = x.s.learn now := by
  have : x.a ∈ (l.take (m + 1)).map (·.a) := by
    rw [List.take_add_one, hx]
    simp
  simp only [firstS, this, if_true]

theorem firstS_not {l : List REnt} (hk : (l.map (·.a)).Nodup) {now : Int} {m : Nat} {x : REnt} (hx : l[m]? = some x) : firstS l now m x = x.s := by
  have : ¬ x.a ∈ (l.take m).map (·.a) := by
    intro hm
    obtain ⟨y, hy, hya⟩ := List.mem_map.1 hm
    obtain ⟨j, hj, rfl⟩ := List.getElem_of_mem hy
    have hjm : j < m := by simp at hj; omega
    have hml : m < l.length := by
      rcases Nat.lt_or_ge m l.length with h' | h'
      · exact h'
      · rw [List.getElem?_eq_none h'] at hx; cases hx
    rw [List.getElem?_eq_getElem hml, Option.some.injEq] at hx
    subst hx
    rw [List.getElem_take] at hya
    have e : (l.map (·.a))[j]'(by simp; omega) = (l.map (·.a))[m]'(by simp; omega) := by simpa using hya
    have := (List.getElem_inj hk).1 e
    omega
  simp only [firstS, this, if_false]

/-- The loop of Take over a full row: the first full one of the first m. -/
def RtRel (W : World) (rb : Nat) (rate burst : Int) (v : Value) (l : List REnt) (now : Int) (gv jv : Value) (wr : World) : Prop :=
  ∃ (m : Nat) (g : Int), m ≤ l.length ∧ jv = .int .i64 m ∧ gv = .int .i64 g ∧ RAt wr rb rate burst v (l.map (rS (firstS l now m))) ∧ Off (fun i => ∃ e ∈ l, i = e.c) W wr ∧
    ((g = -1 ∧ ∀ j y, j < m → l[j]? = some y → rFull now y = false) ∨ ∃ (k : Nat) (x : REnt), g = k ∧ k < m ∧ l[k]? = some x ∧ rFull now x = true ∧ ∀ j y, j < k → l[j]? = some y → rFull now y = false)

set_option maxRecDepth 100000 in
set_option maxHeartbeats 2000000 in
theorem rtake12_full {w : World} {rb : Nat} {rate burst : Int} {v : Value} {l : List REnt} (hi lo now : Int) (h : RAt w rb rate burst v l) (hn : I64 now) (habs : ∀ e ∈ l, e.a ≠ (hi, lo)) (hlen : l.length = 32) :
    Calls Try.prog 26 #[.pointer (some ⟨rb, 0, none⟩), .agg #[.int .u64 hi, .int .u64 lo], .int .i64 now] w (RTake rb rate burst v l (hi, lo) now w) := by
  obtain ⟨i0, hi0, hz0, hz1, hz2⟩ := info_parts Try.info76
  have hS := Blk.new w 46 #[.int .u64 hi, .int .u64 lo]
  have hO0 := (Off.refl (fun _ => False) w).alloc (.cells #[.int .u64 hi, .int .u64 lo] 46)
  have h0 := h.off hO0 (fun _ _ k => k)
  have s0 : (w.alloc (.cells #[.int .u64 hi, .int .u64 lo] 46)).cell? ⟨w.heap.size, 0, none⟩ = some (.int .u64 hi) := hS.cell 0
  have s1 : (w.alloc (.cells #[.int .u64 hi, .int .u64 lo] 46)).cell? ⟨w.heap.size, 1, none⟩ = some (.int .u64 lo) := hS.cell 1
  go_enter Try.func26, Try.ntmps26
  go_wp2_with fail
  refine (at_any hi lo h0).mono ?_
  rintro e w1 ⟨hO2, ⟨k, x', hx', hxa', rfl⟩ | ⟨hno, rfl⟩⟩
  · exact absurd hxa' (habs x' (List.mem_of_getElem? hx'))
  · have h1 := h0.off hO2 (fun _ _ k => k)
    have hS1 := hO2.blk hS id
    have hO1 := hO0.step hO2 (fun _ _ k => k)
    clear s0 s1 h0 hO0 hO2 hS
    obtain ⟨a, cap, hv, _⟩ := ownsRow_form h1.row
    have c2 : w1.cell? ⟨rb, 2, none⟩ = some v := h1.top.cell 2
    subst hv
    rw [hlen] at c2
    go_wp2_with fail
    go_loopw [9, 10] (RtRel w1 rb rate burst (.slice a l.length cap) l now) (fun _ j _ => l.length - (intOf j).toNat)
    case atStart => exact ⟨0, -1, Nat.zero_le _, rfl, rfl, by rw [firstS_none]; exact h1, Off.refl _ _, .inl ⟨rfl, fun j y hj => absurd hj (Nat.not_lt_zero _)⟩⟩
    case round =>
      clear c2
      obtain ⟨m, g, hm, rfl, rfl, hR, hO, hbest⟩ := hrel
      have c2 : wr.cell? ⟨rb, 2, none⟩ = some (.slice a l.length cap) := hR.top.cell 2
      by_cases hlt : m < l.length
      · have hml : (m : Int) < (l.length : Int) := by omega
        have hm0 : (0 : Int) ≤ (m : Int) := by omega
        obtain ⟨a', cap', hv, _, _, hcell⟩ := ownsRow_form hR.row
        simp only [Value.slice.injEq, List.length_map, true_and] at hv
        obtain ⟨rfl, rfl⟩ := hv
        obtain ⟨gb, rfl, _, hg⟩ := hcell m (by rw [List.length_map]; exact hlt)
        obtain ⟨x, hx⟩ : ∃ x, l[m]? = some x := ⟨l[m], List.getElem?_eq_getElem hlt⟩
        have hxm : x ∈ l := List.mem_of_getElem? hx
        rw [rS_proj (g := firstS l now m) REnt.ptr (fun _ => rfl), List.getElem?_map, hx] at hg
        have hg' : wr.cell? ⟨gb, m, none⟩ = some (.pointer (some ⟨x.o, 0, none⟩)) := hg
        have hxm' : rS (firstS l now m) x ∈ l.map (rS (firstS l now m)) := List.mem_map_of_mem hxm
        have hU : Blk wr x.o 75 #[.int .u64 x.a.1, .int .u64 x.a.2, .pointer (some ⟨x.c, 0, none⟩)] := hR.one (rS (firstS l now m) x) hxm'
        have hB : BAt 61 wr x.c x.s := by have := hR.bk _ hxm'; rw [show (rS (firstS l now m) x).s = x.s from firstS_not h.keys hx] at this; exact this
        have o2 : wr.cell? ⟨x.o, 2, none⟩ = some (.pointer (some ⟨x.c, 0, none⟩)) := hU.cell 2
        have HX := Lib.hid hx
        have hlen32 : l.length < 9223372036854775807 := by omega
        clear hg hx hcell
        go_wp2_with fail
        refine (rfull_any x.c x.s now wr hB (h.ok x hxm) hn).mono ?_
        rintro e w2 ⟨rfl, hB2, hO2⟩
        have hR2 : RAt w2 rb rate burst (.slice (some ⟨gb, 0, none⟩) l.length cap) (l.map (rS (firstS l now (m + 1)))) := by
          have := hR.turned (g := fun y => if y.a = x.a then x.s.learn now else y.s) (S := (· = x.c)) hO2 (fun i hi => ⟨_, hxm', hi⟩) (fun y hy => by
            by_cases hya : y.a = x.a
            · obtain rfl := nodup_inj hR.keys hy hxm' hya
              simp only [hya, if_true]; exact hB2
            · simp only [if_neg hya]
              exact (hR.bk _ hy).off hO2 (fun e => hya (by rw [nodup_inj hR.cs hy hxm' e]; rfl))) (fun y hy => by
            split
            · exact Bk.learn_ok (h.ok x hxm) hn
            · exact hR.ok y hy)
          rw [List.map_map, List.map_congr_left (g := rS (firstS l now (m + 1))) (fun z hz => by
            by_cases hzx : z.a = x.a
            · obtain rfl := nodup_inj h.keys hz hxm hzx
              simp only [Function.comp, rS, if_true, firstS_at HX.out]
            · simp only [Function.comp, rS, hzx, if_false, firstS_next HX.out z hzx])] at this
          exact this
        have hO2' : Off (fun i => ∃ e ∈ l, i = e.c) w1 w2 := hO.step hO2 (fun i _ e => ⟨x, hxm, e⟩)
        clear c2 hg' o2 hR hO
        have hlt1 : m + 1 ≤ l.length := hlt
        have hx' := HX.out
        have hstay : ∀ (g : Int), (rFull now x = false ∨ g ≠ -1) → ((g = -1 ∧ ∀ j y, j < m → l[j]? = some y → rFull now y = false) ∨ ∃ (k : Nat) (x : REnt), g = k ∧ k < m ∧ l[k]? = some x ∧ rFull now x = true ∧ ∀ j y, j < k → l[j]? = some y → rFull now y = false) →
            ((g = -1 ∧ ∀ j y, j < m + 1 → l[j]? = some y → rFull now y = false) ∨ ∃ (k : Nat) (x : REnt), g = k ∧ k < m + 1 ∧ l[k]? = some x ∧ rFull now x = true ∧ ∀ j y, j < k → l[j]? = some y → rFull now y = false) := by
          rintro g hg (⟨h1, h2⟩ | ⟨k, y, h1, h2, h3⟩)
          · left
            refine ⟨h1, fun j y hj hy => ?_⟩
            by_cases hjm : j = m
            · subst hjm; rw [hx'] at hy; cases hy
              exact hg.resolve_right (fun e => e h1)
            · exact h2 j y (by omega) hy
          · exact .inr ⟨k, y, h1, by omega, h3⟩
        have HS := Lib.hid hstay
        clear hx' hstay
        cases hf : ((x.s.learn now).tokens == x.s.burst) with
        | false =>
          have HF := Lib.hid hf
          have hb' := HS.out g (.inl hf) hbest
          clear hf hbest
          go_wp2
          exact ⟨⟨m + 1, g, hlt1, by go_num, rfl, hR2, hO2', hb'⟩, by simp [intOf]; omega⟩
        | true =>
          have HF := Lib.hid hf
          clear hf
          rcases hbest with ⟨rfl, hno'⟩ | ⟨k, y, rfl, hk, hy, hfy, hfirst⟩
          · have hb' : ((m : Int) = -1 ∧ ∀ j y, j < m + 1 → l[j]? = some y → rFull now y = false) ∨ ∃ (k : Nat) (x : REnt), (m : Int) = k ∧ k < m + 1 ∧ l[k]? = some x ∧ rFull now x = true ∧ ∀ j y, j < k → l[j]? = some y → rFull now y = false :=
              .inr ⟨m, x, rfl, by omega, HX.out, HF.out, hno'⟩
            clear hno'
            go_wp2
            exact ⟨⟨m + 1, m, hlt1, by go_num, rfl, hR2, hO2', hb'⟩, by simp [intOf]; omega⟩
          · have hb' := HS.out k (.inr (by omega)) (.inr ⟨k, y, rfl, hk, hy, hfy, hfirst⟩)
            clear hy hfy hfirst
            have hk0 : ¬ ((k : Int) < 0) := by omega
            go_wp2
            exact ⟨⟨m + 1, k, hlt1, by go_num, rfl, hR2, hO2', hb'⟩, by simp [intOf]; omega⟩
      · obtain rfl : m = l.length := by omega
        rw [firstS_all] at hR
        have hO3' : Off (ROwn rb (.slice a l.length cap) l) w wr := (hO1.mono (S' := ROwn rb (.slice a l.length cap) l) (fun _ _ k => k.elim)).step hO (fun i _ ⟨e, he, hi⟩ => .inr (.inr ⟨e, he, .inr hi⟩))
        rcases hbest with ⟨rfl, hno'⟩ | ⟨k, y, rfl, hk, hy, hfy, hfirst⟩
        · have hnone : ∀ e ∈ l, rFull now e = false := fun e he => by
            obtain ⟨j, hj, rfl⟩ := List.getElem_of_mem he
            exact hno' j _ hj (List.getElem?_eq_getElem hj)
          clear hno'
          go_wp2
          go_ret2
          exact ⟨_, _, _, _, rfl, .inr (.inr (.inr ⟨habs, hlen, hnone, rfl, rfl, rfl⟩)), hR, hO3', fun i hi => .inl ((rown_rS (g := fun e => e.s.learn now) l i).1 hi)⟩
        · have hkl : k < (l.map (rLearn now)).length := by rw [List.length_map]; exact hk
          have hk0 : ¬ ((k : Int) < 0) := by omega
          have hRT : ∀ n : REnt, n.a = (hi, lo) → n.s = (Bk.new rate burst now).took now 1 → RTakeR rate burst l (hi, lo) now ((l.map (rLearn now)).eraseIdx k ++ [n]) ((Bk.new rate burst now).takes now 1) true :=
            fun n h1 h2 => .inr (.inr (.inl ⟨habs, hlen, k, y, hy, hfy, hfirst, n, h1, h2, rfl, rfl, rfl⟩))
          have hS2 := hO.blk hS1 (fun ⟨e, he, hi⟩ => MAt.blk_ne hS1 (h1.bk e he) (by decide) hi)
          clear hy hfy hfirst
          go_wp2_with fail
          refine (out_any k hR hkl).mono ?_
          rintro e w3 ⟨v3, rfl, h3, hO4, hv4⟩
          have hS3 := hO4.blk hS2 (fun e => MAt.blk_ne hS2 hR.top (by decide) e)
          have hlen3' : ((l.map (rLearn now)).eraseIdx k).length < 32 := by rw [List.length_eraseIdx, if_pos hkl, List.length_map]; omega
          have habs3 : ∀ e ∈ (l.map (rLearn now)).eraseIdx k, e.a ≠ (hi, lo) := fun e he => by
            obtain ⟨z, hz, rfl⟩ := List.mem_map.1 (List.mem_of_mem_eraseIdx he)
            exact habs z hz
          have hO3 : Off (ROwn rb (.slice a l.length cap) l) w w3 := hO3'.step hO4 (fun i _ e => .inl e)
          have hv3 : ∀ i, ROwn rb v3 ((l.map (rLearn now)).eraseIdx k) i → ROwn rb (.slice a l.length cap) l i ∨ w.heap.size ≤ i := by
            rintro i (e | e | ⟨z, hz, e⟩)
            · exact .inl (.inl e)
            · have := hv4 i e; have := hO3'.size; right; omega
            · obtain ⟨y, hy, rfl⟩ := List.mem_map.1 (List.mem_of_mem_eraseIdx hz)
              exact .inl (.inr (.inr ⟨y, hy, e⟩))
          have hR := hRT
          clear hRT c2
          have hlen3 := h3.few
          have hrb3 := h3.top.lt
          have e0 : w3.cell? ⟨w.heap.size, 0, none⟩ = some (.int .u64 hi) := hS3.cell 0
          have e1 : w3.cell? ⟨w.heap.size, 1, none⟩ = some (.int .u64 lo) := hS3.cell 1
          have hU4 := Blk.new w3 75 #[.int .u64 hi, .int .u64 lo, .pointer none]
          have hO4 := (Off.refl (fun _ => False) w3).alloc (.cells #[.int .u64 hi, .int .u64 lo, .pointer none] 75)
          have h4 := h3.off hO4 (fun _ _ k => k)
          have r0 : (w3.alloc (.cells #[.int .u64 hi, .int .u64 lo, .pointer none] 75)).cell? ⟨rb, 0, none⟩ = some (.int .i64 rate) := h4.top.cell 0
          have r1 : (w3.alloc (.cells #[.int .u64 hi, .int .u64 lo, .pointer none] 75)).cell? ⟨rb, 1, none⟩ = some (.int .i64 burst) := h4.top.cell 1
          have hrb4 := h4.top.lt
          have hol := hU4.lt
          go_wp2_with fail
          clear e0 e1
          have hsz4 : w3.heap.size < (w3.alloc (.cells #[.int .u64 hi, .int .u64 lo, .pointer none] 75)).heap.size := by simp
          generalize w3.alloc (.cells #[.int .u64 hi, .int .u64 lo, .pointer none] 75) = w4 at *
          generalize ho : w3.heap.size = o at *
          go_region_held3 (fun w' => w'.cell? ⟨rb, 0, none⟩ = some (.int .i64 rate) ∧ w'.cell? ⟨rb, 1, none⟩ = some (.int .i64 burst)) (first | exact ⟨r0, r1⟩ | exact ⟨s0, s1⟩ | exact ⟨z0, z1⟩)
            (first | (go_at_call 15; refine (rnew_any rate burst now _).mono ?_; rintro e w5 ⟨c, rfl, hcn, hB5, hO5⟩; have s0 := (hO5.cell (p := ⟨rb, 0, none⟩) hrb4 id).trans r0; have s1 := (hO5.cell (p := ⟨rb, 1, none⟩) hrb4 id).trans r1; have hU5 := hO5.blk hU4.drew id; have k5 : w5.cell? ⟨o, 2, none⟩ = some (.pointer none) := hU5.cell 2; have kf5 : w5.frozen? ⟨o, 2, none⟩ = false := hU5.free 2; have hor : o ≠ rb := MAt.blk_ne hU4 h4.top (by decide); have hOs : Off (· = o) w5 (w5.setCell ⟨o, 2, none⟩ (.pointer (some ⟨c, 0, none⟩))) := (Off.refl _ _).setAt _ _; have z0 := (hOs.cell (p := ⟨rb, 0, none⟩) (Nat.lt_of_lt_of_le hrb4 hO5.size) hor.symm).trans s0; have z1 := (hOs.cell (p := ⟨rb, 1, none⟩) (Nat.lt_of_lt_of_le hrb4 hO5.size) hor.symm).trans s1))
          have hU6 : Blk (w5.setCell ⟨o, 2, none⟩ (.pointer (some ⟨c, 0, none⟩))) o 75 #[.int .u64 hi, .int .u64 lo, .pointer (some ⟨c, 0, none⟩)] := hU5.setCell 2 _
          have hoc : o ≠ c := MAt.blk_ne hU5 hB5 (by decide)
          have hB6 : BAt 61 (w5.setCell ⟨o, 2, none⟩ (.pointer (some ⟨c, 0, none⟩))) c (Bk.new rate burst now) := Blk.setOther hB5 hoc _
          have hcs : w3.heap.size ≤ c := by simp at hcn; omega
          have hos : w3.heap.size ≤ o := by omega
          have hO36 : Off (fun _ => False) w3 (w5.setCell ⟨o, 2, none⟩ (.pointer (some ⟨c, 0, none⟩))) :=
            (((hO4.drew.step hO5 (fun _ _ k => k)).mono (S' := fun i => i = o) (fun _ _ k => k.elim)).step hOs (fun _ _ k => k)).fresh (fun k hk => by omega)
          have h6 := h3.off hO36 (fun _ _ k => k)
          clear s0 s1 z0 z1 r0 r1 k5 kf5 hU5 hB5 hOs hO5 hO4 h4 hU4 hrb4 hol hcn hsz4 ho
          generalize w5.setCell ⟨o, 2, none⟩ (.pointer (some ⟨c, 0, none⟩)) = w6 at *
          have c6 : w6.cell? ⟨rb, 2, none⟩ = some (v3) := h6.top.cell 2
          go_wp2_with (first
            | (at_builtin; refine wpList_append_own_at _ rfl (.tmp 90) (.tmp 92) 57 rfl 0 76 i0 (.pointer none) 1 8 Try.underlying57 hi0 hz0 hz1 hz2 rfl (by decide) (v3) _ _ rfl (h6.row.alloc _) ⟨w6.heap.size, 0, none⟩ 1 1 [.pointer (some ⟨o, 0, none⟩)] rfl rfl (cell_one_new _ _ _) (fun u hu => by simp at hu; subst hu; rfl) (by unfold maxLen; omega) (by omega) (Nat.zero_le _) ?_; intro v7 w7 hown7 hgrow7 hnn7 hloc7; have hO7 : Off (fun i => (v3).ownBlock = some i) w6 w7 := (((Off.refl (fun _ => False) w6).alloc (.cells #[.pointer (some ⟨o, 0, none⟩)] 76)).mono (fun _ _ k => k.elim)).step (grown_off hgrow7) (fun i _ e => e.symm); have hT7 := hO7.blk h6.top (fun e => by obtain ⟨cur, hb⟩ := ownsRow_blk h6.row e; exact MAt.blk_ne hb h6.top (by decide) rfl); have c7 : w7.cell? ⟨rb, 2, none⟩ = some (v3) := hT7.cell 2; have f7 : w7.frozen? ⟨rb, 2, none⟩ = false := hT7.free 2; have hU7 := hO7.blk hU6 (fun e => by obtain ⟨cur, hb⟩ := ownsRow_blk h6.row e; exact MAt.blk_ne hb hU6 (by decide) rfl); have u7 : w7.cell? ⟨o, 2, none⟩ = some (.pointer (some ⟨c, 0, none⟩)) := hU7.cell 2; have hne7 : ¬ rb = o := MAt.blk_ne hT7 hU7 (by decide); have hv7 : ¬ v7 = .slice none 0 0 := fun e => absurd (hnn7.1 e).2 (by omega); obtain ⟨g7, cap7, cur7, rfl, hb7, hg7, hc7, hm7, hs7, ht7⟩ := hown7.2.resolve_left (fun e => hv7 e.1)))
          have hB7 := hB6.off hO7 (fun e => by obtain ⟨cur, hb⟩ := ownsRow_blk h6.row e; exact MAt.blk_ne hb hB6 (by decide) rfl)
          have hnec : rb ≠ c := MAt.blk_ne hT7 hB7 (by decide)
          have hneg : g7 ≠ rb := MAt.blk_ne (T := 76) (cs := cur7) hg7 hT7 (by decide)
          have hnegc : g7 ≠ c := MAt.blk_ne (T := 76) (cs := cur7) hg7 hB7 (by decide)
          have hs0 := Bk.new_ok rate burst now hn
          refine (rtake_any c (Bk.new rate burst now) now 1 _ (Blk.setOther hB7 hnec _) hs0 hn ⟨by omega, by omega⟩).mono ?_
          rintro e w8 ⟨rfl, hB8, hO8⟩
          have hT8 := hO8.blk (hT7.setCell 2 (.slice (some ⟨g7, 0, none⟩) (((l.map (rLearn now)).eraseIdx k).length + 1) cap7)) hnec
          have hU8 := hO8.blk (hU7.setOther hne7 (.slice (some ⟨g7, 0, none⟩) (((l.map (rLearn now)).eraseIdx k).length + 1) cap7)) hoc
          have hG8 : Blk w8 g7 76 cur7 := hO8.blk (Blk.setOther (p := ⟨rb, 2, none⟩) (show Blk w7 g7 76 cur7 from hg7) hneg.symm (.slice (some ⟨g7, 0, none⟩) (((l.map (rLearn now)).eraseIdx k).length + 1) cap7)) hnegc
          have hO68 : Off (fun i => i = rb ∨ (v3).ownBlock = some i ∨ i = c) w6 w8 :=
            (((hO7.mono (S' := fun i => i = rb ∨ (v3).ownBlock = some i ∨ i = c) fun _ _ k => .inr (.inl k)).setCell (p := ⟨rb, 2, none⟩) _ fun _ => .inl rfl)).step hO8 (fun _ _ k => .inr (.inr k))
          have hO38 := (hO36.mono (S' := fun i => i = rb ∨ (v3).ownBlock = some i ∨ i = c) (fun _ _ k => k.elim)).step hO68 (fun _ _ k => k)
          go_wp2
          go_ret2
          have hfin := h3.snoc (n := ⟨(hi, lo), o, c, (Bk.new rate burst now).took now 1⟩) hO38 (fun y hy e => by
              rcases e with e | e | e
              · exact MAt.blk_ne h3.top (h3.one y hy) (by decide) e.symm
              · obtain ⟨cur, hb⟩ := ownsRow_blk h3.row e; exact MAt.blk_ne hb (h3.one y hy) (by decide) rfl
              · have := (h3.one y hy).lt; omega) (fun y hy e => by
              rcases e with e | e | e
              · exact MAt.blk_ne h3.top (h3.bk y hy) (by decide) e.symm
              · obtain ⟨cur, hb⟩ := ownsRow_blk h3.row e; exact MAt.blk_ne hb (h3.bk y hy) (by decide) rfl
              · have := (h3.bk y hy).lt; omega) (fun y hy e => by have := (h3.bk y hy).lt; simp only at e; omega) habs3 hlen3' hT8
              ⟨by simp, .inr ⟨g7, cap7, cur7, rfl, Nat.zero_le _, hG8, hc7, hm7, hs7, ht7⟩⟩ hU8 hB8 (Bk.took_ok hs0 hn)
          refine ⟨_, _, _, _, rfl, hR _ rfl rfl, hfin, hO3.step hO38 ?_, ?_⟩
          · intro i hi e
            have := hO3.size
            rcases e with e | e | e
            · exact .inl e
            · exact (hv3 i (.inr (.inl e))).elim id (fun k => by omega)
            · omega
          · intro i hi
            have := hO3.size
            have := hO36.size
            rcases hi with e | e | ⟨y, hy, e⟩
            · exact .inl (.inl e)
            · have hg7i : g7 = i := by simpa [Value.ownBlock] using e
              subst hg7i
              rcases hloc7 with e | e
              · exact hv3 g7 (.inr (.inl (e ▸ rfl)))
              · right
                have : g7 = (w6.alloc (.cells #[.pointer (some ⟨o, 0, none⟩)] 76)).heap.size := by simpa [Value.ownBlock] using e
                simp at this; omega
            · rcases List.mem_append.1 hy with hy | hy
              · exact hv3 i (.inr (.inr ⟨y, hy, e⟩))
              · rw [List.mem_singleton.1 hy] at e
                simp only at e
                right; omega

theorem rtake12_any {w : World} {rb : Nat} {rate burst : Int} {v : Value} {l : List REnt} (hi lo now : Int) (h : RAt w rb rate burst v l) (hn : I64 now) :
    Calls Try.prog 26 #[.pointer (some ⟨rb, 0, none⟩), .agg #[.int .u64 hi, .int .u64 lo], .int .i64 now] w (RTake rb rate burst v l (hi, lo) now w) := by
  by_cases hx : ∃ x ∈ l, x.a = (hi, lo)
  · obtain ⟨x, hx, hxa⟩ := hx
    obtain ⟨i, hi', rfl⟩ := List.getElem_of_mem hx
    exact rtake12_some hi lo now h hn (List.getElem?_eq_getElem hi') hxa
  · have habs : ∀ e ∈ l, e.a ≠ (hi, lo) := fun e he k => hx ⟨e, he, k⟩
    by_cases hlt : l.length < 32
    · exact rtake12_few hi lo now h hn habs hlt
    · exact rtake12_full hi lo now h hn habs (by have := h.few; omega)

end Go.Proofs.Ytepibimlmfhceaa
