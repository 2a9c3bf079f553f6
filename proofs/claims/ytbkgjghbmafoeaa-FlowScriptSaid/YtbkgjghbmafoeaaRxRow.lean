/- The document's table of flows in memory, and the walk over its at. Conditions: the table lies whole in memory. · The document's table: parts of its row, appended to a row of the call's own. Conditions: the row lies whole in memory. · The walk over the Drop of the document's table. Conditions: the table lies whole in memory. · The walk over the Set of the document's table. Conditions: the table lies whole in memory. -/
import Derived.Test.YtbkgjghbmafoeaaFlAddB
namespace Go.Proofs.Ytbkgjghbmafoeaa
open Go.RowKit

/-- The row that v tells: the flows' cells, from its offset on. -/
structure XRow (w : World) (v : Value) (L : List Fl) (g : Option Nat) : Prop where
  form : ∃ a cap, v = .slice a L.length cap ∧ L.length ≤ cap ∧ cap ≤ maxLen ∧ ∀ j u, (L.flatMap flL)[j]? = some u → ∃ b off, a = some ⟨b, off, none⟩ ∧ g = some b ∧ w.cell? ⟨b, off + j, none⟩ = some u
  blk : ∀ b, g = some b → ∃ cur, Blk w b 42 cur
  shape : v = .slice none 0 0 ∨ ∃ b off n cap, v = .slice (some ⟨b, off, none⟩) n cap

/-- The document's table: it holds L. -/
structure RxAt (w : World) (rb : Nat) (v : Value) (g : Option Nat) (L : List Fl) : Prop where
  top : Blk w rb 28 #[v]
  row : XRow w v L g
  few : L.length ≤ 48

def RxOwn (rb : Nat) (g : Option Nat) (i : Nat) : Prop := i = rb ∨ g = some i

theorem XRow.off {w w' : World} {v : Value} {L : List Fl} {g : Option Nat} {S : Nat → Prop} (H : XRow w v L g) (k : Off S w w') (hn : ∀ b, g = some b → ¬ S b) : XRow w' v L g := by
  obtain ⟨⟨a, cap, hv, h1, h2, hc⟩, hb, hsh⟩ := H
  refine ⟨⟨a, cap, hv, h1, h2, fun j u hu => ?_⟩, fun b hg => ?_, hsh⟩
  · obtain ⟨b, off, ha, hg, hcell⟩ := hc j u hu
    obtain ⟨cur, hcur⟩ := hb b hg
    exact ⟨b, off, ha, hg, by rw [k.cell (p := ⟨b, off + j, none⟩) hcur.lt (hn b hg)]; exact hcell⟩
  · obtain ⟨cur, hcur⟩ := hb b hg
    exact ⟨cur, k.blk hcur (hn b hg)⟩

theorem RxAt.off {w w' : World} {rb : Nat} {v : Value} {g : Option Nat} {L : List Fl} {S : Nat → Prop} (H : RxAt w rb v g L) (k : Off S w w') (hn : ∀ i, RxOwn rb g i → ¬ S i) : RxAt w' rb v g L :=
  ⟨k.blk H.top (hn _ (.inl rfl)), H.row.off k (fun b hb => hn b (.inr hb)), H.few⟩

theorem RxAt.lt {w : World} {rb : Nat} {v : Value} {g : Option Nat} {L : List Fl} (H : RxAt w rb v g L) {i : Nat} (hi : RxOwn rb g i) : i < w.heap.size := by
  rcases hi with rfl | hi
  · exact H.top.lt
  · obtain ⟨cur, hb⟩ := H.row.blk i hi; exact hb.lt

theorem RxAt.new (w : World) : RxAt (w.alloc (.cells #[.slice none 0 0] 28)) w.heap.size (.slice none 0 0) none [] :=
  ⟨Blk.new _ _ _, ⟨⟨none, 0, rfl, Nat.le_refl _, Nat.zero_le _, fun j u hu => by simp at hu⟩, fun b hb => (by cases hb), .inl rfl⟩, Nat.zero_le _⟩

theorem Tbl.apart {w : World} {tb rb : Nat} {U : Nat → Prop} {L M : List Fl} {v : Value} {g : Option Nat} (H : Tbl w tb U L) (R : RxAt w rb v g M) : ∀ i, RxOwn rb g i → ¬ U i := by
  rintro i (rfl | hi)
  · exact H.not_blk R.top (by decide) (by decide) (by decide) (by decide) (by decide)
  · obtain ⟨cur, hb⟩ := R.row.blk i hi
    exact H.not_blk hb (by decide) (by decide) (by decide) (by decide) (by decide)

theorem flats_at' : ∀ {L : List Fl} {j : Nat} {f : Fl}, L[j]? = some f → ∀ i v, (flL f)[i]? = some v → (L.flatMap flL)[j * 20 + i]? = some v
  | [], j, f, h, _, _, _ => by simp at h
  | g :: L, 0, f, h, i, v, hv => by
    simp only [List.getElem?_cons_zero, Option.some.injEq] at h
    subst h
    have hi : i < 20 := by
      rcases Nat.lt_or_ge i 20 with h' | h'
      · exact h'
      · rw [List.getElem?_eq_none (by rw [flL_len]; exact h')] at hv; cases hv
    rw [List.flatMap_cons, Nat.zero_mul, Nat.zero_add, List.getElem?_append_left (by rw [flL_len]; exact hi)]; exact hv
  | g :: L, j + 1, f, h, i, v, hv => by
    simp only [List.getElem?_cons_succ] at h
    rw [List.flatMap_cons, List.getElem?_append_right (by rw [flL_len]; omega), flL_len, show (j + 1) * 20 + i - 20 = j * 20 + i by omega]
    exact flats_at' h i v hv

/-- The flow k. -/
theorem XRow.at {w : World} {a : Option Addr} {n cap : Nat} {L : List Fl} {g : Option Nat} (H : XRow w (.slice a n cap) L g) {k : Nat} {f : Fl} (hf : L[k]? = some f) :
    ∃ b off, a = some ⟨b, off, none⟩ ∧ g = some b ∧ w.rangeAt b (off + k * 20) (flL f) := by
  obtain ⟨⟨a', cap', hv, h1, h2, hc⟩, hb, _⟩ := H
  simp only [Value.slice.injEq] at hv
  obtain ⟨rfl, _, rfl⟩ := hv
  obtain ⟨b, off, rfl, hg, _⟩ := hc _ _ (flats_at' hf 0 _ rfl)
  refine ⟨b, off, rfl, hg, fun i v hv => ?_⟩
  obtain ⟨b', off', hbo, _, c⟩ := hc _ _ (flats_at' hf i v hv)
  simp only [Option.some.injEq, Addr.mk.injEq, and_true] at hbo
  obtain ⟨rfl, rfl⟩ := hbo
  rw [Nat.add_assoc]; exact c

theorem own_xrow {w : World} {base : Nat} {v : Value} {L : List Fl} (h : w.ownsRow base 42 20 v L.length (L.flatMap flL)) : XRow w v L v.ownBlock := by
  obtain ⟨hl, ⟨rfl, h0⟩ | ⟨g, cap, cur, rfl, _, hg, hc, hm, hs, ht⟩⟩ := h
  · refine ⟨⟨none, 0, by rw [h0], by omega, Nat.zero_le _, fun j u hu => ?_⟩, fun b hb => by simp [Value.ownBlock] at hb, .inl rfl⟩
    rw [List.eq_nil_of_length_eq_zero h0] at hu; simp at hu
  · refine ⟨⟨some ⟨g, 0, none⟩, cap, rfl, hc, hm, fun j u hu => ⟨g, 0, rfl, rfl, ?_⟩⟩, fun b hb => ?_, .inr ⟨g, 0, _, _, rfl⟩⟩
    · rw [← ht, List.getElem?_take] at hu
      split at hu
      · have hb : Blk w g 42 cur := hg
        rw [Nat.zero_add, hb.cell]; simpa using hu
      · cases hu
    · have : g = b := by simpa [Value.ownBlock] using hb
      subst this; exact ⟨cur, hg⟩

/-- Where a number stands; -1: nowhere. -/
def posF (L : List Fl) (id : Int) : Int := match L.findIdx? (fun f => decide (f.id = id)) with
  | some i => i
  | none => -1

def RxPos (L : List Fl) (id : Int) (w : World) (e : Ending) (w' : World) : Prop := e = .returned (.int .i64 (posF L id)) ∧ w = w'

def RxPosRel (W : World) (L : List Fl) (id : Int) (iv : Value) (wr : World) : Prop :=
  ∃ k : Nat, k ≤ L.length ∧ iv = .int .i64 k ∧ W = wr ∧ ∀ j f, j < k → L[j]? = some f → f.id ≠ id

theorem posF_some {L : List Fl} {id : Int} {k : Nat} {f : Fl} (hk : L[k]? = some f) (he : f.id = id) (hno : ∀ j g, j < k → L[j]? = some g → g.id ≠ id) : posF L id = k := by
  have hkl : k < L.length := by
    rcases Nat.lt_or_ge k L.length with h' | h'
    · exact h'
    · rw [List.getElem?_eq_none h'] at hk; cases hk
  have : L.findIdx? (fun f => decide (f.id = id)) = some k := by
    rw [List.findIdx?_eq_some_iff_getElem]
    rw [List.getElem?_eq_getElem hkl] at hk
    refine ⟨hkl, by simp only [Option.some.injEq] at hk; simp [hk, he], fun j hj => ?_⟩
    have := hno j _ hj (List.getElem?_eq_getElem (by omega))
    simpa using this
  unfold posF; rw [this]
theorem posF_none {L : List Fl} {id : Int} (h : ∀ f ∈ L, f.id ≠ id) : posF L id = -1 := by
  have : L.findIdx? (fun f => decide (f.id = id)) = none := by
    rw [List.findIdx?_eq_none_iff]; intro f hf; simpa using h f hf
  unfold posF; rw [this]

set_option maxRecDepth 100000 in
set_option maxHeartbeats 2000000 in
theorem xpos_any {w : World} {rb : Nat} {v : Value} {g : Option Nat} {L : List Fl} (id : Int) (H : RxAt w rb v g L) :
    Calls Try.prog 40 #[.pointer (some ⟨rb, 0, none⟩), .int .i64 id] w (RxPos L id w) := by
  obtain ⟨a, cap, hv, hcap, hcm, _⟩ := H.row.form
  subst hv
  have c0 : w.cell? ⟨rb, 0, none⟩ = some (.slice a L.length cap) := H.top.cell 0
  have hfew := H.few
  unfold maxLen at hcm
  go_enter Try.func40, Try.ntmps40
  go_wp2_with fail
  go_loopw [5] (RxPosRel w L id) (fun i _ => L.length - (intOf i).toNat)
  case atStart => exact ⟨0, Nat.zero_le _, rfl, rfl, fun j x hj => absurd hj (Nat.not_lt_zero _)⟩
  case round =>
    obtain ⟨k, hk, rfl, hw, hno⟩ := hrel
    subst hw
    by_cases hlt : k < L.length
    · obtain ⟨f, hf⟩ : ∃ f, L[k]? = some f := ⟨L[k], List.getElem?_eq_getElem hlt⟩
      obtain ⟨b, off, rfl, hg, hr⟩ := H.row.at hf
      have d0 : w.cell? ⟨b, off + k * 20, none⟩ = some (.int .i64 f.id) := hr 0 _ rfl
      have hkl : (k : Int) < (L.length : Int) := by omega
      have hk0 : (0 : Int) ≤ (k : Int) := by omega
      have HF := Lib.hid hf
      clear hf hr hg
      by_cases hfi : f.id = id
      · have hfin : RxPos L id w (.returned (.int .i64 k)) w := ⟨by rw [posF_some HF.out hfi hno], rfl⟩
        have HFin := Lib.hid hfin
        have hb : (f.id == id) = true := by simpa using hfi
        clear hfin hfi
        go_wp2_with fail
        go_ret
        exact HFin.out
      · go_wp2
        refine ⟨⟨k + 1, by omega, by go_num, rfl, fun j y hj hy => ?_⟩, by simp [intOf]; omega⟩
        by_cases hjk : j = k
        · subst hjk; rw [HF.out] at hy; cases hy; exact hfi
        · exact hno j y (by omega) hy
    · have hfin : RxPos L id w (.returned (.int .i64 (-1))) w := ⟨by
        rw [posF_none fun f hf => by
          obtain ⟨j, hj, rfl⟩ := List.getElem_of_mem hf
          exact hno j _ (by omega) (List.getElem?_eq_getElem hj)], rfl⟩
      have HFin := Lib.hid hfin
      clear hfin
      go_wp2
      go_ret
      exact HFin.out
end Go.Proofs.Ytbkgjghbmafoeaa
namespace Go.Proofs.Ytbkgjghbmafoeaa
open Go.RowKit
open Go.ChangeMaps (setBlock)

theorem flats_take (L : List Fl) (k : Nat) : (L.take k).flatMap flL = (L.flatMap flL).take (k * 20) := by
  induction L generalizing k with
  | nil => simp
  | cons f L ih =>
    cases k with
    | zero => simp
    | succ k => rw [List.take_succ_cons, List.flatMap_cons, List.flatMap_cons, ih, show (k + 1) * 20 = (flL f).length + k * 20 by rw [flL_len]; omega, List.take_length_add_append]
theorem flats_drop (L : List Fl) (k : Nat) : (L.drop k).flatMap flL = (L.flatMap flL).drop (k * 20) := by
  induction L generalizing k with
  | nil => simp
  | cons f L ih =>
    cases k with
    | zero => simp
    | succ k => rw [List.drop_succ_cons, List.flatMap_cons, ih, show (k + 1) * 20 = (flL f).length + k * 20 by rw [flL_len]; omega, List.drop_length_add_append]
/-- What a slice of flows tells: nothing, or the cells of M, at one place. -/
def XSrc (w : World) (v : Value) (M : List Fl) : Prop := Src w v M.length (M.flatMap flL)

theorem XSrc.off {w w' : World} {v : Value} {M : List Fl} {S : Nat → Prop} (H : XSrc w v M) (k : Off S w w') (hn : ∀ b off n c, v = .slice (some ⟨b, off, none⟩) n c → b < w.heap.size ∧ ¬ S b) (hp : ∀ ad n c, v = .slice (some ad) n c → ad = ⟨ad.block, ad.off, none⟩) : XSrc w' v M := by
  rcases H with h | ⟨ad, c, hv, hc⟩
  · exact .inl h
  · refine .inr ⟨ad, c, hv, fun j u hu => ?_⟩
    have e := hp _ _ _ hv
    rw [e] at hv
    obtain ⟨h1, h2⟩ := hn _ _ _ _ hv
    have := hc j u hu
    rw [e] at this ⊢
    rw [← this]
    rw [Go.WideShapes.add_plain]
    exact k.cell (p := ⟨ad.block, ad.off + j, none⟩) h1 h2

theorem Try.underlying26' : Try.prog.underlying 26 = some (.slice 42) := by kernel_rfl

theorem asIntOf_i64 (k : Int) (w : World) : (asIntOf (.int .i64 k)).run Try.prog w = .ok (.i64, k) w := by simp [asIntOf]

theorem run_bound {k n : Nat} (hk : k ≤ n) (code : BoundsCode) (w : World) : (Instr.sliceBound (.int .i64 (k : Int)) n code).run Try.prog w = .ok k w := by
  have h : (0 : Int) ≤ (k : Int) ∧ (k : Int) ≤ (n : Int) := by omega
  simp [Instr.sliceBound, asIntOf, h]

theorem run_slice_lo {w : World} {v : Value} {L : List Fl} {g : Option Nat} (H : XRow w v L g) {k : Nat} (hk : k ≤ L.length) :
    ∃ v', (Instr.slice 26 v none (some (.int .i64 (k : Int))) none).run Try.prog w = .ok v' w ∧ XSrc w v' (L.take k) := by
  obtain ⟨⟨a, cap, rfl, hc, hm, hcell⟩, hb, hsh⟩ := H
  refine ⟨.slice (if cap = 0 then a else a.map (·.add (0 * 20))) k cap, ?_, ?_⟩
  · simp [Instr.slice, Instr.sliceBounds, run_underlying Try.underlying26', run_bound (Nat.le_trans hk hc)]
  · rcases hsh with hsh | ⟨b, off, n', cap', hsh⟩
    · simp only [Value.slice.injEq] at hsh
      obtain ⟨rfl, h0, rfl⟩ := hsh
      obtain rfl : L = [] := List.eq_nil_of_length_eq_zero h0
      obtain rfl : k = 0 := by simpa using hk
      exact .inl ⟨rfl, rfl, rfl⟩
    · simp only [Value.slice.injEq] at hsh
      obtain ⟨rfl, rfl, rfl⟩ := hsh
      refine .inr ⟨⟨b, off, none⟩, cap, ?_, fun j u hu => ?_⟩
      · rw [List.length_take, Nat.min_eq_left hk]
        split <;> simp [Addr.add]
      · rw [flats_take, List.getElem?_take] at hu
        split at hu
        · obtain ⟨b', off', hbo, _, c⟩ := hcell j u hu
          simp only [Option.some.injEq, Addr.mk.injEq, and_true] at hbo
          obtain ⟨rfl, rfl⟩ := hbo
          rw [Go.WideShapes.add_plain]; exact c
        · cases hu

theorem run_slice_hi {w : World} {v : Value} {L : List Fl} {g : Option Nat} (H : XRow w v L g) {k : Nat} (hk : k ≤ L.length) :
    ∃ v', (Instr.slice 26 v (some (.int .i64 (k : Int))) none none).run Try.prog w = .ok v' w ∧ XSrc w v' (L.drop k) := by
  obtain ⟨⟨a, cap, rfl, hc, hm, hcell⟩, hb, hsh⟩ := H
  refine ⟨.slice (if cap = k then a else a.map (·.add (k * 20))) (L.length - k) (cap - k), ?_, ?_⟩
  · simp [Instr.slice, Instr.sliceBounds, run_underlying Try.underlying26', run_bound hk]
  · rcases hsh with hsh | ⟨b, off, n', cap', hsh⟩
    · simp only [Value.slice.injEq] at hsh
      obtain ⟨rfl, h0, rfl⟩ := hsh
      obtain rfl : L = [] := List.eq_nil_of_length_eq_zero h0
      obtain rfl : k = 0 := by simpa using hk
      exact .inl ⟨rfl, rfl, rfl⟩
    · simp only [Value.slice.injEq] at hsh
      obtain ⟨rfl, rfl, rfl⟩ := hsh
      by_cases hck : cap = k
      · rw [if_pos hck]
        have hd : L.drop k = [] := List.drop_eq_nil_of_le (by omega)
        rw [hd]
        refine .inr ⟨⟨b, off, none⟩, cap - k, ?_, fun j u hu => by simp at hu⟩
        have : L.length - k = 0 := by omega
        rw [this]; rfl
      · rw [if_neg hck]
        refine .inr ⟨⟨b, off + k * 20, none⟩, cap - k, ?_, fun j u hu => ?_⟩
        · rw [List.length_drop]; simp [Addr.add]
        · rw [flats_drop, List.getElem?_drop] at hu
          obtain ⟨b', off', hbo, _, c⟩ := hcell _ u hu
          simp only [Option.some.injEq, Addr.mk.injEq, and_true] at hbo
          obtain ⟨rfl, rfl⟩ := hbo
          rw [Go.WideShapes.add_plain, Nat.add_assoc]; exact c

section
variable {ops : Array Oper} {rest : List Oper} {o : Oper} {a : Act} {w : World} {Q : Exit → Act → World → Prop}

theorem wpList_slice_of {x : Value} {lo hi : Option Operand} {X : Operand} {v' : Value} (hgd : o.guard = none) (ho : o.op = .slice 26 X lo hi none) (hx : a.eval X = x)
    (hr : (Instr.slice 26 x (lo.map a.eval) (hi.map a.eval) none).run Try.prog w = .ok v' w) (h : wpList Try.prog ops Q rest (a.put o.dst v') w) : wpList Try.prog ops Q (o :: rest) a w := by
  unfold wpList
  rw [if_pos (by simp [Region.wanted, hgd])]
  left
  unfold Oper.wp execOp
  simp only [ho, hx, Option.map_none, Instr.sliceAt, Sem.run_bind, run_underlying Try.underlying26', Result.andThen_ok, hr, Sem.run_pure, Oper.upon]
  exact h

theorem wpList_slice_lo (hgd : o.guard = none) (X Y : Operand) (ho : o.op = .slice 26 X none (some Y) none) (v : Value) (hx : a.eval X = v) (k : Nat) (hy : a.eval Y = .int .i64 (k : Int)) {L : List Fl} {g : Option Nat} (H : XRow w v L g) (hk : k ≤ L.length)
    (h : ∀ v', XSrc w v' (L.take k) → wpList Try.prog ops Q rest (a.put o.dst v') w) : wpList Try.prog ops Q (o :: rest) a w := by
  obtain ⟨v', hr, hs⟩ := run_slice_lo H hk
  exact wpList_slice_of hgd ho hx (by simpa [hy] using hr) (h v' hs)
theorem wpList_slice_hi (hgd : o.guard = none) (X Y : Operand) (ho : o.op = .slice 26 X (some Y) none none) (v : Value) (hx : a.eval X = v) (k : Nat) (hy : a.eval Y = .int .i64 (k : Int)) {L : List Fl} {g : Option Nat} (H : XRow w v L g) (hk : k ≤ L.length)
    (h : ∀ v', XSrc w v' (L.drop k) → wpList Try.prog ops Q rest (a.put o.dst v') w) : wpList Try.prog ops Q (o :: rest) a w := by
  obtain ⟨v', hr, hs⟩ := run_slice_hi H hk
  exact wpList_slice_of hgd ho hx (by simpa [hy] using hr) (h v' hs)

/-- A row of flows that is the call's own: its block is not below base. -/
def XOwn (w : World) (base : Nat) (v : Value) (L : List Fl) : Prop := w.ownsRow base 42 20 v L.length (L.flatMap flL)

theorem XOwn.made (w : World) : XOwn (w.alloc (.cells #[] 42)) w.heap.size (.slice (some ⟨w.heap.size, 0, none⟩) 0 0) [] :=
  World.ownsRow_made w (e := 42) (size := 20) #[] 0 (Nat.le_refl _) (by decide) rfl
theorem XOwn.shape {base : Nat} {v : Value} {L : List Fl} (h : XOwn w base v L) : ∃ a cap, v = .slice a L.length cap := by
  obtain ⟨hl, ⟨rfl, h0⟩ | ⟨g, cap, cur, rfl, _⟩⟩ := h
  · exact ⟨none, 0, by rw [h0]⟩
  · exact ⟨_, _, rfl⟩
theorem XOwn.alloc {base : Nat} {v : Value} {L : List Fl} (h : XOwn w base v L) (o : Obj) : XOwn (w.alloc o) base v L := World.ownsRow.alloc h o
theorem XOwn.lt {base : Nat} {v : Value} {L : List Fl} (h : XOwn w base v L) : ∀ i, v.ownBlock = some i → base ≤ i ∧ i < w.heap.size := World.ownsRow.lt h
theorem XOwn.at {base : Nat} {v : Value} {L : List Fl} (h : XOwn w base v L) {rb : Nat} (ht : Blk w rb 28 #[v]) (hf : L.length ≤ 48) : RxAt w rb v v.ownBlock L := ⟨ht, own_xrow h, hf⟩

theorem wpList_appx (hgd : o.guard = none) (s x : Operand) (ho : o.op = .call { callee := .builtin .append, args := #[s, x], argTypes := #[26, 26] })
    (base : Nat) (v : Value) (L : List Fl) (hs : a.eval s = v) (hown : XOwn w base v L) (src : Value) (M : List Fl) (hx : a.eval x = src) (hnews : XSrc w src M)
    (hn : L.length + M.length ≤ 1000) (hbase : base ≤ w.heap.size)
    (h : ∀ v' w', XOwn w' base v' (L ++ M) → Off (base ≤ ·) w w' → wpList Try.prog ops Q rest (a.put o.dst v') w') : wpList Try.prog ops Q (o :: rest) a w := by
  obtain ⟨i0, hi0, hz0, hz1, hz2⟩ := info_parts Try.info42
  refine wpList_append_src hgd s x 26 ho base 42 i0 (flV fl0) 20 160 Try.underlying26' hi0 hz0 hz1 hz2 rfl (by decide) v _ _ hs hown src _ _ hx (flats_len M) hnews flats_one (by unfold maxLen; omega) (by omega) hbase ?_
  intro v' w' hown' hg _
  refine h v' w' ?_ ⟨hg.os, hg.tape, hg.output, hg.size, fun k hk hn => hg.block k hk fun e => hn ((World.ownsRow.lt hown k e.symm).1)⟩
  unfold XOwn
  rw [List.length_append, List.flatMap_append]
  exact hown'
end
end Go.Proofs.Ytbkgjghbmafoeaa
namespace Go.Proofs.Ytbkgjghbmafoeaa
open Go.RowKit

theorem posF_cases (L : List Fl) (id : Int) : (∃ (k : Nat) (f : Fl), L[k]? = some f ∧ f.id = id ∧ posF L id = k) ∨ ((∀ f ∈ L, f.id ≠ id) ∧ posF L id = -1) := by
  unfold posF
  cases h : L.findIdx? (fun f => decide (f.id = id)) with
  | none =>
    rw [List.findIdx?_eq_none_iff] at h
    exact .inr ⟨fun f hf => by simpa using h f hf, rfl⟩
  | some k =>
    rw [List.findIdx?_eq_some_iff_getElem] at h
    obtain ⟨hk, h1, _⟩ := h
    exact .inl ⟨k, L[k], List.getElem?_eq_getElem hk, by simpa using h1, rfl⟩

theorem dropF_at {id : Int} : ∀ {L : List Fl} {k : Nat} {f : Fl}, L.Pairwise (fun a b => a.id < b.id) → L[k]? = some f → f.id = id → dropF id L = L.take k ++ L.drop (k + 1)
  | [], k, f, _, h, _ => by simp at h
  | g :: L, 0, f, hp, h, e => by
    simp only [List.getElem?_cons_zero, Option.some.injEq] at h
    subst h
    have hp := List.pairwise_cons.1 hp
    have h2 : dropF id L = L := dropF_none fun x hx => by have := hp.1 x hx; omega
    simp [dropF, e] at h2 ⊢
    exact h2
  | g :: L, k + 1, f, hp, h, e => by
    simp only [List.getElem?_cons_succ] at h
    have hp := List.pairwise_cons.1 hp
    have hne : g.id ≠ id := by have := hp.1 f (List.mem_of_getElem? h); omega
    have := dropF_at hp.2 h e
    rw [List.take_succ_cons, List.drop_succ_cons, List.cons_append, ← this]
    simp [dropF, hne]

def XDrop (rb : Nat) (L : List Fl) (g : Option Nat) (id : Int) (w : World) (e : Ending) (w' : World) : Prop :=
  ∃ v' g' b, e = .returned (.bool b) ∧ (b = true ∧ (∃ f ∈ L, f.id = id) ∨ b = false ∧ ∀ f ∈ L, f.id ≠ id) ∧ RxAt w' rb v' g' (dropF id L) ∧ Off (· = rb) w w' ∧ (g' = g ∨ ∀ i, g' = some i → w.heap.size ≤ i)

/-- Behind the store of the new row. -/
theorem RxAt.put {w w2 : World} {rb : Nat} {v0 v : Value} {L : List Fl} (hO : Off (w.heap.size ≤ ·) w w2) (hT : Blk w2 rb 28 #[v0]) (hown : XOwn w2 w.heap.size v L) (hf : L.length ≤ 48) (hrb : rb < w.heap.size) :
    RxAt (w2.setCell ⟨rb, 0, none⟩ v) rb v v.ownBlock L ∧ Off (· = rb) w (w2.setCell ⟨rb, 0, none⟩ v) ∧ ∀ i, v.ownBlock = some i → w.heap.size ≤ i := by
  have hO3 : Off (· = rb) w2 (w2.setCell ⟨rb, 0, none⟩ v) := (Off.refl _ _).setCell _ fun _ => rfl
  have hx := own_xrow hown
  refine ⟨⟨by simpa using hT.setCell 0 v, hx.off hO3 (fun b hb e => by have := (XOwn.lt hown b hb).1; omega), hf⟩, ?_, fun i hi => (XOwn.lt hown i hi).1⟩
  exact (hO.mono (S' := (· = rb)) fun i hi h => absurd hi (Nat.not_lt_of_le h)).step hO3 fun _ _ e => e

set_option maxRecDepth 100000 in
set_option maxHeartbeats 4000000 in
theorem xdrop_any {w : World} {rb : Nat} {v : Value} {g : Option Nat} {L : List Fl} (id : Int) (H : RxAt w rb v g L) (ok : FOk L) :
    Calls Try.prog 21 #[.pointer (some ⟨rb, 0, none⟩), .int .i64 id] w (XDrop rb L g id w) := by
  have hpos := xpos_any id H
  rcases posF_cases L id with ⟨k, f, hf, hid, hp⟩ | ⟨hno, hp⟩
  · have hD := dropF_at ok.ids hf hid
    have hkl : k < L.length := by
      rcases Nat.lt_or_ge k L.length with h' | h'
      · exact h'
      · rw [List.getElem?_eq_none h'] at hf; cases hf
    have HEx := Lib.hid (show ∃ f ∈ L, f.id = id from ⟨f, List.mem_of_getElem? hf, hid⟩)
    have HD := Lib.hid hD
    have hfew := H.few
    have hrb := H.top.lt
    have HH := Lib.hid H
    obtain ⟨a, cap, hv, _⟩ := H.row.form
    subst hv
    clear hD hf hid H
    go_enter Try.func21, Try.ntmps21
    go_wp2_with fail
    refine hpos.mono ?_
    rintro e w1 ⟨rfl, hw⟩
    subst hw
    rw [hp]
    have hk0 : ¬ (k : Int) < 0 := by omega
    have hO1 := (Off.refl (fun i => w.heap.size ≤ i) w).alloc (.cells #[] 42)
    have H1 := HH.out.off hO1 (fun i hi h => by have := HH.out.lt hi; omega)
    have c1 : (w.alloc (.cells #[] 42)).cell? ⟨rb, 0, none⟩ = some (.slice a L.length cap) := H1.top.cell 0
    have HH1 := Lib.hid H1
    clear hpos hp H1
    go_wp2_with (first
      | (refine wpList_slice_lo rfl (.tmp 17) (.tmp 18) rfl (.slice a L.length cap) rfl k rfl HH1.out.row (Nat.le_of_lt hkl) ?_; intro v1 hs1)
      | (at_builtin; refine wpList_appx rfl (.tmp 13) (.tmp 19) rfl w.heap.size (.slice (some ⟨w.heap.size, 0, none⟩) 0 0) [] rfl (XOwn.made w) v1 (L.take k) rfl hs1 (by simp; omega) (by simp) ?_; intro v2 w2 hown2 hO2; have hO12 := hO1.trans hO2; have HO12 := Lib.hid hO12; have HH2 := Lib.hid (HH.out.off hO12 (fun i hi h => by have := HH.out.lt hi; omega)); have c2 : w2.cell? ⟨rb, 0, none⟩ = some (.slice a L.length cap) := HH2.out.top.cell 0; have HOwn2 := Lib.hid hown2; clear hown2 hO12 hO2)
      | (refine wpList_slice_hi rfl (.tmp 26) (.tmp 28) rfl (.slice a L.length cap) rfl (k + 1) rfl HH2.out.row (by omega) ?_; intro v3 hs3)
      | (at_builtin; refine wpList_appx rfl (.tmp 22) (.tmp 29) rfl w.heap.size v2 ([] ++ L.take k) rfl HOwn2.out v3 (L.drop (k + 1)) rfl hs3 (by simp; omega) HO12.out.size ?_; intro v4 w4 hown4 hO4; have HO14 := Lib.hid (HO12.out.trans hO4); have hT4 := (HH.out.off HO14.out (fun i hi h => by have := HH.out.lt hi; omega)).top; obtain ⟨a4, cap4, hv4⟩ := hown4.shape; subst hv4; have c4 : w4.cell? ⟨rb, 0, none⟩ = some (.slice a L.length cap) := hT4.cell 0; have cf4 : w4.frozen? ⟨rb, 0, none⟩ = false := hT4.free 0; have HT4 := Lib.hid hT4; have HOwn4 := Lib.hid hown4; clear hT4 hown4 hO4))
    go_ret
    rw [show min k L.length + (L.length - (k + 1)) = (dropF id L).length by rw [HD.out]; simp]
    rw [List.nil_append, ← HD.out] at HOwn4
    have hdl : (dropF id L).length ≤ 48 := Nat.le_trans (List.length_filter_le _ _) hfew
    obtain ⟨h1, h2, h3⟩ := RxAt.put HO14.out HT4.out HOwn4.out hdl hrb
    exact ⟨_, _, true, rfl, .inl ⟨rfl, HEx.out⟩, h1, h2, .inr h3⟩
  · have HNo := Lib.hid hno
    have HH := Lib.hid H
    clear hno H
    go_enter Try.func21, Try.ntmps21
    go_wp2_with fail
    refine hpos.mono ?_
    rintro e w1 ⟨rfl, hw⟩
    subst hw
    rw [hp]
    clear hpos hp
    go_wp2_with fail
    go_ret
    exact ⟨v, g, false, rfl, .inr ⟨rfl, HNo.out⟩, by rw [dropF_none HNo.out]; exact HH.out, Off.refl _ _, .inl rfl⟩
end Go.Proofs.Ytbkgjghbmafoeaa
namespace Go.Proofs.Ytbkgjghbmafoeaa
open Go.RowKit

theorem XRow.src {w : World} {v : Value} {L : List Fl} {g : Option Nat} (H : XRow w v L g) : XSrc w v L := by
  obtain ⟨⟨a, cap, rfl, hc, hm, hcell⟩, hb, hsh⟩ := H
  rcases hsh with hsh | ⟨b, off, n', cap', hsh⟩
  · simp only [Value.slice.injEq] at hsh
    obtain ⟨rfl, h0, rfl⟩ := hsh
    obtain rfl : L = [] := List.eq_nil_of_length_eq_zero h0
    exact .inl ⟨rfl, rfl, rfl⟩
  · simp only [Value.slice.injEq] at hsh
    obtain ⟨rfl, rfl, rfl⟩ := hsh
    refine .inr ⟨⟨b, off, none⟩, cap, rfl, fun j u hu => ?_⟩
    obtain ⟨b', off', hbo, _, c⟩ := hcell j u hu
    simp only [Option.some.injEq, Addr.mk.injEq, and_true] at hbo
    obtain ⟨rfl, rfl⟩ := hbo
    rw [Go.WideShapes.add_plain]; exact c

theorem XOwn.block {w : World} {base : Nat} {v : Value} {L : List Fl} (h : XOwn w base v L) (hne : 0 < L.length) : ∃ g cap cur, v = .slice (some ⟨g, 0, none⟩) L.length cap ∧ base ≤ g ∧ Blk w g 42 cur ∧ L.length ≤ cap ∧ cap ≤ maxLen ∧ cur.size = cap * 20 ∧ cur.toList.take (L.length * 20) = L.flatMap flL := by
  obtain ⟨hl, ⟨rfl, h0⟩ | ⟨g, cap, cur, rfl, hb, hg, hc, hm, hs, ht⟩⟩ := h
  · omega
  · exact ⟨g, cap, cur, rfl, hb, hg, hc, hm, hs, ht⟩

theorem flats_set (L : List Fl) {k : Nat} {f : Fl} (hf : L[k]? = some f) (f' : Fl) (i : Nat) (u : Value) (hi : i < 20) (hf' : flL f' = (flL f).set i u) :
    (L.set k f').flatMap flL = (L.flatMap flL).set (k * 20 + i) u := by
  induction L generalizing k with
  | nil => simp at hf
  | cons x L ih =>
    cases k with
    | zero =>
      simp only [List.getElem?_cons_zero, Option.some.injEq] at hf
      subst hf
      rw [List.set_cons_zero, List.flatMap_cons, List.flatMap_cons, hf', Nat.zero_mul, Nat.zero_add, List.set_append_left _ _ (by rw [flL_len]; exact hi)]
    | succ k =>
      simp only [List.getElem?_cons_succ] at hf
      rw [List.set_cons_succ, List.flatMap_cons, List.flatMap_cons, ih hf, List.set_append_right _ _ (by rw [flL_len]; omega), flL_len, show (k + 1) * 20 + i - 20 = k * 20 + i by omega]

theorem setF_at {id st en : Int} : ∀ {L : List Fl} {k : Nat} {f : Fl}, L.Pairwise (fun a b => a.id < b.id) → L[k]? = some f → f.id = id → setF id st en L = L.set k { f with state := st, ends := en }
  | [], k, f, _, h, _ => by simp at h
  | g :: L, 0, f, hp, h, e => by
    simp only [List.getElem?_cons_zero, Option.some.injEq] at h
    subst h
    have hp := List.pairwise_cons.1 hp
    have h2 : setF id st en L = L := setF_none fun x hx => by have := hp.1 x hx; omega
    unfold setF at h2 ⊢
    rw [List.map_cons, h2, List.set_cons_zero]
    simp [turnF, e]
  | g :: L, k + 1, f, hp, h, e => by
    simp only [List.getElem?_cons_succ] at h
    have hp := List.pairwise_cons.1 hp
    have hne : g.id ≠ id := by have := hp.1 f (List.mem_of_getElem? h); omega
    have := setF_at (st := st) (en := en) hp.2 h e
    unfold setF at this ⊢
    rw [List.map_cons, this, List.set_cons_succ]
    simp [turnF, hne]

/-- One cell of the row turned. -/
theorem XOwn.turn {w : World} {base g cap : Nat} {L : List Fl} (h : XOwn w base (.slice (some ⟨g, 0, none⟩) L.length cap) L) {k : Nat} {f : Fl} (hf : L[k]? = some f) (f' : Fl) (i : Nat) (u : Value) (hi : i < 20) (hf' : flL f' = (flL f).set i u) :
    XOwn (w.setCell ⟨g, k * 20 + i, none⟩ u) base (.slice (some ⟨g, 0, none⟩) (L.set k f').length cap) (L.set k f') := by
  have hkl : k < L.length := by
    rcases Nat.lt_or_ge k L.length with h' | h'
    · exact h'
    · rw [List.getElem?_eq_none h'] at hf; cases hf
  obtain ⟨g', cap', cur, hv, hb, hB, hc, hm, hs, ht⟩ := h.block (by omega)
  simp only [Value.slice.injEq, Option.some.injEq, Addr.mk.injEq, and_true, true_and] at hv
  obtain ⟨rfl, rfl⟩ := hv
  have hl := flats_set L hf f' i u hi hf'
  refine ⟨flats_len _, .inr ⟨g, cap, cur.setIfInBounds (k * 20 + i) u, rfl, hb, hB.setCell _ _, by rw [List.length_set]; exact hc, hm, by simpa using hs, ?_⟩⟩
  rw [hl, ← ht, List.length_set, Array.toList_setIfInBounds, List.take_set]

def XSet (rb : Nat) (L : List Fl) (g : Option Nat) (id st en : Int) (w : World) (e : Ending) (w' : World) : Prop :=
  ∃ v' g' b, e = .returned (.bool b) ∧ (b = true ∧ (∃ f ∈ L, f.id = id) ∨ b = false ∧ ∀ f ∈ L, f.id ≠ id) ∧ RxAt w' rb v' g' (setF id st en L) ∧ Off (· = rb) w w' ∧ (g' = g ∨ ∀ i, g' = some i → w.heap.size ≤ i)

set_option maxRecDepth 100000 in
set_option maxHeartbeats 4000000 in
theorem xset_any {w : World} {rb : Nat} {v : Value} {g : Option Nat} {L : List Fl} (id st en : Int) (H : RxAt w rb v g L) (ok : FOk L) :
    Calls Try.prog 19 #[.pointer (some ⟨rb, 0, none⟩), .int .i64 id, .int .i64 st, .int .i64 en] w (XSet rb L g id st en w) := by
  have hpos := xpos_any id H
  rcases posF_cases L id with ⟨k, f, hf, hid, hp⟩ | ⟨hno, hp⟩
  · have HD := Lib.hid (setF_at (st := st) (en := en) ok.ids hf hid)
    have hkl : k < L.length := by
      rcases Nat.lt_or_ge k L.length with h' | h'
      · exact h'
      · rw [List.getElem?_eq_none h'] at hf; cases hf
    have HEx := Lib.hid (show ∃ f ∈ L, f.id = id from ⟨f, List.mem_of_getElem? hf, hid⟩)
    have HF := Lib.hid hf
    have hfew := H.few
    have hrb := H.top.lt
    have HH := Lib.hid H
    obtain ⟨a, cap, hv, _⟩ := H.row.form
    subst hv
    clear hf hid H
    go_enter Try.func19, Try.ntmps19
    go_wp2_with fail
    refine hpos.mono ?_
    rintro e w1 ⟨rfl, hw⟩
    subst hw
    rw [hp]
    have hk0 : ¬ (k : Int) < 0 := by omega
    have hkI0 : (0 : Int) ≤ (k : Int) := by omega
    have hkI : (k : Int) < (L.length : Int) := by omega
    have hO1 := (Off.refl (fun i => w.heap.size ≤ i) w).alloc (.cells #[] 42)
    have H1 := HH.out.off hO1 (fun i hi h => by have := HH.out.lt hi; omega)
    have c1 : (w.alloc (.cells #[] 42)).cell? ⟨rb, 0, none⟩ = some (.slice a L.length cap) := H1.top.cell 0
    have HH1 := Lib.hid H1
    clear hpos hp H1
    go_wp2_with (first
      | (at_builtin; refine wpList_appx rfl (.tmp 17) (.tmp 21) rfl w.heap.size (.slice (some ⟨w.heap.size, 0, none⟩) 0 0) [] rfl (XOwn.made w) (.slice a L.length cap) L rfl HH1.out.row.src (by simp; omega) (by simp) ?_; intro v2 w2 hown2 hO2; have HO12 := Lib.hid (hO1.trans hO2); obtain ⟨g2, cap2, cur2, hv2, hb2, hB2, hc2, hm2, hs2, ht2⟩ := hown2.block (by simp; omega); subst hv2; have hcur : k * 20 + 19 < cur2.size := (by simp at hc2; omega); obtain ⟨o18, ho18⟩ : ∃ o18, cur2[k * 20 + 18]? = some o18 := ⟨_, Array.getElem?_eq_getElem (by omega)⟩; obtain ⟨o19, ho19⟩ : ∃ o19, cur2[k * 20 + 19]? = some o19 := ⟨_, Array.getElem?_eq_getElem (by omega)⟩; have c18 : w2.cell? ⟨g2, k * 20 + 18, none⟩ = some o18 := (hB2.cell _).trans ho18; have f18 : w2.frozen? ⟨g2, k * 20 + 18, none⟩ = false := hB2.free _; have hB3 := hB2.setCell (k * 20 + 18) (.int .i64 st); have c19 : (w2.setCell ⟨g2, k * 20 + 18, none⟩ (.int .i64 st)).cell? ⟨g2, k * 20 + 19, none⟩ = some o19 := (hB3.cell _).trans (by rw [Array.getElem?_setIfInBounds_ne (by omega)]; exact ho19); have f19 : (w2.setCell ⟨g2, k * 20 + 18, none⟩ (.int .i64 st)).frozen? ⟨g2, k * 20 + 19, none⟩ = false := hB3.free _; have HT4 := Lib.hid ((HH.out.off HO12.out (fun i hi h => by have := HH.out.lt hi; omega)).top); have hT5 := (HT4.out.setOther (p := ⟨g2, k * 20 + 18, none⟩) (by show g2 ≠ rb; omega) (.int .i64 st)).setOther (p := ⟨g2, k * 20 + 19, none⟩) (by show g2 ≠ rb; omega) (.int .i64 en); have c5 := hT5.cell 0; have f5 := hT5.free 0; have HT5 := Lib.hid hT5; have HOwn2 := Lib.hid hown2; clear hT5 hB3 hB2 hown2 hO2 ho18 ho19 hs2 ht2 hm2 hc2))
    go_ret
    have h1 := XOwn.turn (show XOwn w2 w.heap.size (.slice (some ⟨g2, 0, none⟩) L.length cap2) L from HOwn2.out) HF.out { f with state := st } 18 (.int .i64 st) (by omega) rfl
    have h2 := h1.turn (k := k) (f := { f with state := st }) (List.getElem?_set_self hkl) { f with state := st, ends := en } 19 (.int .i64 en) (by omega) rfl
    rw [List.set_set, ← HD.out, show (setF id st en L).length = L.length by simp [setF]] at h2
    obtain ⟨q1, q2, q3⟩ := RxAt.put ((HO12.out.setCell _ (fun _ => hb2)).setCell _ (fun _ => hb2)) HT5.out h2 (by simp [setF]; omega) hrb
    exact ⟨_, _, true, rfl, .inl ⟨rfl, HEx.out⟩, q1, q2, .inr q3⟩
  · have HNo := Lib.hid hno
    have HH := Lib.hid H
    clear hno H
    go_enter Try.func19, Try.ntmps19
    go_wp2_with fail
    refine hpos.mono ?_
    rintro e w1 ⟨rfl, hw⟩
    subst hw
    rw [hp]
    clear hpos hp
    go_wp2_with fail
    go_ret
    exact ⟨v, g, false, rfl, .inr ⟨rfl, HNo.out⟩, by rw [setF_none HNo.out]; exact HH.out, Off.refl _ _, .inl rfl⟩
end Go.Proofs.Ytbkgjghbmafoeaa
