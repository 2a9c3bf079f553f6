/- The walk over the law's same: a table and the document's table that hold the same flows. Conditions: both lie whole in memory. -/
import Derived.Test.YtbkgjghbmafoeaaFlUse
import Derived.Test.YtbkgjghbmafoeaaRxFind
namespace Go.Proofs.Ytbkgjghbmafoeaa
open Go.RowKit

theorem exec_load_rf {a : Act} {op : Oper} {w : World} {x : Operand} {b o : Nat} {f : Fl} (ho : op.op = .load 42 x) (hx : a.eval x = .pointer (some ⟨b, o, none⟩)) (h : w.rangeAt b o (flL f)) :
    (execOp a.eval op).run Try.prog w = .ok (.value (flV f)) w := by
  unfold execOp
  simp only [ho, hx, Instr.loadAt, Instr.sureAddr, Sem.run_bind, Sem.run_pure, Result.andThen_ok, load_rfVar h]
theorem exec_fl_neq38 {a : Act} {op : Oper} {w : World} {x y : Operand} {p q : Fl} (ho : op.op = .binOp .neq 38 x y 38) (hx : a.eval x = flV p) (hy : a.eval y = flV q) (b : Bool) (hb : (!decide (p = q)) = b) :
    (execOp a.eval op).run Try.prog w = .ok (.value (.bool b)) w := by
  unfold execOp
  simp only [ho, hx, hy, Sem.run_bind, run_eqGuard_agg w .neq 38 x y _ _ guard38, Result.andThen_ok, run_fl_neq38, hb, Sem.run_pure]
theorem exec_fl_neq42 {a : Act} {op : Oper} {w : World} {x y : Operand} {p q : Fl} (ho : op.op = .binOp .neq 42 x y 42) (hx : a.eval x = flV p) (hy : a.eval y = flV q) (b : Bool) (hb : (!decide (p = q)) = b) :
    (execOp a.eval op).run Try.prog w = .ok (.value (.bool b)) w := by
  unfold execOp
  simp only [ho, hx, hy, Sem.run_bind, run_eqGuard_agg w .neq 42 x y _ _ guard42, Result.andThen_ok, run_fl_neq42, hb, Sem.run_pure]

/-- The flows of a list that lies in a row. -/
theorem rowS_at {w : World} {base T : Nat} {v : Value} {L : List Fl} (h : w.ownsRow base T 20 v L.length (L.flatMap flL)) {j : Nat} {f : Fl} (hj : L[j]? = some f) :
    ∃ g cap, v = .slice (some ⟨g, 0, none⟩) L.length cap ∧ g < w.heap.size ∧ w.rangeAt g (j * 20) (flL f) := by
  obtain ⟨hl, ⟨rfl, h0⟩ | ⟨g, cap, cur, rfl, hb, hg, hc, hm, hs, ht⟩⟩ := h
  · have : L = [] := List.eq_nil_of_length_eq_zero h0
    subst this; simp at hj
  · have hB : Blk w g T cur := hg
    refine ⟨g, cap, rfl, hB.lt, fun i v hv => ?_⟩
    have h2 := flats_at' hj i v hv
    rw [← ht, List.getElem?_take] at h2
    split at h2
    · rw [hB.cell]; simpa using h2
    · cases h2

theorem tkn_opn {L : List Fl} {f : Fl} (hf : f ∈ L) : tkn L f.opn = true := tkn_iff.2 ⟨f, hf, .inl rfl⟩
theorem tkn_bck {L : List Fl} {f : Fl} (hf : f ∈ L) : tkn L f.bck = true := tkn_iff.2 ⟨f, hf, .inr rfl⟩

/-- A range stays, whatever is laid beside it. -/
theorem range_keep {w : World} {b o : Nat} {xs : List Value} (h : w.rangeAt b o xs) (hb : b < w.heap.size) : ∀ w', Off (fun _ => False) w w' → w'.rangeAt b o xs :=
  fun _ k i v hv => (k.cell (p := ⟨b, o + i, none⟩) hb (fun k => k)).trans (h i v hv)

def SameRelF (W : World) (L : List Fl) (iv : Value) (wr : World) : Prop := ∃ j : Nat, j ≤ L.length ∧ iv = .int .i64 j ∧ Off (fun _ => False) W wr

set_option maxRecDepth 100000 in
set_option maxHeartbeats 8000000 in
theorem same_any {w : World} {tb rb : Nat} {U : Nat → Prop} {L : List Fl} {v : Value} {g : Option Nat} (HT : Tbl w tb U L) (HR : RxAt w rb v g L) :
    Calls Try.prog 22 #[.pointer (some ⟨tb, 0, none⟩), .pointer (some ⟨rb, 0, none⟩)] w fun e w' => e = .returned (.bool true) ∧ Off (fun _ => False) w w' := by
  have hok := HT.ok
  have hL48 : L.length ≤ 48 := hok.few
  obtain ⟨wb, r, S, p, kes, clock, T, TB, _, _, _, _⟩ := HT
  go_enter Try.func22, Try.ntmps22
  go_wp2_with fail
  refine (list_any TB).mono ?_
  rintro e w1 ⟨v1, rfl, hrow1, hO1⟩
  obtain ⟨a1, cap1, hv1⟩ := own_shape hrow1
  subst hv1
  have TB1 := Lib.hid (TB.off hO1 fun _ _ k => k)
  have HR1 := Lib.hid (HR.off hO1 fun _ _ k => k)
  have HO1 := Lib.hid hO1
  have HRow1 := Lib.hid hrow1
  obtain ⟨ar, capr, hvr, _⟩ := HR1.out.row.form
  subst hvr
  have c1 : w1.cell? ⟨rb, 0, none⟩ = some (.slice ar L.length capr) := HR1.out.top.cell 0
  have hne : ((L.length : Int) != (L.length : Int)) = false := by simp
  have OK := Lib.hid hok
  clear hrow1 hO1 TB HR hok
  go_wp2_with fail
  go_loopw [6] (SameRelF w1 L) (fun i _ => L.length - (intOf i).toNat)
  case atStart => exact ⟨0, Nat.zero_le _, rfl, Off.refl _ _⟩
  case round =>
    obtain ⟨j, hj, rfl, hO2⟩ := hrel
    have HO2 := Lib.hid hO2
    have q0 : (0 : Int) ≤ (j : Int) := by omega
    clear hO2 c1
    by_cases hlt : j < L.length
    · have q1 : (j : Int) < (L.length : Int) := by omega
      obtain ⟨f, hf⟩ : ∃ f, L[j]? = some f := ⟨L[j], List.getElem?_eq_getElem hlt⟩
      obtain ⟨g1, cap1', hv1', hg1l, hrg1⟩ := rowS_at HRow1.out hf
      simp only [Value.slice.injEq, true_and] at hv1'
      obtain ⟨rfl, rfl⟩ := hv1'
      have HLr := Lib.hid (range_keep hrg1 hg1l)
      obtain ⟨b, off, rfl, hgx, hrx⟩ := HR1.out.row.at hf
      have HXr := Lib.hid (range_keep hrx (HR1.out.lt (.inr hgx)))
      have hfm := List.mem_of_getElem? hf
      have HFm := Lib.hid hfm
      have i0 : wr.cell? ⟨g1, j * 20, none⟩ = some (.int .i64 f.id) := HLr.out wr HO2.out 0 _ rfl
      have hget := fget_some (TB1.out.off HO2.out fun _ _ k => k) f hfm
      clear hf hrg1 hrx hgx hfm
      go_wp2_with fail
      refine hget.mono ?_
      rintro e w3 ⟨rfl, hO3⟩
      rw [show getV (some f) = .tuple #[flV f, .bool true] from rfl]
      have HO3 := Lib.hid (HO2.out.step hO3 (fun _ _ k => k))
      have HNew3 := Lib.hid (Blk.new w3 38 (flL fl0).toArray)
      have hsz3 := HO3.out.size
      clear hget hO3 i0
      go_upto_region 8 with (first
        | (refine wpList_store_blk rfl 38 (.tmp 7) (.tmp 39) rfl w3.heap.size 38 (flL fl0).toArray (flL f).toArray HNew3.out rfl rfl (by kernel_rfl) rfl (flL_one f) ?_; intro w4 hO4 hb4))
      have HO4 := Lib.hid ((HO3.out.alloc (.cells (flL fl0).toArray 38)).step hO4 (fun i hi e => by omega))
      have HB4 := Lib.hid hb4
      have hX7 := hb4.lt
      clear hO4 hb4 HNew3
      generalize w3.heap.size = X7 at *
      clear HO3
      have hfo := find_any (TB1.out.off HO4.out fun _ _ k => k) f.opn
      rw [OK.out.fnd_opn HFm.out] at hfo
      go_wp2_with (first
        | (refine wpList_ldk (by rfl) (.tmp 46) rfl g1 (j * 20 + 1) rfl f.opn (range_opn (HLr.out _ HO4.out)) ?_))
      refine hfo.mono ?_
      rintro e w5 ⟨rfl, hO5⟩
      rw [show findV (some (f, false)) = .tuple #[flV f, .bool false, .bool true] from rfl]
      have HO5 := Lib.hid (HO4.out.step hO5 (fun _ _ k => k))
      have HB5 := Lib.hid (hO5.blk HB4.out (fun k => k))
      have HNew5 := Lib.hid (Blk.new w5 38 (flL fl0).toArray)
      have hsz5 := HO5.out.size
      have hsz45 := hO5.size
      clear hfo hO5 HB4
      go_upto_region 9 with (first
        | (refine wpList_store_blk rfl 38 (.tmp 9) (.tmp 49) rfl w5.heap.size 38 (flL fl0).toArray (flL f).toArray HNew5.out rfl rfl (by kernel_rfl) rfl (flL_one f) ?_; intro w6 hO6 hb6))
      have HO6 := Lib.hid ((HO5.out.alloc (.cells (flL fl0).toArray 38)).step hO6 (fun i hi e => by omega))
      have HB6 := Lib.hid hb6
      have HC6 := Lib.hid (hO6.blk (HB5.out.alloc (.cells (flL fl0).toArray 38)) (by omega))
      have hX9 := hb6.lt
      have hX79 : X7 < w5.heap.size := by omega
      clear hO6 hb6 HNew5 HB5
      generalize w5.heap.size = X9 at *
      clear HO5 HO4
      have hfb := find_any (TB1.out.off HO6.out fun _ _ k => k) f.bck
      rw [OK.out.fnd_bck HFm.out] at hfb
      go_wp2_with (first
        | (refine wpList_ldk (by rfl) (.tmp 57) rfl g1 (j * 20 + 8) rfl f.bck (range_bck (HLr.out _ HO6.out)) ?_))
      refine hfb.mono ?_
      rintro e w7 ⟨rfl, hO7⟩
      rw [show findV (some (f, true)) = .tuple #[flV f, .bool true, .bool true] from rfl]
      have HO7 := Lib.hid (HO6.out.step hO7 (fun _ _ k => k))
      have HB7 := Lib.hid (hO7.blk HB6.out (fun k => k))
      have HC7 := Lib.hid (hO7.blk HC6.out (fun k => k))
      have HNew7 := Lib.hid (Blk.new w7 38 (flL fl0).toArray)
      have hsz7 := HO7.out.size
      have hsz67 := hO7.size
      clear hfb hO7 HB6 HC6
      go_upto_region 10 with (first
        | (refine wpList_store_blk rfl 38 (.tmp 12) (.tmp 60) rfl w7.heap.size 38 (flL fl0).toArray (flL f).toArray HNew7.out rfl rfl (by kernel_rfl) rfl (flL_one f) ?_; intro w8 hO8 hb8))
      have HO8 := Lib.hid ((HO7.out.alloc (.cells (flL fl0).toArray 38)).step hO8 (fun i hi e => by omega))
      have HB8 := Lib.hid hb8
      have HC8 := Lib.hid (hO8.blk (HB7.out.alloc (.cells (flL fl0).toArray 38)) (by omega))
      have HD8 := Lib.hid (hO8.blk (HC7.out.alloc (.cells (flL fl0).toArray 38)) (by omega))
      clear hO8 hb8 HNew7 HB7 HC7
      generalize w7.heap.size = X12 at *
      clear HO7 HO6 hsz3 hsz45 hsz5 hsz7 hsz67 hX7 hX9
      obtain ⟨wa, hwa⟩ : ∃ wa, wa = w8 := ⟨_, rfl⟩
      subst hwa
      have HL := Lib.hid (show ∀ w', Off (fun _ => False) wa w' → w'.rangeAt g1 (j * 20) (flL f) from fun w' h => HLr.out w' (HO8.out.step h (fun _ _ k => k)))
      have HX := Lib.hid (show ∀ w', Off (fun _ => False) wa w' → w'.rangeAt b (off + j * 20) (flL f) from fun w' h => HXr.out w' (HO8.out.step h (fun _ _ k => k)))
      have HX7 := Lib.hid (show ∀ w', Off (fun _ => False) wa w' → w'.rangeAt X7 0 (flL f) from fun w' h => box_fl (h.blk HD8.out (fun k => k)))
      have HX9 := Lib.hid (show ∀ w', Off (fun _ => False) wa w' → w'.rangeAt X9 0 (flL f) from fun w' h => box_fl (h.blk HC8.out (fun k => k)))
      have HX12 := Lib.hid (show ∀ w', Off (fun _ => False) wa w' → w'.rangeAt X12 0 (flL f) from fun w' h => box_fl (h.blk HB8.out (fun k => k)))
      have HKO := Lib.hid (show ∀ w', Off (fun _ => False) wa w' → w'.rangeAt X7 1 (keyL f.opn) from fun w' h => box_opn (h.blk HD8.out (fun k => k)))
      have HKB := Lib.hid (show ∀ w', Off (fun _ => False) wa w' → w'.rangeAt X7 8 (keyL f.bck) from fun w' h => box_bck (h.blk HD8.out (fun k => k)))
      have s0 : ∀ w', Off (fun _ => False) wa w' → w'.cell? ⟨rb, 0, none⟩ = some (.slice (some ⟨b, off, none⟩) L.length capr) := fun w' h => (h.blk (HR1.out.off HO8.out fun _ _ k => k).top (fun k => k)).cell 0
      refine wp_region_held_drew (S := fun w' => Off (fun _ => False) wa w') (by kernel_rfl) ((Off.refl _ _).drew) (fun hS => ?_)
      refine wpAnyH_take (i := 0) (oi := _) (v := ?_) rfl (by kernel_rfl) (by kernel_rfl) (by kernel_rfl) (fun _ _ _ h => h) (Or.inl ⟨by rfl, fun w' hSw => ?_⟩) hS ?_
      rotate_left 1
      · go_simp
        try with_reducible rfl
      try simp only [Act.put, List.getElem_toArray, List.getElem_cons_zero, List.setIfInBounds_toArray, List.set_cons_zero, List.set_cons_succ]
      refine wpAnyH_take (i := 1) (oi := _) (v := ?_) rfl (by kernel_rfl) (by kernel_rfl) (by kernel_rfl) (fun _ _ _ h => h) (Or.inl ⟨by rfl, fun w' hSw => ?_⟩) hS ?_
      rotate_left 1
      · go_simp
        try with_reducible rfl
      try simp only [Act.put, List.getElem_toArray, List.getElem_cons_zero, List.getElem_cons_succ, List.setIfInBounds_toArray, List.set_cons_zero, List.set_cons_succ]
      refine wpAnyH_take (i := 2) (oi := _) (v := ?_) rfl (by kernel_rfl) (by kernel_rfl) (by kernel_rfl) (fun _ _ _ h => h) (Or.inl ⟨by rfl, fun w' hSw => ?_⟩) hS ?_
      rotate_left 1
      · go_simp
        try with_reducible rfl
      try simp only [Act.put, List.getElem_toArray, List.getElem_cons_zero, List.getElem_cons_succ, List.setIfInBounds_toArray, List.set_cons_zero, List.set_cons_succ]
      refine wpAnyH_take (i := 3) (oi := _) (v := ?_) rfl (by kernel_rfl) (by kernel_rfl) (by kernel_rfl) (fun _ _ _ h => h) (Or.inl ⟨by rfl, fun w' hSw => ?_⟩) hS ?_
      rotate_left 1
      · refine exec_load_fl (x := .tmp 65) ?_ ?_ (HL.out w' hSw)
        · rfl
        · rfl
      try simp only [Act.put, List.getElem_toArray, List.getElem_cons_zero, List.getElem_cons_succ, List.setIfInBounds_toArray, List.set_cons_zero, List.set_cons_succ]
      refine wpAnyH_take (i := 4) (oi := _) (v := ?_) rfl (by kernel_rfl) (by kernel_rfl) (by kernel_rfl) (fun _ _ _ h => h) (Or.inl ⟨by rfl, fun w' hSw => ?_⟩) hS ?_
      rotate_left 1
      · go_simp
        try with_reducible rfl
      try simp only [Act.put, List.getElem_toArray, List.getElem_cons_zero, List.getElem_cons_succ, List.setIfInBounds_toArray, List.set_cons_zero, List.set_cons_succ]
      refine wpAnyH_take (i := 5) (oi := _) (v := ?_) rfl (by kernel_rfl) (by kernel_rfl) (by kernel_rfl) (fun _ _ _ h => h) (Or.inl ⟨by rfl, fun w' hSw => ?_⟩) hS ?_
      rotate_left 1
      · go_simp
        try with_reducible rfl
      try simp only [Act.put, List.getElem_toArray, List.getElem_cons_zero, List.getElem_cons_succ, List.setIfInBounds_toArray, List.set_cons_zero, List.set_cons_succ]
      refine wpAnyH_take (i := 6) (oi := _) (v := ?_) rfl (by kernel_rfl) (by kernel_rfl) (by kernel_rfl) (fun _ _ _ h => h) (Or.inl ⟨by rfl, fun w' hSw => ?_⟩) hS ?_
      rotate_left 1
      · go_simp
        try with_reducible rfl
      try simp only [Act.put, List.getElem_toArray, List.getElem_cons_zero, List.getElem_cons_succ, List.setIfInBounds_toArray, List.set_cons_zero, List.set_cons_succ]
      refine wpAnyH_take (i := 7) (oi := _) (v := ?_) rfl (by kernel_rfl) (by kernel_rfl) (by kernel_rfl) (fun _ _ _ h => h) (Or.inl ⟨by rfl, fun w' hSw => ?_⟩) hS ?_
      rotate_left 1
      · go_simp
        try with_reducible rfl
      try simp only [Act.put, List.getElem_toArray, List.getElem_cons_zero, List.getElem_cons_succ, List.setIfInBounds_toArray, List.set_cons_zero, List.set_cons_succ]
      refine wpAnyH_take (i := 8) (oi := _) (v := ?_) rfl (by kernel_rfl) (by kernel_rfl) (by kernel_rfl) (fun _ _ _ h => h) (Or.inl ⟨by rfl, fun w' hSw => ?_⟩) hS ?_
      rotate_left 1
      · go_simp
        try with_reducible rfl
      try simp only [Act.put, List.getElem_toArray, List.getElem_cons_zero, List.getElem_cons_succ, List.setIfInBounds_toArray, List.set_cons_zero, List.set_cons_succ]
      refine wpAnyH_take (i := 9) (oi := _) (v := ?_) rfl (by kernel_rfl) (by kernel_rfl) (by kernel_rfl) (fun _ _ _ h => h) (Or.inl ⟨by rfl, fun w' hSw => ?_⟩) hS ?_
      rotate_left 1
      · go_simp
        try with_reducible rfl
      try simp only [Act.put, List.getElem_toArray, List.getElem_cons_zero, List.getElem_cons_succ, List.setIfInBounds_toArray, List.set_cons_zero, List.set_cons_succ]
      refine wpAnyH_take (i := 10) (oi := _) (v := ?_) rfl (by kernel_rfl) (by kernel_rfl) (by kernel_rfl) (fun _ _ _ h => h) (Or.inl ⟨by rfl, fun w' hSw => ?_⟩) hS ?_
      rotate_left 1
      · refine exec_load_rf (x := .tmp 72) ?_ ?_ (HX.out w' hSw)
        · rfl
        · rfl
      try simp only [Act.put, List.getElem_toArray, List.getElem_cons_zero, List.getElem_cons_succ, List.setIfInBounds_toArray, List.set_cons_zero, List.set_cons_succ]
      refine wpAnyH_take (i := 11) (oi := _) (v := ?_) rfl (by kernel_rfl) (by kernel_rfl) (by kernel_rfl) (fun _ _ _ h => h) (Or.inl ⟨by rfl, fun w' hSw => ?_⟩) hS ?_
      rotate_left 1
      · refine exec_fl_neq42 (x := .tmp 66) (y := .tmp 73) (p := f) (q := f) ?_ ?_ ?_ false (by simp)
        · rfl
        · rfl
        · rfl
      try simp only [Act.put, List.getElem_toArray, List.getElem_cons_zero, List.getElem_cons_succ, List.setIfInBounds_toArray, List.set_cons_zero, List.set_cons_succ]
      refine wpAnyH_take (i := 12) (oi := _) (v := ?_) rfl (by kernel_rfl) (by kernel_rfl) (by kernel_rfl) (fun _ _ _ h => h) (Or.inl ⟨by rfl, fun w' hSw => ?_⟩) hS ?_
      rotate_left 1
      · go_simp
        try with_reducible rfl
      try simp only [Act.put, List.getElem_toArray, List.getElem_cons_zero, List.getElem_cons_succ, List.setIfInBounds_toArray, List.set_cons_zero, List.set_cons_succ]
      refine wpAnyH_take (i := 13) (oi := _) (v := ?_) rfl (by kernel_rfl) (by kernel_rfl) (by kernel_rfl) (fun _ _ _ h => h) (Or.inl ⟨by rfl, fun w' hSw => ?_⟩) hS ?_
      rotate_left 1
      · go_simp
        try with_reducible rfl
      try simp only [Act.put, List.getElem_toArray, List.getElem_cons_zero, List.getElem_cons_succ, List.setIfInBounds_toArray, List.set_cons_zero, List.set_cons_succ]
      refine wpAnyH_take (i := 14) (oi := _) (v := ?_) rfl (by kernel_rfl) (by kernel_rfl) (by kernel_rfl) (fun _ _ _ h => h) (Or.inl ⟨by rfl, fun w' hSw => ?_⟩) hS ?_
      rotate_left 1
      · go_simp
        try with_reducible rfl
      try simp only [Act.put, List.getElem_toArray, List.getElem_cons_zero, List.getElem_cons_succ, List.setIfInBounds_toArray, List.set_cons_zero, List.set_cons_succ]
      refine wpAnyH_take (i := 15) (oi := _) (v := ?_) rfl (by kernel_rfl) (by kernel_rfl) (by kernel_rfl) (fun _ _ _ h => h) (Or.inl ⟨by rfl, fun w' hSw => ?_⟩) hS ?_
      rotate_left 1
      · go_simp
        try with_reducible rfl
      try simp only [Act.put, List.getElem_toArray, List.getElem_cons_zero, List.getElem_cons_succ, List.setIfInBounds_toArray, List.set_cons_zero, List.set_cons_succ]
      refine wpAnyH_take (i := 16) (oi := _) (v := ?_) rfl (by kernel_rfl) (by kernel_rfl) (by kernel_rfl) (fun _ _ _ h => h) (Or.inl ⟨by rfl, fun w' hSw => ?_⟩) hS ?_
      rotate_left 1
      · go_simp
        try with_reducible rfl
      try simp only [Act.put, List.getElem_toArray, List.getElem_cons_zero, List.getElem_cons_succ, List.setIfInBounds_toArray, List.set_cons_zero, List.set_cons_succ]
      refine wpAnyH_take (i := 17) (oi := _) (v := ?_) rfl (by kernel_rfl) (by kernel_rfl) (by kernel_rfl) (fun _ _ _ h => h) (Or.inl ⟨by rfl, fun w' hSw => ?_⟩) hS ?_
      rotate_left 1
      · refine exec_load_fl (x := .tmp 7) ?_ ?_ (HX7.out w' hSw)
        · rfl
        · rfl
      try simp only [Act.put, List.getElem_toArray, List.getElem_cons_zero, List.getElem_cons_succ, List.setIfInBounds_toArray, List.set_cons_zero, List.set_cons_succ]
      refine wpAnyH_take (i := 18) (oi := _) (v := ?_) rfl (by kernel_rfl) (by kernel_rfl) (by kernel_rfl) (fun _ _ _ h => h) (Or.inl ⟨by rfl, fun w' hSw => ?_⟩) hS ?_
      rotate_left 1
      · go_simp
        try with_reducible rfl
      try simp only [Act.put, List.getElem_toArray, List.getElem_cons_zero, List.getElem_cons_succ, List.setIfInBounds_toArray, List.set_cons_zero, List.set_cons_succ]
      refine wpAnyH_take (i := 19) (oi := _) (v := ?_) rfl (by kernel_rfl) (by kernel_rfl) (by kernel_rfl) (fun _ _ _ h => h) (Or.inl ⟨by rfl, fun w' hSw => ?_⟩) hS ?_
      rotate_left 1
      · go_simp
        try with_reducible rfl
      try simp only [Act.put, List.getElem_toArray, List.getElem_cons_zero, List.getElem_cons_succ, List.setIfInBounds_toArray, List.set_cons_zero, List.set_cons_succ]
      refine wpAnyH_take (i := 20) (oi := _) (v := ?_) rfl (by kernel_rfl) (by kernel_rfl) (by kernel_rfl) (fun _ _ _ h => h) (Or.inl ⟨by rfl, fun w' hSw => ?_⟩) hS ?_
      rotate_left 1
      · go_simp
        try with_reducible rfl
      try simp only [Act.put, List.getElem_toArray, List.getElem_cons_zero, List.getElem_cons_succ, List.setIfInBounds_toArray, List.set_cons_zero, List.set_cons_succ]
      refine wpAnyH_take (i := 21) (oi := _) (v := ?_) rfl (by kernel_rfl) (by kernel_rfl) (by kernel_rfl) (fun _ _ _ h => h) (Or.inl ⟨by rfl, fun w' hSw => ?_⟩) hS ?_
      rotate_left 1
      · refine exec_load_fl (x := .tmp 83) ?_ ?_ (HL.out w' hSw)
        · rfl
        · rfl
      try simp only [Act.put, List.getElem_toArray, List.getElem_cons_zero, List.getElem_cons_succ, List.setIfInBounds_toArray, List.set_cons_zero, List.set_cons_succ]
      refine wpAnyH_take (i := 22) (oi := _) (v := ?_) rfl (by kernel_rfl) (by kernel_rfl) (by kernel_rfl) (fun _ _ _ h => h) (Or.inl ⟨by rfl, fun w' hSw => ?_⟩) hS ?_
      rotate_left 1
      · refine exec_fl_neq38 (x := .tmp 80) (y := .tmp 84) (p := f) (q := f) ?_ ?_ ?_ false (by simp)
        · rfl
        · rfl
        · rfl
      try simp only [Act.put, List.getElem_toArray, List.getElem_cons_zero, List.getElem_cons_succ, List.setIfInBounds_toArray, List.set_cons_zero, List.set_cons_succ]
      refine wpAnyH_take (i := 23) (oi := _) (v := ?_) rfl (by kernel_rfl) (by kernel_rfl) (by kernel_rfl) (fun _ _ _ h => h) (Or.inl ⟨by rfl, fun w' hSw => ?_⟩) hS ?_
      rotate_left 1
      · go_simp
        try with_reducible rfl
      try simp only [Act.put, List.getElem_toArray, List.getElem_cons_zero, List.getElem_cons_succ, List.setIfInBounds_toArray, List.set_cons_zero, List.set_cons_succ]
      refine wpAnyH_take (i := 24) (oi := _) (v := ?_) rfl (by kernel_rfl) (by kernel_rfl) (by kernel_rfl) (fun _ _ _ h => h) (Or.inl ⟨by rfl, fun w' hSw => ?_⟩) hS ?_
      rotate_left 1
      · go_simp
        try with_reducible rfl
      try simp only [Act.put, List.getElem_toArray, List.getElem_cons_zero, List.getElem_cons_succ, List.setIfInBounds_toArray, List.set_cons_zero, List.set_cons_succ]
      refine wpAnyH_take (i := 25) (oi := _) (v := ?_) rfl (by kernel_rfl) (by kernel_rfl) (by kernel_rfl) (fun _ _ _ h => h) (Or.inl ⟨by rfl, fun w' hSw => ?_⟩) hS ?_
      rotate_left 1
      · refine exec_load_fl (x := .tmp 9) ?_ ?_ (HX9.out w' hSw)
        · rfl
        · rfl
      try simp only [Act.put, List.getElem_toArray, List.getElem_cons_zero, List.getElem_cons_succ, List.setIfInBounds_toArray, List.set_cons_zero, List.set_cons_succ]
      refine wpAnyH_take (i := 26) (oi := _) (v := ?_) rfl (by kernel_rfl) (by kernel_rfl) (by kernel_rfl) (fun _ _ _ h => h) (Or.inl ⟨by rfl, fun w' hSw => ?_⟩) hS ?_
      rotate_left 1
      · refine exec_load_fl (x := .tmp 7) ?_ ?_ (HX7.out w' hSw)
        · rfl
        · rfl
      try simp only [Act.put, List.getElem_toArray, List.getElem_cons_zero, List.getElem_cons_succ, List.setIfInBounds_toArray, List.set_cons_zero, List.set_cons_succ]
      refine wpAnyH_take (i := 27) (oi := _) (v := ?_) rfl (by kernel_rfl) (by kernel_rfl) (by kernel_rfl) (fun _ _ _ h => h) (Or.inl ⟨by rfl, fun w' hSw => ?_⟩) hS ?_
      rotate_left 1
      · refine exec_fl_neq38 (x := .tmp 88) (y := .tmp 89) (p := f) (q := f) ?_ ?_ ?_ false (by simp)
        · rfl
        · rfl
        · rfl
      try simp only [Act.put, List.getElem_toArray, List.getElem_cons_zero, List.getElem_cons_succ, List.setIfInBounds_toArray, List.set_cons_zero, List.set_cons_succ]
      refine wpAnyH_take (i := 28) (oi := _) (v := ?_) rfl (by kernel_rfl) (by kernel_rfl) (by kernel_rfl) (fun _ _ _ h => h) (Or.inl ⟨by rfl, fun w' hSw => ?_⟩) hS ?_
      rotate_left 1
      · go_simp
        try with_reducible rfl
      try simp only [Act.put, List.getElem_toArray, List.getElem_cons_zero, List.getElem_cons_succ, List.setIfInBounds_toArray, List.set_cons_zero, List.set_cons_succ]
      refine wpAnyH_take (i := 29) (oi := _) (v := ?_) rfl (by kernel_rfl) (by kernel_rfl) (by kernel_rfl) (fun _ _ _ h => h) (Or.inl ⟨by rfl, fun w' hSw => ?_⟩) hS ?_
      rotate_left 1
      · go_simp
        try with_reducible rfl
      try simp only [Act.put, List.getElem_toArray, List.getElem_cons_zero, List.getElem_cons_succ, List.setIfInBounds_toArray, List.set_cons_zero, List.set_cons_succ]
      refine wpAnyH_take (i := 30) (oi := _) (v := ?_) rfl (by kernel_rfl) (by kernel_rfl) (by kernel_rfl) (fun _ _ _ h => h) (Or.inl ⟨by rfl, fun w' hSw => ?_⟩) hS ?_
      rotate_left 1
      · go_simp
        try with_reducible rfl
      try simp only [Act.put, List.getElem_toArray, List.getElem_cons_zero, List.getElem_cons_succ, List.setIfInBounds_toArray, List.set_cons_zero, List.set_cons_succ]
      refine wpAnyH_take (i := 31) (oi := _) (v := ?_) rfl (by kernel_rfl) (by kernel_rfl) (by kernel_rfl) (fun _ _ _ h => h) (Or.inl ⟨by rfl, fun w' hSw => ?_⟩) hS ?_
      rotate_left 1
      · go_simp
        try with_reducible rfl
      try simp only [Act.put, List.getElem_toArray, List.getElem_cons_zero, List.getElem_cons_succ, List.setIfInBounds_toArray, List.set_cons_zero, List.set_cons_succ]
      refine wpAnyH_take (i := 32) (oi := _) (v := ?_) rfl (by kernel_rfl) (by kernel_rfl) (by kernel_rfl) (fun _ _ _ h => h) (Or.inl ⟨by rfl, fun w' hSw => ?_⟩) hS ?_
      rotate_left 1
      · go_simp
        try with_reducible rfl
      try simp only [Act.put, List.getElem_toArray, List.getElem_cons_zero, List.getElem_cons_succ, List.setIfInBounds_toArray, List.set_cons_zero, List.set_cons_succ]
      refine wpAnyH_take (i := 33) (oi := _) (v := ?_) rfl (by kernel_rfl) (by kernel_rfl) (by kernel_rfl) (fun _ _ _ h => h) (Or.inl ⟨by rfl, fun w' hSw => ?_⟩) hS ?_
      rotate_left 1
      · go_simp
        try with_reducible rfl
      try simp only [Act.put, List.getElem_toArray, List.getElem_cons_zero, List.getElem_cons_succ, List.setIfInBounds_toArray, List.set_cons_zero, List.set_cons_succ]
      refine wpAnyH_take (i := 34) (oi := _) (v := ?_) rfl (by kernel_rfl) (by kernel_rfl) (by kernel_rfl) (fun _ _ _ h => h) (Or.inl ⟨by rfl, fun w' hSw => ?_⟩) hS ?_
      rotate_left 1
      · go_simp
        try with_reducible rfl
      try simp only [Act.put, List.getElem_toArray, List.getElem_cons_zero, List.getElem_cons_succ, List.setIfInBounds_toArray, List.set_cons_zero, List.set_cons_succ]
      refine wpAnyH_take (i := 35) (oi := _) (v := ?_) rfl (by kernel_rfl) (by kernel_rfl) (by kernel_rfl) (fun _ _ _ h => h) (Or.inl ⟨by rfl, fun w' hSw => ?_⟩) hS ?_
      rotate_left 1
      · go_simp
        try with_reducible rfl
      try simp only [Act.put, List.getElem_toArray, List.getElem_cons_zero, List.getElem_cons_succ, List.setIfInBounds_toArray, List.set_cons_zero, List.set_cons_succ]
      refine wpAnyH_take (i := 36) (oi := _) (v := ?_) rfl (by kernel_rfl) (by kernel_rfl) (by kernel_rfl) (fun _ _ _ h => h) (Or.inl ⟨by rfl, fun w' hSw => ?_⟩) hS ?_
      rotate_left 1
      · go_simp
        try with_reducible rfl
      try simp only [Act.put, List.getElem_toArray, List.getElem_cons_zero, List.getElem_cons_succ, List.setIfInBounds_toArray, List.set_cons_zero, List.set_cons_succ]
      refine wpAnyH_take (i := 37) (oi := _) (v := ?_) rfl (by kernel_rfl) (by kernel_rfl) (by kernel_rfl) (fun _ _ _ h => h) (Or.inl ⟨by rfl, fun w' hSw => ?_⟩) hS ?_
      rotate_left 1
      · refine exec_load_fl (x := .tmp 12) ?_ ?_ (HX12.out w' hSw)
        · rfl
        · rfl
      try simp only [Act.put, List.getElem_toArray, List.getElem_cons_zero, List.getElem_cons_succ, List.setIfInBounds_toArray, List.set_cons_zero, List.set_cons_succ]
      refine wpAnyH_take (i := 38) (oi := _) (v := ?_) rfl (by kernel_rfl) (by kernel_rfl) (by kernel_rfl) (fun _ _ _ h => h) (Or.inl ⟨by rfl, fun w' hSw => ?_⟩) hS ?_
      rotate_left 1
      · refine exec_load_fl (x := .tmp 7) ?_ ?_ (HX7.out w' hSw)
        · rfl
        · rfl
      try simp only [Act.put, List.getElem_toArray, List.getElem_cons_zero, List.getElem_cons_succ, List.setIfInBounds_toArray, List.set_cons_zero, List.set_cons_succ]
      refine wpAnyH_take (i := 39) (oi := _) (v := ?_) rfl (by kernel_rfl) (by kernel_rfl) (by kernel_rfl) (fun _ _ _ h => h) (Or.inl ⟨by rfl, fun w' hSw => ?_⟩) hS ?_
      rotate_left 1
      · refine exec_fl_neq38 (x := .tmp 100) (y := .tmp 101) (p := f) (q := f) ?_ ?_ ?_ false (by simp)
        · rfl
        · rfl
        · rfl
      try simp only [Act.put, List.getElem_toArray, List.getElem_cons_zero, List.getElem_cons_succ, List.setIfInBounds_toArray, List.set_cons_zero, List.set_cons_succ]
      refine wpAnyH_take (i := 40) (oi := _) (v := ?_) rfl (by kernel_rfl) (by kernel_rfl) (by kernel_rfl) (fun _ _ _ h => h) (Or.inl ⟨by rfl, fun w' hSw => ?_⟩) hS ?_
      rotate_left 1
      · go_simp
        try with_reducible rfl
      try simp only [Act.put, List.getElem_toArray, List.getElem_cons_zero, List.getElem_cons_succ, List.setIfInBounds_toArray, List.set_cons_zero, List.set_cons_succ]
      refine wpAnyH_take (i := 41) (oi := _) (v := ?_) rfl (by kernel_rfl) (by kernel_rfl) (by kernel_rfl) (fun _ _ _ h => h) (Or.inl ⟨by rfl, fun w' hSw => ?_⟩) hS ?_
      rotate_left 1
      · go_simp
        try with_reducible rfl
      try simp only [Act.put, List.getElem_toArray, List.getElem_cons_zero, List.getElem_cons_succ, List.setIfInBounds_toArray, List.set_cons_zero, List.set_cons_succ]
      refine wpAnyH_take (i := 42) (oi := _) (v := ?_) rfl (by kernel_rfl) (by kernel_rfl) (by kernel_rfl) (fun _ _ _ h => h) (Or.inl ⟨by rfl, fun w' hSw => ?_⟩) hS ?_
      rotate_left 1
      · go_simp
        try with_reducible rfl
      try simp only [Act.put, List.getElem_toArray, List.getElem_cons_zero, List.getElem_cons_succ, List.setIfInBounds_toArray, List.set_cons_zero, List.set_cons_succ]
      refine wpAnyH_take (i := 43) (oi := _) (v := ?_) rfl (by kernel_rfl) (by kernel_rfl) (by kernel_rfl) (fun _ _ _ h => h) (Or.inl ⟨by rfl, fun w' hSw => ?_⟩) hS ?_
      rotate_left 1
      · go_simp
        try with_reducible rfl
      try simp only [Act.put, List.getElem_toArray, List.getElem_cons_zero, List.getElem_cons_succ, List.setIfInBounds_toArray, List.set_cons_zero, List.set_cons_succ]
      refine wpAnyH_take (i := 44) (oi := _) (v := ?_) rfl (by kernel_rfl) (by kernel_rfl) (by kernel_rfl) (fun _ _ _ h => h) (Or.inl ⟨by rfl, fun w' hSw => ?_⟩) hS ?_
      rotate_left 1
      · go_simp
        try with_reducible rfl
      try simp only [Act.put, List.getElem_toArray, List.getElem_cons_zero, List.getElem_cons_succ, List.setIfInBounds_toArray, List.set_cons_zero, List.set_cons_succ]
      refine wpAnyH_take (i := 45) (oi := _) (v := ?_) rfl (by kernel_rfl) (by kernel_rfl) (by kernel_rfl) (fun _ _ _ h => h) (Or.inl ⟨by rfl, fun w' hSw => ?_⟩) hS ?_
      rotate_left 1
      · go_simp
        try with_reducible rfl
      try simp only [Act.put, List.getElem_toArray, List.getElem_cons_zero, List.getElem_cons_succ, List.setIfInBounds_toArray, List.set_cons_zero, List.set_cons_succ]
      refine wpAnyH_take (i := 46) (oi := _) (v := ?_) rfl (by kernel_rfl) (by kernel_rfl) (by kernel_rfl) (fun _ _ _ h => h) (Or.inl ⟨by rfl, fun w' hSw => ?_⟩) hS ?_
      rotate_left 1
      · go_simp
        try with_reducible rfl
      try simp only [Act.put, List.getElem_toArray, List.getElem_cons_zero, List.getElem_cons_succ, List.setIfInBounds_toArray, List.set_cons_zero, List.set_cons_succ]
      refine wpAnyH_take (i := 47) (oi := _) (v := ?_) rfl (by kernel_rfl) (by kernel_rfl) (by kernel_rfl) (fun _ _ _ h => h) (Or.inl ⟨by rfl, fun w' hSw => ?_⟩) hS ?_
      rotate_left 1
      · go_simp
        try with_reducible rfl
      try simp only [Act.put, List.getElem_toArray, List.getElem_cons_zero, List.getElem_cons_succ, List.setIfInBounds_toArray, List.set_cons_zero, List.set_cons_succ]
      refine wpAnyH_take (i := 48) (oi := _) (v := ?_) rfl (by kernel_rfl) (by kernel_rfl) (by kernel_rfl) (fun _ _ _ h => h) (Or.inl ⟨by rfl, fun w' hSw => ?_⟩) hS ?_
      rotate_left 1
      · go_simp
        try with_reducible rfl
      try simp only [Act.put, List.getElem_toArray, List.getElem_cons_zero, List.getElem_cons_succ, List.setIfInBounds_toArray, List.set_cons_zero, List.set_cons_succ]
      refine wpAnyH_take (i := 49) (oi := _) (v := ?_) rfl (by kernel_rfl) (by kernel_rfl) (by kernel_rfl) (fun _ _ _ h => h) (Or.inl ⟨by rfl, fun w' hSw => ?_⟩) hS ?_
      rotate_left 1
      · go_simp
        try with_reducible rfl
      try simp only [Act.put, List.getElem_toArray, List.getElem_cons_zero, List.getElem_cons_succ, List.setIfInBounds_toArray, List.set_cons_zero, List.set_cons_succ]
      refine wpAnyH_take (i := 50) (oi := _) (v := ?_) rfl (by kernel_rfl) (by kernel_rfl) (by kernel_rfl) (fun _ _ _ h => h) (Or.inl ⟨by rfl, fun w' hSw => ?_⟩) hS ?_
      rotate_left 1
      · go_simp
        try with_reducible rfl
      try simp only [Act.put, List.getElem_toArray, List.getElem_cons_zero, List.getElem_cons_succ, List.setIfInBounds_toArray, List.set_cons_zero, List.set_cons_succ]
      refine wpAnyH_take (i := 51) (oi := _) (v := ?_) rfl (by kernel_rfl) (by kernel_rfl) (by kernel_rfl) (fun _ _ _ h => h) (Or.inl ⟨by rfl, fun w' hSw => ?_⟩) hS ?_
      rotate_left 1
      · go_simp
        try with_reducible rfl
      try simp only [Act.put, List.getElem_toArray, List.getElem_cons_zero, List.getElem_cons_succ, List.setIfInBounds_toArray, List.set_cons_zero, List.set_cons_succ]
      refine wpAnyH_take (i := 52) (oi := _) (v := ?_) rfl (by kernel_rfl) (by kernel_rfl) (by kernel_rfl) (fun _ _ _ h => h) (Or.inl ⟨by rfl, fun w' hSw => ?_⟩) hS ?_
      rotate_left 1
      · refine exec_load_key (x := .tmp 114) ?_ ?_ (HKO.out w' hSw)
        · rfl
        · rfl
      try simp only [Act.put, List.getElem_toArray, List.getElem_cons_zero, List.getElem_cons_succ, List.setIfInBounds_toArray, List.set_cons_zero, List.set_cons_succ]
      refine wpAnyH_ready (rs := [53]) (by kernel_rfl) (by simp) (AllReadyH.cons rfl (fun K hK => ?_) AllReadyH.nil)
      go_simp
      refine (taken_any (TB1.out.off (HO8.out.step hS (fun _ _ k => k)) fun _ _ k => k) f.opn).mono ?_
      rintro e wb ⟨rfl, hO9⟩
      rw [tkn_opn HFm.out]
      go_wp2_with fail
      refine hK.out _ _ (hS.step hO9 (fun _ _ k => k)) (fun hS2 => ?_)
      clear hK K hO9 hS
      try simp only [Act.put, List.getElem_toArray, List.getElem_cons_zero, List.getElem_cons_succ, List.setIfInBounds_toArray, List.set_cons_zero, List.set_cons_succ]
      refine wpAnyH_take (i := 54) (oi := _) (v := ?_) rfl (by kernel_rfl) (by kernel_rfl) (by kernel_rfl) (fun _ _ _ h => h) (Or.inl ⟨by rfl, fun w' hSw => ?_⟩) hS2 ?_
      rotate_left 1
      · go_simp
        try with_reducible rfl
      try simp only [Act.put, List.getElem_toArray, List.getElem_cons_zero, List.getElem_cons_succ, List.setIfInBounds_toArray, List.set_cons_zero, List.set_cons_succ]
      refine wpAnyH_take (i := 55) (oi := _) (v := ?_) rfl (by kernel_rfl) (by kernel_rfl) (by kernel_rfl) (fun _ _ _ h => h) (Or.inl ⟨by rfl, fun w' hSw => ?_⟩) hS2 ?_
      rotate_left 1
      · go_simp
        try with_reducible rfl
      try simp only [Act.put, List.getElem_toArray, List.getElem_cons_zero, List.getElem_cons_succ, List.setIfInBounds_toArray, List.set_cons_zero, List.set_cons_succ]
      refine wpAnyH_take (i := 56) (oi := _) (v := ?_) rfl (by kernel_rfl) (by kernel_rfl) (by kernel_rfl) (fun _ _ _ h => h) (Or.inl ⟨by rfl, fun w' hSw => ?_⟩) hS2 ?_
      rotate_left 1
      · go_simp
        try with_reducible rfl
      try simp only [Act.put, List.getElem_toArray, List.getElem_cons_zero, List.getElem_cons_succ, List.setIfInBounds_toArray, List.set_cons_zero, List.set_cons_succ]
      refine wpAnyH_take (i := 57) (oi := _) (v := ?_) rfl (by kernel_rfl) (by kernel_rfl) (by kernel_rfl) (fun _ _ _ h => h) (Or.inl ⟨by rfl, fun w' hSw => ?_⟩) hS2 ?_
      rotate_left 1
      · go_simp
        try with_reducible rfl
      try simp only [Act.put, List.getElem_toArray, List.getElem_cons_zero, List.getElem_cons_succ, List.setIfInBounds_toArray, List.set_cons_zero, List.set_cons_succ]
      refine wpAnyH_take (i := 58) (oi := _) (v := ?_) rfl (by kernel_rfl) (by kernel_rfl) (by kernel_rfl) (fun _ _ _ h => h) (Or.inl ⟨by rfl, fun w' hSw => ?_⟩) hS2 ?_
      rotate_left 1
      · go_simp
        try with_reducible rfl
      try simp only [Act.put, List.getElem_toArray, List.getElem_cons_zero, List.getElem_cons_succ, List.setIfInBounds_toArray, List.set_cons_zero, List.set_cons_succ]
      refine wpAnyH_take (i := 59) (oi := _) (v := ?_) rfl (by kernel_rfl) (by kernel_rfl) (by kernel_rfl) (fun _ _ _ h => h) (Or.inl ⟨by rfl, fun w' hSw => ?_⟩) hS2 ?_
      rotate_left 1
      · refine exec_load_key (x := .tmp 121) ?_ ?_ (HKB.out w' hSw)
        · rfl
        · rfl
      try simp only [Act.put, List.getElem_toArray, List.getElem_cons_zero, List.getElem_cons_succ, List.setIfInBounds_toArray, List.set_cons_zero, List.set_cons_succ]
      refine wpAnyH_ready (rs := [60]) (by kernel_rfl) (by simp) (AllReadyH.cons rfl (fun K hK => ?_) AllReadyH.nil)
      go_simp
      refine (taken_any (TB1.out.off (HO8.out.step hS2 (fun _ _ k => k)) fun _ _ k => k) f.bck).mono ?_
      rintro e wd ⟨rfl, hO9⟩
      rw [tkn_bck HFm.out]
      go_wp2_with fail
      refine hK.out _ _ (hS2.step hO9 (fun _ _ k => k)) (fun hS3 => ?_)
      clear hK K hO9 hS2
      try simp only [Act.put, List.getElem_toArray, List.getElem_cons_zero, List.getElem_cons_succ, List.setIfInBounds_toArray, List.set_cons_zero, List.set_cons_succ]
      refine wpAnyH_take (i := 61) (oi := _) (v := ?_) rfl (by kernel_rfl) (by kernel_rfl) (by kernel_rfl) (fun _ _ _ h => h) (Or.inl ⟨by rfl, fun w' hSw => ?_⟩) hS3 ?_
      rotate_left 1
      · go_simp
        try with_reducible rfl
      try simp only [Act.put, List.getElem_toArray, List.getElem_cons_zero, List.getElem_cons_succ, List.setIfInBounds_toArray, List.set_cons_zero, List.set_cons_succ]
      refine wpAnyH_take (i := 62) (oi := _) (v := ?_) rfl (by kernel_rfl) (by kernel_rfl) (by kernel_rfl) (fun _ _ _ h => h) (Or.inl ⟨by rfl, fun w' hSw => ?_⟩) hS3 ?_
      rotate_left 1
      · go_simp
        try with_reducible rfl
      try simp only [Act.put, List.getElem_toArray, List.getElem_cons_zero, List.getElem_cons_succ, List.setIfInBounds_toArray, List.set_cons_zero, List.set_cons_succ]
      refine wpAnyH_done (by kernel_rfl) ?_ _
      have HS3 := Lib.hid hS3
      clear hS3
      go_wp2_with fail
      exact ⟨⟨j + 1, hlt, by go_num, HO8.out.step HS3.out (fun _ _ k => k)⟩, by simp [intOf]; omega⟩
    · have q1 : ¬ (j : Int) < (L.length : Int) := by omega
      go_wp2_with fail
      go_ret
      exact ⟨rfl, HO1.out.step HO2.out (fun _ _ k => k)⟩
end Go.Proofs.Ytbkgjghbmafoeaa
