/- The walk over FlowSides: it returns true and writes nothing that was there. No conditions. -/
import Derived.Test.YtbkgjghbmafoeaaFlAddB
namespace Go.Proofs.Ytbkgjghbmafoeaa
open Go.RowKit

theorem blk_keep {w w' : World} {b T base : Nat} {cs : Array Value} {U : Nat → Prop} (h : Blk w b T cs) (k : Off U w w') (hU : ∀ i, U i → base ≤ i) (hb : b < base) : Blk w' b T cs :=
  k.blk h fun e => by have := hU b e; omega

theorem addF_nil (f : Fl) (h : f.opn ≠ f.bck) : addF [] f = (1, 0, 0, [{ f with id := 1 }]) := by
  simp [addF, tkn, fnd, h, free, insF]
theorem addF_nil' (f : Fl) (h : f.opn = f.bck) : addF [] f = (0, 0, 63, []) := by
  simp [addF, tkn, fnd, h]

theorem box_fl {w : World} {N : Nat} {f : Fl} (h : Blk w N 38 (flL f).toArray) : w.rangeAt N 0 (flL f) := range_blk h 0 (flL f) (fun j v hj => by simpa using hj)
theorem box_key {w : World} {N : Nat} {k : FKey} (h : Blk w N 36 (keyL k).toArray) : w.rangeAt N 0 (keyL k) := range_blk h 0 (keyL k) (fun j v hj => by simpa using hj)

set_option maxRecDepth 100000 in
set_option maxHeartbeats 4000000 in
theorem sides_eq (f : Fl) (other : FKey) (w : World) (hne : f.opn = f.bck) :
    Calls Try.prog 8 #[flV f, keyV other] w fun e w' => e = .returned (.bool true) ∧ Below w.heap.size w w' := by
  have HNE := Lib.hid hne
  clear hne
  have hO1 : Off (fun _ => False) w ((w.alloc (.cells (flL f).toArray 38)).alloc (.cells (keyL other).toArray 36)) := ((Off.refl _ _).alloc _).alloc _
  have hB0 := (Blk.new w 38 (flL f).toArray).alloc (.cells (keyL other).toArray 36)
  go_enter Try.func8, Try.ntmps8
  go_wp2_with fail
  refine (fnew_any _).mono ?_
  rintro e w2 ⟨tb, U, rfl, HT, hU, hO2⟩
  have hbel2 := (hO1.step hO2 fun _ _ k => k).below (Nat.le_refl _) (fun _ _ h => h)
  have hB2 := Lib.hid (hO2.blk hB0 fun k => k)
  have hUw : ∀ i, U i → w.heap.size + 1 ≤ i := fun i hi => by have := hU i hi; simp at this; omega
  have HUw := Lib.hid hUw
  clear hU hUw hB0
  go_wp2_with (first | (refine wpList_ldf (by rfl) (.tmp 2) rfl w.heap.size 0 rfl f (box_fl hB2.out) ?_))
  refine (fadd_any f HT).mono ?_
  rintro e w3 ⟨U3, rfl, HT3, hO3, hU3⟩
  rw [addF_nil' f HNE.out] at HT3
  rw [addF_nil' f HNE.out, show addV ((0 : Int), (0 : Int), (63 : Int), ([] : List Fl)) = .tuple #[.int .i64 0, .int .i64 0, .int .i64 63] from rfl]
  have hB3 := Lib.hid (blk_keep hB2.out hO3 HUw.out (Nat.lt_succ_self _))
  have hbel3 := below_off hbel2 hO3 (Nat.le_refl _) (fun i hi k => by have := HUw.out i k; omega)
  go_wp2_with (first
    | (refine wpList_ldk (by rfl) (.tmp 26) rfl w.heap.size 1 rfl f.opn (box_opn hB3.out) ?_)
    | (refine wpList_ldk (by rfl) (.tmp 28) rfl w.heap.size 8 rfl f.bck (box_bck hB3.out) ?_)
    | (refine wpList_key_eql (by rfl) (.tmp 27) (.tmp 29) f.opn f.bck rfl rfl rfl true (decide_eq_true HNE.out) ?_))
  go_ret
  exact ⟨rfl, hbel3⟩
/-- The flow as it came in. -/
abbrev fl1 (f : Fl) : Fl := { f with id := 1 }

theorem fnd1 (f : Fl) (k : FKey) : fnd [fl1 f] k = if f.opn = k then some (fl1 f, false) else if f.bck = k then some (fl1 f, true) else none := by simp [fnd]
theorem tkn1 (f : Fl) (k : FKey) : tkn [] k = false := rfl

theorem own_shape {w : World} {base T sz n : Nat} {v : Value} {xs : List Value} (h : w.ownsRow base T sz v n xs) : ∃ a cap, v = .slice a n cap := by
  obtain ⟨hl, ⟨rfl, rfl⟩ | ⟨g, cap, cur, rfl, _⟩⟩ := h
  · exact ⟨none, 0, rfl⟩
  · exact ⟨_, _, rfl⟩

/-- What Find answered, kept: the flow in its block. -/
theorem findV_some (g : Fl) (b : Bool) : findV (some (g, b)) = .tuple #[flV g, .bool b, .bool true] := rfl
theorem findV_none : findV none = .tuple #[flV fl0, .bool false, .bool false] := rfl

set_option maxRecDepth 100000 in
set_option maxHeartbeats 4000000 in
theorem sides_ne (f : Fl) (other : FKey) (w : World) (hne : f.opn ≠ f.bck) (g : Fl) (bb nb : Bool) (hfo : findV (fnd [fl1 f] other) = .tuple #[flV g, .bool bb, .bool nb]) (o1 o2 : Bool) (ho1 : decide (other = f.opn) = o1) (ho2 : decide (other = f.bck) = o2) (hnb : nb = (o1 || o2)) :
    Calls Try.prog 8 #[flV f, keyV other] w fun e w' => e = .returned (.bool true) ∧ Below w.heap.size w w' := by
  have HNE := Lib.hid hne
  have HFO := Lib.hid hfo
  have HO1 := Lib.hid ho1
  have HO2 := Lib.hid ho2
  have HNB := Lib.hid hnb
  clear hne hfo ho1 ho2 hnb
  have hO1 : Off (fun _ => False) w ((w.alloc (.cells (flL f).toArray 38)).alloc (.cells (keyL other).toArray 36)) := ((Off.refl _ _).alloc _).alloc _
  have hB0 := (Blk.new w 38 (flL f).toArray).alloc (.cells (keyL other).toArray 36)
  have hK0 := Blk.new (w.alloc (.cells (flL f).toArray 38)) 36 (keyL other).toArray
  rw [show (w.alloc (.cells (flL f).toArray 38)).heap.size = w.heap.size + 1 by simp] at hK0
  go_enter Try.func8, Try.ntmps8
  go_wp2_with fail
  refine (fnew_any _).mono ?_
  rintro e w2 ⟨tb, U, rfl, HT, hU, hO2⟩
  have hbel2 := (hO1.step hO2 fun _ _ k => k).below (Nat.le_refl _) (fun _ _ h => h)
  have hB2 := Lib.hid (hO2.blk hB0 fun k => k)
  have hK2 := Lib.hid (hO2.blk hK0 fun k => k)
  have hUw : ∀ i, U i → w.heap.size + 2 ≤ i := fun i hi => by have := hU i hi; simp at this; omega
  have HUw := Lib.hid hUw
  have HW := Lib.hid (show w.heap.size + 2 ≤ w2.heap.size by have := hO2.size; simp at this; omega)
  clear hU hUw hB0 hK0
  generalize hN : w.heap.size = N at *
  have HN := Lib.hid hN
  clear hN
  go_wp2_with (first | (refine wpList_ldf (by rfl) (.tmp 2) rfl N 0 rfl f (box_fl hB2.out) ?_))
  refine (fadd_any f HT).mono ?_
  rintro e w3 ⟨U3, rfl, HT3, hO3, hU3⟩
  rw [addF_nil f HNE.out] at HT3
  rw [addF_nil f HNE.out, show addV ((1 : Int), (0 : Int), (0 : Int), [fl1 f]) = .tuple #[.int .i64 1, .int .i64 0, .int .i64 0] from rfl]
  have hB3 := Lib.hid (blk_keep hB2.out hO3 HUw.out (by omega))
  have hK3 := Lib.hid (blk_keep hK2.out hO3 HUw.out (by omega))
  have hbel3 := below_off hbel2 hO3 (Nat.le_of_eq HN.out.symm) (fun i hi k => by have := HUw.out i k; omega)
  have hU3w : ∀ i, U3 i → N + 2 ≤ i := fun i hi => by
    rcases hU3 i hi with h | h
    · exact HUw.out i h
    · have := HW.out; omega
  have HU3 := Lib.hid hU3w
  have HW3 := Lib.hid (show N + 2 ≤ w3.heap.size by have := hO3.size; have := HW.out; omega)
  clear hU3 hU3w
  obtain ⟨wb, r, S, p, kes, clock, T, TB3, W3, hT3, hr3, hUeq⟩ := id HT3
  have hfA := find_any TB3 f.opn
  rw [fnd1, if_pos rfl] at hfA
  go_wp2_with (first
    | (refine wpList_ldk (by rfl) (.tmp 26) rfl N 1 rfl f.opn (box_opn hB3.out) ?_)
    | (refine wpList_ldk (by rfl) (.tmp 28) rfl N 8 rfl f.bck (box_bck hB3.out) ?_)
    | (refine wpList_key_eql (by rfl) (.tmp 27) (.tmp 29) f.opn f.bck rfl rfl rfl false (decide_eq_false HNE.out) ?_)
    | (refine wpList_ldk (by rfl) (.tmp 35) rfl N 1 rfl f.opn (box_opn hB3.out) ?_))
  refine hfA.mono ?_
  rintro e w4 ⟨rfl, hO4⟩
  rw [findV_some]
  clear hfA
  have hB4 := Lib.hid ((hO4.blk hB3.out fun k => k).alloc (.cells (flL fl0).toArray 38))
  have hN4 := Lib.hid (Blk.new w4 38 (flL fl0).toArray)
  have hO4' : Off (fun _ => False) w3 (w4.alloc (.cells (flL fl0).toArray 38)) := hO4.alloc _
  have HW4 := Lib.hid (show N + 2 ≤ w4.heap.size by have := hO4.size; have := HW3.out; omega)
  go_wp2_with (first
    | (refine wpList_store_blk rfl 38 (.tmp 9) (.tmp 38) rfl w4.heap.size 38 (flL fl0).toArray (flL (fl1 f)).toArray hN4.out rfl rfl (by kernel_rfl) rfl (flL_one _) ?_; intro w5 hO5 hX5; have hB5 := Lib.hid (hO5.blk hB4.out (fun e => by have := HW4.out; omega)))
    | (refine wpList_ldk (by rfl) (.tmp 43) rfl N 8 rfl f.bck (box_bck hB5.out) ?_))
  have hK4 := hO4.blk hK3.out fun k => k
  have hO35 : Off (· = w4.heap.size) w3 w5 := (hO4'.mono (S' := (· = w4.heap.size)) fun _ _ k => k.elim).step hO5 fun _ _ e => e
  have hK5 := Lib.hid (hO35.blk hK3.out (fun e => by have := HW4.out; omega))
  have HT5 : Tbl w5 tb U3 [fl1 f] := HT3.off hO35 (fun i hi e => by have := HT3.lt hi; have := hO4.size; omega)
  have hbel5 := below_off hbel3 hO35 (Nat.le_of_eq HN.out.symm) (fun i hi e => by have := HW4.out; omega)
  have HW5 := Lib.hid (show N + 2 ≤ w5.heap.size by have := hO35.size; have := HW3.out; omega)
  have hX4 : w4.heap.size < w5.heap.size := hX5.lt
  generalize hx1 : w4.heap.size = X1 at *
  clear hx1
  have hX5' := Lib.hid hX5
  clear hX5
  obtain ⟨wb5, r5, S5, p5, kes5, clock5, T5, TB5, W5, hT5, hr5, hUeq5⟩ := id HT5
  have hfB := find_any TB5 f.bck
  rw [fnd1, if_neg HNE.out, if_pos rfl] at hfB
  refine hfB.mono ?_
  rintro e w6 ⟨rfl, hO6⟩
  rw [findV_some]
  clear hfB
  have hX6 := Lib.hid ((hO6.blk hX5'.out fun k => k).alloc (.cells (flL fl0).toArray 38))
  have hK6 := Lib.hid ((hO6.blk hK5.out fun k => k).alloc (.cells (flL fl0).toArray 38))
  have hN6 := Lib.hid (Blk.new w6 38 (flL fl0).toArray)
  have hO6' : Off (fun _ => False) w5 (w6.alloc (.cells (flL fl0).toArray 38)) := hO6.alloc _
  have HW6 := Lib.hid (show N + 2 ≤ w6.heap.size by have := hO6.size; have := HW5.out; omega)
  go_wp2_with (first
    | (refine wpList_store_blk rfl 38 (.tmp 12) (.tmp 46) rfl w6.heap.size 38 (flL fl0).toArray (flL (fl1 f)).toArray hN6.out rfl rfl (by kernel_rfl) rfl (flL_one _) ?_; intro w7 hO7 hY7; have hK7 := Lib.hid (hO7.blk hK6.out (fun e => by have := HW6.out; omega)))
    | (refine wpList_ldk (by rfl) (.tmp 3) rfl (N + 1) 0 rfl other (box_key hK7.out) ?_))
  have hO57 : Off (· = w6.heap.size) w5 w7 := (hO6'.mono (S' := (· = w6.heap.size)) fun _ _ k => k.elim).step hO7 fun _ _ e => e
  have hX7 := Lib.hid (hO7.blk hX6.out (fun e => by have := hO6.size; omega))
  have hB7 := Lib.hid (hO57.blk hB5.out (fun e => by have := HW6.out; omega))
  have HT7 : Tbl w7 tb U3 [fl1 f] := HT5.off hO57 (fun i hi e => by have := HT5.lt hi; have := hO6.size; omega)
  have hbel7 := below_off hbel5 hO57 (Nat.le_of_eq HN.out.symm) (fun i hi e => by have := HW6.out; omega)
  have HW7 := Lib.hid (show N + 2 ≤ w7.heap.size by have := hO57.size; have := HW5.out; omega)
  have hX67 : X1 < w6.heap.size := by have := hO6.size; omega
  have hY4 : w6.heap.size < w7.heap.size := hY7.lt
  generalize hx1 : w6.heap.size = X2 at *
  clear hx1
  have hY7' := Lib.hid hY7
  clear hY7
  obtain ⟨wb7, r7, S7, p7, kes7, clock7, T7, TB7, W7, hT7, hr7, hUeq7⟩ := id HT7
  have hfC := find_any TB7 other
  refine hfC.mono ?_
  rintro e w8 ⟨rfl, hO8⟩
  rw [HFO.out]
  clear hfC
  have hX8 := Lib.hid ((hO8.blk hX7.out fun k => k).alloc (.cells (flL fl0).toArray 38))
  have hY8 := Lib.hid ((hO8.blk hY7'.out fun k => k).alloc (.cells (flL fl0).toArray 38))
  have hB8 := Lib.hid ((hO8.blk hB7.out fun k => k).alloc (.cells (flL fl0).toArray 38))
  have hK8 := Lib.hid ((hO8.blk hK7.out fun k => k).alloc (.cells (flL fl0).toArray 38))
  have hN8 := Lib.hid (Blk.new w8 38 (flL fl0).toArray)
  have hO8' : Off (fun _ => False) w7 (w8.alloc (.cells (flL fl0).toArray 38)) := hO8.alloc _
  have HW8 := Lib.hid (show N + 2 ≤ w8.heap.size by have := hO8.size; have := HW7.out; omega)
  have HX12 := Lib.hid (show X1 < w8.heap.size ∧ X2 < w8.heap.size by have := hO8.size; omega)
  clear hX67 hX4 hY4
  go_upto_region 8 with (first
    | (refine wpList_store_blk rfl 38 (.tmp 15) (.tmp 53) rfl w8.heap.size 38 (flL fl0).toArray (flL g).toArray hN8.out rfl rfl (by kernel_rfl) rfl (flL_one _) ?_; intro w9 hO9 hZ9))
  have hO79 : Off (· = w8.heap.size) w7 w9 := (hO8'.mono (S' := (· = w8.heap.size)) fun _ _ k => k.elim).step hO9 fun _ _ e => e
  have hX9 := Lib.hid (hO9.blk hX8.out (fun e => by have := HX12.out; omega))
  have hY9 := Lib.hid (hO9.blk hY8.out (fun e => by have := HX12.out; omega))
  have hB9 := Lib.hid (hO9.blk hB8.out (fun e => by have := HW8.out; omega))
  have hK9 := Lib.hid (hO9.blk hK8.out (fun e => by have := HW8.out; omega))
  have HT9 : Tbl w9 tb U3 [fl1 f] := HT7.off hO79 (fun i hi e => by have := HT7.lt hi; have := hO8.size; omega)
  have hbel9 := below_off hbel7 hO79 (Nat.le_of_eq HN.out.symm) (fun i hi e => by have := HW8.out; omega)
  have x0 : w9.cell? ⟨X1, 0, none⟩ = some (.int .i64 1) := hX9.out.cell 0
  have hdf := fdrop_any 1 HT9
  clear hO9 hO8' hO8 hO7 hO6' hO6 hO5 hO4' hO4 hO3 hO2 hO1 hZ9
  rcases (show (o1 = true ∧ o2 = false ∧ nb = true) ∨ (o1 = false ∧ o2 = true ∧ nb = true) ∨ (o1 = false ∧ o2 = false ∧ nb = false) by
    have h := HNB.out
    cases o1 <;> cases o2
    · exact .inr (.inr ⟨rfl, rfl, h⟩)
    · exact .inr (.inl ⟨rfl, rfl, h⟩)
    · exact .inl ⟨rfl, rfl, h⟩
    · exfalso; exact HNE.out ((of_decide_eq_true HO1.out).symm.trans (of_decide_eq_true HO2.out))) with ⟨rfl, rfl, rfl⟩ | ⟨rfl, rfl, rfl⟩ | ⟨rfl, rfl, rfl⟩
  all_goals
    go_wp2_with (first
      | (refine wpList_ldf (by rfl) (.tmp 9) rfl X1 0 rfl (fl1 f) (box_fl hX9.out) ?_)
      | (refine wpList_ldf (by rfl) (.tmp 12) rfl X2 0 rfl (fl1 f) (box_fl hY9.out) ?_)
      | (refine wpList_fl_neq (by rfl) (.tmp 82) (.tmp 83) (fl1 f) (fl1 f) rfl rfl rfl false (by simp) ?_)
      | (refine wpList_ldk (by rfl) (.tmp 92) rfl X1 1 rfl f.opn (box_opn (f := fl1 f) hX9.out) ?_)
      | (refine wpList_ldk (by rfl) (.tmp 94) rfl N 1 rfl f.opn (box_opn hB9.out) ?_)
      | (refine wpList_key_neq (by rfl) (.tmp 93) (.tmp 95) f.opn f.opn rfl rfl rfl false (by simp) ?_)
      | (refine wpList_ldk (by rfl) (.tmp 3) rfl (N + 1) 0 rfl other (box_key hK9.out) ?_)
      | (refine wpList_ldk (by rfl) (.tmp 101) rfl N 1 rfl f.opn (box_opn hB9.out) ?_)
      | (refine wpList_key_eql (by rfl) (.tmp 100) (.tmp 102) other f.opn rfl rfl rfl _ HO1.out ?_)
      | (refine wpList_ldk (by rfl) (.tmp 106) rfl N 8 rfl f.bck (box_bck hB9.out) ?_)
      | (refine wpList_key_eql (by rfl) (.tmp 105) (.tmp 107) other f.bck rfl rfl rfl _ HO2.out ?_))
    refine hdf.mono ?_
    rintro e w10 ⟨U10, b10, rfl, hb10, HT10, hO10, hU10⟩
    obtain ⟨rfl, _⟩ := hb10.resolve_right (fun h => h.2 (fl1 f) (by simp) rfl)
    rw [show dropF 1 [fl1 f] = [] by simp [dropF]] at HT10
    have hB10 := Lib.hid (blk_keep hB9.out hO10 HU3.out (by omega))
    have hbel10 := below_off hbel9 hO10 (Nat.le_of_eq HN.out.symm) (fun i hi k => by have := HU3.out i k; omega)
    have HU10 := Lib.hid (show ∀ i, U10 i → N + 2 ≤ i from fun i hi => HU3.out i (hU10 i hi))
    clear x0 hdf hb10 hU10
    go_wp2_with fail
    refine (fdrop_any 1 HT10).mono ?_
    rintro e w11 ⟨U11, b11, rfl, hb11, HT11, hO11, hU11⟩
    obtain ⟨rfl, _⟩ := hb11.resolve_left (fun h => by obtain ⟨x, hx, _⟩ := h.2; cases hx)
    rw [show dropF 1 ([] : List Fl) = [] from rfl] at HT11
    have hB11 := Lib.hid (blk_keep hB10.out hO11 HU10.out (by omega))
    have hbel11 := below_off hbel10 hO11 (Nat.le_of_eq HN.out.symm) (fun i hi k => by have := HU10.out i k; omega)
    clear hb11 hU11
    obtain ⟨wb11, r11, S11, p11, kes11, clock11, T11, TB11, _, _, _, _⟩ := id HT11
    have ht11 := taken_any TB11 f.opn
    rw [tkn1 f f.opn] at ht11
    go_wp2_with (first | (refine wpList_ldk (by rfl) (.tmp 121) rfl N 1 rfl f.opn (box_opn hB11.out) ?_))
    refine ht11.mono ?_
    rintro e w12 ⟨rfl, hO12⟩
    clear ht11
    have hB12 := Lib.hid (hO12.blk hB11.out fun k => k)
    have hbel12 := below_off hbel11 hO12 (Nat.le_of_eq HN.out.symm) (fun _ _ k => k)
    have TB12 := TB11.off hO12 (fun _ _ k => k)
    have ht12 := taken_any TB12 f.bck
    rw [tkn1 f f.bck] at ht12
    go_wp2_with (first | (refine wpList_ldk (by rfl) (.tmp 128) rfl N 8 rfl f.bck (box_bck hB12.out) ?_))
    refine ht12.mono ?_
    rintro e w13 ⟨rfl, hO13⟩
    clear ht12
    have hbel13 := below_off hbel12 hO13 (Nat.le_of_eq HN.out.symm) (fun _ _ k => k)
    have TB13 := TB12.off hO13 (fun _ _ k => k)
    go_wp2_with fail
    refine (list_any TB13).mono ?_
    rintro e w14 ⟨v14, rfl, hrow14, hO14⟩
    have hbel14 := below_off hbel13 hO14 (Nat.le_of_eq HN.out.symm) (fun _ _ k => k)
    obtain ⟨a14, cap14, hv14⟩ := own_shape hrow14
    subst hv14
    clear hrow14
    go_wp2_with fail
    go_ret
    exact ⟨rfl, by rw [HN.out]; exact hbel14⟩

theorem flowSides_walk0 (f : Fl) (other : FKey) (w : World) : Calls Try.prog 8 #[flV f, keyV other] w fun e w' => e = .returned (.bool true) ∧ Below w.heap.size w w' := by
  by_cases hne : f.opn = f.bck
  · exact sides_eq f other w hne
  · cases hq : fnd [fl1 f] other with
    | none =>
      have h := fnd_none.1 hq (fl1 f) (by simp)
      exact sides_ne f other w hne fl0 false false (by rw [hq]; rfl) false false (decide_eq_false fun e => h.1 e.symm) (decide_eq_false fun e => h.2 e.symm) rfl
    | some x =>
      obtain ⟨g, bb⟩ := x
      refine sides_ne f other w hne g bb true (by rw [hq]; rfl) _ _ rfl rfl ?_
      rw [fnd1] at hq
      by_cases h1 : other = f.opn
      · simp [h1]
      · by_cases h2 : other = f.bck
        · simp [h2]
        · rw [if_neg (fun e => h1 e.symm), if_neg (fun e => h2 e.symm)] at hq; cases hq
end Go.Proofs.Ytbkgjghbmafoeaa
