/- The walk over WheelDrop: it returns true and writes nothing that was there. Conditions: the slices' elements are ints. -/
import Derived.Test.YtbkgjghbmafoeaaWheelDropPure
import Derived.Test.YtbkgjghbmafoeaaWUse
namespace Go.Proofs.Ytbkgjghbmafoeaa
open Go.RowKit

def DropRel2 (W : World) (wb rb m : Nat) (gone : Int) (i : Value) (wr : World) : Prop :=
  ∃ (k : Nat) (S : Nat → Prop) (L Lr : List Tm) (v : Value) (g : Option Nat), k ≤ m ∧ i = .int .i64 k ∧ Whl wr wb S L ∧ RfAt wr rb v g Lr ∧ (∀ i, S i → W.heap.size ≤ i) ∧ (∀ i, g = some i → W.heap.size ≤ i) ∧ Below W.heap.size W wr ∧ L.length ≤ k ∧ Lr = del gone L

set_option maxRecDepth 100000 in
set_option maxHeartbeats 4000000 in
theorem drop_walk (a : Option Addr) (len cap : Nat) (zs : List Int) (a' : Option Addr) (len' cap' : Nat) (us : List Int) (gone : Int) (w : World) (hin : Ints .i64 w a len (-9223372036854775808) 9223372036854775807 zs) (hin' : Ints .i64 w a' len' (-9223372036854775808) 9223372036854775807 us)
    (hlen : len ≤ 9223372036854775807) (hlen' : len' ≤ 9223372036854775807) :
    Calls Try.prog 7 #[.slice a len cap, .slice a' len' cap', .int .i64 gone] w fun e w' => e = .returned (.bool true) ∧ Below w.heap.size w w' := by
  by_cases hbig : 200 < len
  · go_enter Try.func7, Try.ntmps7
    go_wp2
    go_ret
    exact ⟨rfl, Below.refl _ _⟩
  obtain ⟨m, hm⟩ : ∃ m, min len len' = m := ⟨_, rfl⟩
  have hm1 : m ≤ len := by omega
  have hm2 : m ≤ len' := by omega
  have hm3 : m = len ∨ m = len' := by omega
  clear hm
  go_enter Try.func7, Try.ntmps7
  go_wp2_with fail
  refine (wnew_any w).mono ?_
  rintro e w1 ⟨wb, S1, rfl, hW1, hS1, _, hO1⟩
  have hR2 := RfAt.new w1
  have hW2 := hW1.off ((Off.refl (fun _ => False) w1).alloc (.cells #[.slice none 0 0] 60)) (fun _ _ k => k)
  have hbel1 := below_off (hO1.below (Nat.le_refl _) (fun _ _ h => h)) ((Off.refl (fun _ => False) w1).alloc (.cells #[.slice none 0 0] 60)) (Nat.le_refl _) (fun _ _ h => h)
  have hrb : w.heap.size ≤ w1.heap.size := hO1.size
  go_upto_block 0 with fail
  generalize hrbx : w1.heap.size = rb at *
  generalize w1.alloc (.cells #[.slice none 0 0] 60) = w2 at *
  go_cut [9] (fun s9 wx => DropRel2 w wb rb m gone (.int .i64 m) wx)
  case first =>
    go_wp2_with fail
    go_loopw [9] (DropRel2 w wb rb m gone) (fun i _ => m - (intOf i).toNat)
    case atStart => exact ⟨0, S1, [], [], _, none, Nat.zero_le _, rfl, hW2, hR2, hS1, (fun i h => by cases h), hbel1, Nat.le_refl _, rfl⟩
    case round =>
      clear hW1 hW2 hS1 hR2 hbel1 hO1
      obtain ⟨k, S, L, Lr, v, g, hk, rfl, hW, hR, hS, hg, hbel, hLk, hLr⟩ := hrel
      have q0 : (0 : Int) ≤ (k : Int) := by omega
      by_cases hlt : k < m
      · have q1 : (k : Int) < (len : Int) := by omega
        have q2 : (k : Int) < (len' : Int) := by omega
        obtain ⟨bx, off, rfl, hbx, hc0, _, _⟩ := hin.2 k (by omega)
        obtain ⟨by_, off', rfl, hby, hc0', _, _⟩ := hin'.2 k (by omega)
        have hc := (hbel.cell (p := ⟨bx, off + k, none⟩) hbx).trans hc0
        have hc' := (hbel.cell (p := ⟨by_, off' + k, none⟩) hby).trans hc0'
        clear hc0 hc0'
        generalize zs.getD k 0 = z at *
        generalize us.getD k 0 = u at *
        have hbxr := Nat.lt_of_lt_of_le hbx hbel.size
        have hbyr := Nat.lt_of_lt_of_le hby hbel.size
        have HLr := Lib.hid hLr
        clear hLr
        have hLr' : Lr.length < 256 := by
          rw [HLr.out]; exact Nat.lt_of_le_of_lt (List.length_filter_le _ _) (by omega)
        have hap := hW.apart hR
        have hbn1 : bx ≠ rb := by omega
        have hbn2 : by_ ≠ rb := by omega
        have hap' := hW.apart' hR
        go_wp2_with fail
        go_region_held3 (fun w' => w'.cell? ⟨bx, off + k, none⟩ = some (.int .i64 z) ∧ w'.cell? ⟨by_, off' + k, none⟩ = some (.int .i64 u)) (first | exact ⟨hc, hc'⟩ | exact ⟨d1, d2⟩)
          (first | (go_at_call 28; refine (wset_any z u (hW.off ((Off.refl (fun _ => False) wr).drew) (fun _ _ k => k))).mono ?_; rintro e w2 ⟨S2, L2, er, rfl, hSR, hW2, hO2, hS2⟩; obtain ⟨rfl, rfl⟩ := setR_few hSR (by omega); have d1 := (hO2.cell (p := ⟨bx, off + k, none⟩) hbxr (fun k => by have := hS bx k; omega)).trans hc; have d2 := (hO2.cell (p := ⟨by_, off' + k, none⟩) hbyr (fun k => by have := hS by_ k; omega)).trans hc'))
        have hbel2 := below_off hbel.drew hO2 (Nat.le_refl _) (fun i hi k => by have := hS i k; omega)
        have hwr := hbel.size
        have hS2' : ∀ i, S2 i → w.heap.size ≤ i := fun i k => (hS2 i k).elim (hS i) (fun k => by simp at k; omega)
        have hR2 := (hR.off ((Off.refl (fun _ => False) wr).drew) (fun _ _ k => k)).off hO2 hap
        have hLl2 : (ins (z, u) (del z L)).length ≤ k + 1 := Nat.le_trans ins_del_length (by omega)
        have hsz2 := hO2.size
        clear hc hc'
        by_cases hz : z = gone
        · subst hz
          have hnext : Lr = del z (ins (z, u) (del z L)) := by rw [HLr.out, del_ins_same hW.few.2]
          have HN := Lib.hid hnext
          clear hnext
          go_wp2
          exact ⟨⟨k + 1, S2, _, Lr, v, g, by omega, by go_num, hW2, hR2, hS2', hg, hbel2, hLl2, HN.out⟩, by simp [intOf]; omega⟩
        · have hzb : (z == gone) = false := by simpa using hz
          have hnext : ins (z, u) (del z Lr) = del gone (ins (z, u) (del z L)) := by rw [HLr.out, del_ins_ne hW.few.2 hz]
          have HN := Lib.hid hnext
          clear hnext
          go_wp2_with fail
          go_region_held3 (fun w' => w'.cell? ⟨bx, off + k, none⟩ = some (.int .i64 z) ∧ w'.cell? ⟨by_, off' + k, none⟩ = some (.int .i64 u)) (first | exact ⟨d1, d2⟩ | exact ⟨e1, e2⟩)
            (first | (go_at_call 29; refine (rset_any z u (hR2.off ((Off.refl (fun _ => False) w2).drew) (fun _ _ k => k))).mono ?_; rintro e w3 ⟨v3, g3, L3, er3, rfl, hSR3, hR3, hO3, hg3⟩; obtain ⟨rfl, rfl⟩ := setR_few hSR3 hLr'; have e1 := (hO3.cell (p := ⟨bx, off + k, none⟩) (by simpa using Nat.lt_of_lt_of_le hbxr hsz2) (fun k => hbn1 k)).trans d1; have e2 := (hO3.cell (p := ⟨by_, off' + k, none⟩) (by simpa using Nat.lt_of_lt_of_le hbyr hsz2) (fun k => hbn2 k)).trans d2))
          have hbel3 := below_off hbel2.drew hO3 (Nat.le_refl _) (fun i hi k => by omega)
          have hW3 := (hW2.off ((Off.refl (fun _ => False) w2).drew) (fun _ _ k => k)).off hO3 (fun i hi => hW2.apart' hR2 i hi)
          have hg3' : ∀ i, g3 = some i → w.heap.size ≤ i := fun i hi => by
            rcases hg3 with h | h
            · rw [h] at hi; exact hg i hi
            · have := h i hi; simp at this; simp at hsz2; omega
          clear d1 d2 e1 e2
          go_wp2
          exact ⟨⟨k + 1, S2, _, _, v3, g3, by omega, by go_num, hW3, hR3, hS2', hg3', hbel3, hLl2, HN.out⟩, by simp [intOf]; omega⟩
      · obtain rfl : m = k := by omega
        have hend : DropRel2 w wb rb m gone (.int .i64 m) wr := ⟨m, S, L, Lr, v, g, hk, rfl, hW, hR, hS, hg, hbel, hLk, hLr⟩
        by_cases hkl : m < len
        · have q1 : (m : Int) < (len : Int) := by omega
          have q2 : ¬ (m : Int) < (len' : Int) := by omega
          clear hLr
          go_wp2_with fail
          go_meet
          exact hend
        · have q1 : ¬ (m : Int) < (len : Int) := by omega
          clear hLr
          go_wp2_with fail
          go_meet
          exact hend
  case rest =>
    clear hW1 hW2 hS1 hR2 hbel1 hO1
    obtain ⟨k, S, L, Lr, v, g, hk, _, hW, hR, hS, hg, hbel, hLk, hLr⟩ := hcut
    have HLr := Lib.hid hLr
    clear hLr
    go_wp2_with fail
    refine (wdrop_any gone hW).mono ?_
    rintro e w3 ⟨S3, L3, b3, rfl, ⟨hL3, _⟩, hW3, hO3, hS3⟩
    have hR3 := hR.off hO3 (hW.apart hR)
    have hbel3 := below_off hbel hO3 (Nat.le_refl _) (fun i hi k => by have := hS i k; omega)
    have hLL : L3 = Lr := by rw [hL3, HLr.out]
    subst hLL
    have hno : ∀ y ∈ L3, y.1 ≠ gone := by rw [hL3]; exact fun y hy => (mem_del.1 hy).2
    have HNo := Lib.hid hno
    clear hno hL3
    have hWd := hW3.off ((Off.refl (fun _ => False) w3).drew) (fun _ _ k => k)
    obtain ⟨a3, cap3, hv3, _⟩ := hR3.row.form
    subst hv3
    have c3 : w3.cell? ⟨rb, 0, none⟩ = some (.slice a3 L3.length cap3) := hR3.top.cell 0
    have hRd := hR3.off ((Off.refl (fun _ => False) w3).drew) (fun _ _ k => k)
    have hapd := hWd.apart hRd
    have hrbd := hRd.top.lt
    go_wp2_with fail
    go_region_with (first
      | (go_at_call 33; refine (wlen_any hWd).mono ?_; rintro e w4 ⟨rfl, rfl⟩)
      | (go_at_call 30; refine (wdue_any 9223372036854775807 hWd).mono ?_; rintro e w5 ⟨S5, v5, rfl, hrow5, hW5, hO5, hS5⟩; have hR5 := hRd.off hO5 hapd)
      | (go_at_call 32; refine (rdue_any 9223372036854775807 hR5).mono ?_; rintro e w6 ⟨v6, v6', rfl, hrow6, hR6, hO6⟩; have hI5 := (IRow.of_own hrow5).off hO6 (fun b off n c e1 e2 => absurd (Nat.le_trans (own_row_at hrow5 e1) (Nat.le_of_eq e2)) (Nat.not_le.2 hrbd)); have hI6 := IRow.of_own hrow6)
      | (go_at_call 31; refine (same31_any hI5 hI6).mono ?_; rintro e w7 ⟨rfl, hO7⟩; rw [decide_eq_true rfl])
      | (go_at_call 34; refine (wdrop_any gone ((hW5.off hO6 (hW5.apart' hR5)).off hO7 (fun _ _ k => k))).mono ?_; rintro e w8 ⟨S8, L8, b8, rfl, ⟨_, hb8⟩, hW8, hO8, hS8⟩; obtain ⟨rfl, _⟩ := hb8.resolve_left (fun h => by obtain ⟨y, hy, he⟩ := h.2; exact HNo.out y ((List.dropWhile_suffix _).subset hy) he)))
    all_goals
      have hbel5 := below_off hbel3.drew hO5 (Nat.le_refl _) (fun i hi k => by have := hS i (hS3 i k); omega)
      have hbel6 := below_off hbel5 hO6 (Nat.le_refl _) (fun i hi k => by omega)
      have hbel7 := below_off hbel6 hO7 (Nat.le_refl _) (fun _ _ k => k)
      have hbel8 := below_off hbel7 hO8 (Nat.le_refl _) (fun i hi k => by have := hS i (hS3 i (hS5 i k)); omega)
      go_wp2_with fail
      go_ret
      exact ⟨rfl, hbel8⟩

theorem wheelDrop_walk (a0 : Option Addr) (len0 cap0 : Nat) (z0 : List Int) (a1 : Option Addr) (len1 cap1 : Nat) (z1 : List Int) (gone : Int) (w : World) (h0 : IsRow .i64 w a0 len0 cap0 z0) (h1 : IsRow .i64 w a1 len1 cap1 z1) (_ : (Lit.int .i64 gone).wf = true) :
    Calls Try.prog 7 #[.slice a0 len0 cap0, .slice a1 len1 cap1, .int .i64 gone] w fun e w' => e = .returned (.bool true) ∧ Below w.heap.size w w' := by
  obtain ⟨i0, l0⟩ := h0.ints (lo := -9223372036854775808) (hi := 9223372036854775807) (fun n hn => I64_of_wf hn)
  obtain ⟨i1, l1⟩ := h1.ints (lo := -9223372036854775808) (hi := 9223372036854775807) (fun n hn => I64_of_wf hn)
  unfold maxLen at l0 l1
  exact drop_walk a0 len0 cap0 z0 a1 len1 cap1 z1 gone w i0 i1 (by omega) (by omega)
end Go.Proofs.Ytbkgjghbmafoeaa
