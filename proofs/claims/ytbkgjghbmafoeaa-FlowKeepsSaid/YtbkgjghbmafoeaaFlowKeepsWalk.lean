/- The walk over FlowKeeps: it returns true and writes nothing that was there. Conditions: the steps' elements are whole numbers. -/
import Derived.Test.YtbkgjghbmafoeaaFlUse
import Derived.Test.YtbkgjghbmafoeaaFlIn
namespace Go.Proofs.Ytbkgjghbmafoeaa
open Go.RowKit

theorem addF_keeps {L : List Fl} {f : Fl} (g : Fl) (ok : FOk L) (hf : f ∈ L) (hs : f.state = 1) : f ∈ (addF L g).2.2.2 := by
  unfold addF
  split
  · exact hf
  · split
    · split
      · exact hf
      · rename_i v hv
        obtain ⟨h1, h2⟩ := vic_mem hv
        have hne : f.id ≠ v.id := fun e => by
          have := ok.inj hf h1 e
          subst this
          unfold Fl.weak at h2; omega
        exact mem_insF.2 (.inr (mem_dropF.2 ⟨hf, hne⟩))
    · exact mem_insF.2 (.inr hf)

/-- The flow that is answered. -/
abbrev flA (f : Fl) : Fl := { f with id := 1, state := 1 }

theorem setF_A (f : Fl) : setF 1 1 f.ends [fl1 f] = [flA f] := by simp [setF, turnF]

def KeepRel (W : World) (N tb : Nat) (f : Fl) (len : Nat) (iv : Value) (wr : World) : Prop :=
  ∃ (k : Nat) (U : Nat → Prop) (L : List Fl), k ≤ len ∧ iv = .int .i64 k ∧ Tbl wr tb U L ∧ (∀ i, U i → N + 1 ≤ i) ∧ Blk wr N 38 (flL f).toArray ∧ Below N W wr ∧ flA f ∈ L ∧ N + 1 ≤ wr.heap.size

set_option maxRecDepth 100000 in
set_option maxHeartbeats 4000000 in
theorem keeps_walk (f : Fl) (a : Option Addr) (len cap : Nat) (F : Nat → List Int) (w : World) (hin : Elems stepKs w a len F) (hlen : len ≤ 9223372036854775807) :
    Calls Try.prog 10 #[flV f, .slice a len cap] w fun e w' => e = .returned (.bool true) ∧ Below w.heap.size w w' := by
  have hO1 : Off (fun _ => False) w (w.alloc (.cells (flL f).toArray 38)) := (Off.refl _ _).alloc _
  have hB1 := Lib.hid (Blk.new w 38 (flL f).toArray)
  have hbel1 := hO1.below (Nat.le_refl _) (fun _ _ h => h)
  by_cases hbig : 1024 < len
  · go_enter Try.func10, Try.ntmps10
    go_wp2_with fail
    go_ret
    exact ⟨rfl, hbel1⟩
  have hbig' : (len : Int) ≤ 1024 := by omega
  have hbb : decide ((1024 : Int) < (len : Int)) = false := by simp; omega
  by_cases hne : f.opn = f.bck
  · have HNE := Lib.hid hne
    clear hne
    go_enter Try.func10, Try.ntmps10
    go_wp2_with (first
      | (refine wpList_ldk (by rfl) (.tmp 16) rfl w.heap.size 1 rfl f.opn (box_opn hB1.out) ?_)
      | (refine wpList_ldk (by rfl) (.tmp 18) rfl w.heap.size 8 rfl f.bck (box_bck hB1.out) ?_)
      | (refine wpList_key_eql (by rfl) (.tmp 17) (.tmp 19) f.opn f.bck rfl rfl rfl true (decide_eq_true HNE.out) ?_))
    go_ret
    exact ⟨rfl, hbel1⟩
  have HNE := Lib.hid hne
  clear hne
  go_enter Try.func10, Try.ntmps10
  go_wp2_with (first
    | (refine wpList_ldk (by rfl) (.tmp 16) rfl w.heap.size 1 rfl f.opn (box_opn hB1.out) ?_)
    | (refine wpList_ldk (by rfl) (.tmp 18) rfl w.heap.size 8 rfl f.bck (box_bck hB1.out) ?_)
    | (refine wpList_key_eql (by rfl) (.tmp 17) (.tmp 19) f.opn f.bck rfl rfl rfl false (decide_eq_false HNE.out) ?_))
  refine (fnew_any _).mono ?_
  rintro e w2 ⟨tb, U, rfl, HT, hU, hO2⟩
  have hbel2 := below_off hbel1 hO2 (Nat.le_refl _) (fun _ _ k => k)
  have hB2 := Lib.hid (hO2.blk hB1.out fun k => k)
  have HUw := Lib.hid (show ∀ i, U i → w.heap.size + 1 ≤ i from fun i hi => by have := hU i hi; simp at this; omega)
  have HW := Lib.hid (show w.heap.size + 1 ≤ w2.heap.size by have := hO2.size; simp at this; omega)
  clear hU
  generalize hN : w.heap.size = N at *
  have HN := Lib.hid hN
  clear hN
  go_wp2_with (first | (refine wpList_ldf (by rfl) (.tmp 2) rfl N 0 rfl f (box_fl hB2.out) ?_))
  refine (fadd_any f HT).mono ?_
  rintro e w3 ⟨U3, rfl, HT3, hO3, hU3⟩
  rw [addF_nil f HNE.out] at HT3
  rw [addF_nil f HNE.out, show addV ((1 : Int), (0 : Int), (0 : Int), [fl1 f]) = .tuple #[.int .i64 1, .int .i64 0, .int .i64 0] from rfl]
  have hB3 := blk_keep hB2.out hO3 HUw.out (Nat.lt_succ_self _)
  have hbel3 := below_off hbel2 hO3 (Nat.le_of_eq HN.out.symm) (fun i hi k => by have := HUw.out i k; omega)
  have HU3 := Lib.hid (show ∀ i, U3 i → N + 1 ≤ i from fun i hi => by
    rcases hU3 i hi with h | h
    · exact HUw.out i h
    · have := HW.out; omega)
  have HW3 := Lib.hid (show N + 1 ≤ w3.heap.size by have := hO3.size; have := HW.out; omega)
  have d19 : w3.cell? ⟨N, 19, none⟩ = some (.int .i64 f.ends) := hB3.cell 19
  clear hU3
  go_wp2_with fail
  refine (fset_any 1 1 f.ends HT3).mono ?_
  rintro e w4 ⟨U4, b4, rfl, hb4, HT4, hO4, hU4⟩
  obtain ⟨rfl, _⟩ := hb4.resolve_right (fun h => h.2 (fl1 f) (by simp) rfl)
  rw [setF_A] at HT4
  have hB4 := blk_keep hB3 hO4 HU3.out (Nat.lt_succ_self _)
  have hbel4 := below_off hbel3 hO4 (Nat.le_of_eq HN.out.symm) (fun i hi k => by have := HU3.out i k; omega)
  have HU4 : ∀ i, U4 i → N + 1 ≤ i := fun i hi => by
    rcases hU4 i hi with h | h
    · exact HU3.out i h
    · have := HW3.out; omega
  have HW4 : N + 1 ≤ w4.heap.size := by have := hO4.size; have := HW3.out; omega
  have hB4' := Lib.hid hB4
  have HU4' := Lib.hid HU4
  clear hb4 hU4 d19 hB3 hB4 HU4
  go_wp2_with fail
  go_loopw [9] (KeepRel w N tb f len) (fun i _ => len - (intOf i).toNat)
  case atStart => exact ⟨0, U4, _, Nat.zero_le _, rfl, HT4, HU4'.out, hB4'.out, hbel4, by simp, HW4⟩
  case round =>
    clear HT HT3 HT4 hbel1 hbel2 hbel3 hbel4 hO1 hO2 hO3 hO4 HW4
    obtain ⟨k, U, L, hk, rfl, HT, hU, hB, hbel, hfL, hW⟩ := hrel
    have q0 : (0 : Int) ≤ (k : Int) := by omega
    have HU := Lib.hid hU
    have HB := Lib.hid hB
    clear hU hB
    by_cases hlt : k < len
    · have q1 : (k : Int) < (len : Int) := by omega
      obtain ⟨b, off, rfl, hbl, _, _, _, _, hrg⟩ := step_range hin (by rw [HN.out]; exact hbel) hlt
      have HR := Lib.hid hrg
      clear hrg
      have hok := HT.ok
      generalize flAt (F k) 4 = s at *
      go_wp2_with (first | (refine wpList_ldf (by rfl) (.tmp 50) rfl b (off + k * 24 + 4) rfl s HR.out ?_))
      refine (fadd_any s HT).mono ?_
      rintro e w5 ⟨U5, rfl, HT5, hO5, hU5⟩
      have hf5 := addF_keeps s hok hfL rfl
      generalize (addF L s).2.2.2 = L5 at *
      unfold addV
      have hB5 := Lib.hid (blk_keep HB.out hO5 HU.out (Nat.lt_succ_self _))
      have hbel5 := below_off hbel hO5 (Nat.le_of_eq HN.out.symm) (fun i hi k => by have := HU.out i k; omega)
      have HU5 := Lib.hid (show ∀ i, U5 i → N + 1 ≤ i from fun i hi => by
        rcases hU5 i hi with h | h
        · exact HU.out i h
        · omega)
      have HW5 : N + 1 ≤ w5.heap.size := by have := hO5.size; omega
      clear hU5
      obtain ⟨wb5, r5, S5, p5, kes5, clock5, T5, TB5, _, _, _, _⟩ := id HT5
      have hg := fget_some TB5 (flA f) hf5
      go_wp2_with fail
      refine hg.mono ?_
      rintro e w6 ⟨rfl, hO6⟩
      rw [show getV (some (flA f)) = .tuple #[flV (flA f), .bool true] from rfl]
      clear hg
      have hB6 := Lib.hid ((hO6.blk hB5.out fun k => k).alloc (.cells (flL fl0).toArray 38))
      have hN6 := Lib.hid (Blk.new w6 38 (flL fl0).toArray)
      have hO6' : Off (fun _ => False) w5 (w6.alloc (.cells (flL fl0).toArray 38)) := hO6.alloc _
      have hsz6 := hO6.size
      go_wp2_with (first
        | (refine wpList_store_blk rfl 38 (.tmp 10) (.tmp 57) rfl w6.heap.size 38 (flL fl0).toArray (flL (flA f)).toArray hN6.out rfl rfl (by kernel_rfl) rfl (flL_one _) ?_; intro w7 hO7 hX7; have hB7 := Lib.hid (hO7.blk hB6.out (fun e => by omega)); have hX7' := Lib.hid hX7; have x18 : w7.cell? ⟨w6.heap.size, 18, none⟩ = some (.int .i64 1) := hX7.cell 18; have x17 : w7.cell? ⟨w6.heap.size, 17, none⟩ = some (.int .i64 f.rule) := hX7.cell 17; have n17 : w7.cell? ⟨N, 17, none⟩ = some (.int .i64 f.rule) := hB7.out.cell 17; clear hX7)
        | (refine wpList_ldk (by rfl) (.tmp 62) rfl w6.heap.size 1 rfl f.opn (box_opn (f := flA f) hX7'.out) ?_)
        | (refine wpList_ldk (by rfl) (.tmp 64) rfl N 1 rfl f.opn (box_opn hB7.out) ?_)
        | (refine wpList_key_neq (by rfl) (.tmp 63) (.tmp 65) f.opn f.opn rfl rfl rfl false (by simp) ?_)
        | (refine wpList_ldk (by rfl) (.tmp 69) rfl w6.heap.size 8 rfl f.bck (box_bck (f := flA f) hX7'.out) ?_)
        | (refine wpList_ldk (by rfl) (.tmp 71) rfl N 8 rfl f.bck (box_bck hB7.out) ?_)
        | (refine wpList_key_neq (by rfl) (.tmp 70) (.tmp 72) f.bck f.bck rfl rfl rfl false (by simp) ?_))
      have hO57 : Off (· = w6.heap.size) w5 w7 := (hO6'.mono (S' := (· = w6.heap.size)) fun _ _ k => k.elim).step hO7 fun _ _ e => e
      refine ⟨⟨k + 1, U5, L5, by omega, by go_num, HT5.off hO57 (fun i hi e => by have := HT5.lt hi; omega), HU5.out, hB7.out, below_off hbel5 hO57 (Nat.le_of_eq HN.out.symm) (fun i hi e => by omega), hf5, by have := hO57.size; omega⟩, by simp [intOf]; omega⟩
    · have q1 : ¬ (k : Int) < (len : Int) := by omega
      obtain ⟨wb5, r5, S5, p5, kes5, clock5, T5, TB5, _, _, _, _⟩ := id HT
      go_wp2_with fail
      refine (list_any TB5).mono ?_
      rintro e w8 ⟨v8, rfl, hrow8, hO8⟩
      have hbel8 := below_off hbel hO8 (Nat.le_of_eq HN.out.symm) (fun _ _ k => k)
      obtain ⟨a8, cap8, hv8⟩ := own_shape hrow8
      subst hv8
      have h48 : (L.length : Int) ≤ 48 := by have := HT.ok.few; omega
      clear hrow8
      go_wp2_with fail
      go_ret
      exact ⟨rfl, by rw [HN.out]; exact hbel8⟩

theorem flowKeeps_walk (f : Fl) (a : Option Addr) (len cap : Nat) (F : Nat → List Int) (w : World) (hin : Elems stepKs w a len F) (hm : len ≤ maxLen) :
    Calls Try.prog 10 #[flV f, .slice a len cap] w fun e w' => e = .returned (.bool true) ∧ Below w.heap.size w w' :=
  keeps_walk f a len cap F w hin (by unfold maxLen at hm; omega)
end Go.Proofs.Ytbkgjghbmafoeaa
