/- The walk over a table's List. Conditions: the table lies whole in memory, its wheel aside. -/
import Derived.Test.YtbkgjghbmafoeaaFlFind
import Derived.Test.YtbkgjghbmafoeaaMPure
import Derived.Test.YtbkgjghbmafoeaaMSmall
import Derived.Great.BuildSlice
namespace Go.Proofs.Ytbkgjghbmafoeaa
open Go.RowKit

theorem Try.info38 : (Try.prog.info? 38).map (fun i => (i.zero, i.size, i.bytes)) = some (some (flV fl0), 20, 160) := by kernel_rfl
theorem Try.info42 : (Try.prog.info? 42).map (fun i => (i.zero, i.size, i.bytes)) = some (some (flV fl0), 20, 160) := by kernel_rfl

def plist (p : Nat → Option Nat) : List Value := (List.range 49).map fun i => ptrV (p i)

theorem plist_at (p : Nat → Option Nat) {k : Nat} (hk : k < 49) : (plist p)[k]? = some (ptrV (p k)) := by simp [plist, hk]

theorem index74 (w : World) (p : Nat → Option Nat) {k : Nat} (hk : k < 49) : (Instr.index 74 (.agg (plist p).toArray) (.int .i64 k)).run Try.prog w = .ok (ptrV (p k)) w := by
  have h1 : (sizeOf 73).run Try.prog w = .ok 1 w := by kernel_rfl
  have h2 : (isAgg 73).run Try.prog w = .ok false w := by kernel_rfl
  have h3 : (0 : Int) ≤ (k : Int) ∧ (k : Int) < (49 : Nat) := by omega
  unfold Instr.index
  simp only [asIntOf, Sem.run_bind, Sem.run_pure, Result.andThen_ok, run_underlying Try.underlying74, if_pos h3, h1, part, h2, Bool.false_eq_true, if_false]
  simp [plist_at p hk]

theorem flL_len0 (f : Fl) : (flL f).length = 20 := rfl

theorem foldl_set_at : ∀ (l : List Value) (k : Nat) (z : Array Value), ((l.zipIdx k).foldl (fun cs (x : Value × Nat) => cs.setIfInBounds (0 + x.2) x.1) z).size = z.size ∧
    ∀ j, ((l.zipIdx k).foldl (fun cs (x : Value × Nat) => cs.setIfInBounds (0 + x.2) x.1) z)[j]? = if k ≤ j ∧ j < k + l.length ∧ j < z.size then l[j - k]? else z[j]?
  | [], k, z => ⟨rfl, fun j => by rw [if_neg (by simp; omega)]; rfl⟩
  | c :: l, k, z => by
    obtain ⟨h1, h2⟩ := foldl_set_at l (k + 1) (z.setIfInBounds (0 + k) c)
    simp only [List.zipIdx_cons, List.foldl_cons]
    refine ⟨by rw [h1]; simp, fun j => ?_⟩
    rw [h2 j]
    simp only [Array.size_setIfInBounds, List.length_cons, Array.getElem?_setIfInBounds]
    by_cases hj : k + 1 ≤ j ∧ j < k + 1 + l.length ∧ j < z.size
    · rw [if_pos hj, if_pos ⟨by omega, by omega, hj.2.2⟩, show j - k = (j - (k + 1)) + 1 by omega, List.getElem?_cons_succ]
    · rw [if_neg hj]
      by_cases hjk : 0 + k = j
      · rw [if_pos hjk]
        by_cases hz : j < z.size
        · rw [if_pos (by omega), if_pos (by omega), show j - k = 0 by omega]; rfl
        · rw [if_neg (by omega), if_neg (by omega), Array.getElem?_eq_none (by omega)]
      · rw [if_neg hjk, if_neg (by omega)]

/-- A slice of one struct, made. -/
theorem fill_fl (f : Fl) (z : Array Value) (hz : z.size = 20) : Instr.fill (fun i => some (i * 20, 20)) z [(0, flV f)] = some (flL f).toArray := by
  have hc : (flV f).cells = (flL f).toArray := rfl
  have hs : (flL f).toArray.size = 20 := rfl
  unfold Instr.fill
  simp only [Nat.zero_mul, hc, hs, hz, Nat.zero_add, ne_eq, not_true_eq_false, decide_false, Nat.lt_irrefl, Bool.or_self, Bool.false_eq_true, if_false, gt_iff_lt, Instr.fill]
  obtain ⟨h1, h2⟩ := foldl_set_at (flL f) 0 z
  refine congrArg some (Array.ext_getElem? fun j => ?_)
  rw [← Array.foldl_toList]
  simp only [Nat.zero_add] at h2
  simp only [Array.toList_zipIdx]
  rw [h2 j, hz, flL_len0]
  by_cases hj : j < 20
  · rw [if_pos ⟨by omega, hj, hj⟩]; simp
  · rw [if_neg (by omega), Array.getElem?_eq_none (by omega), Array.getElem?_eq_none (by rw [hs]; omega)]

theorem wpList_one38 {ops : Array Oper} {rest : List Oper} {o : Oper} {a : Act} {w : World} {Q : Exit → Act → World → Prop} (hg : o.guard = none) (x : Operand) (f : Fl) (ho : o.op = .buildSlice 43 1 #[(0, x)]) (hx : a.eval x = flV f)
    (h : wpList Try.prog ops Q rest (a.put o.dst (.slice (some ⟨w.heap.size, 0, none⟩) 1 1)) (w.alloc (.cells (flL f).toArray 38))) : wpList Try.prog ops Q (o :: rest) a w := by
  obtain ⟨i, hi, hz, hs, _⟩ := info_parts Try.info38
  refine wpList_buildSlice hg 43 38 1 #[(0, x)] ho (flL f).toArray i (flV fl0) Try.underlying43 hi hz (by rw [hs]; decide) (by rw [hs]; decide) ?_ h
  rw [hs]
  simp only [List.map_toArray, List.map_cons, List.map_nil, hx]
  exact fill_fl f _ (by simp)

theorem wpList_one42 {ops : Array Oper} {rest : List Oper} {o : Oper} {a : Act} {w : World} {Q : Exit → Act → World → Prop} (hg : o.guard = none) (x : Operand) (f : Fl) (ho : o.op = .buildSlice 26 1 #[(0, x)]) (hx : a.eval x = flV f)
    (h : wpList Try.prog ops Q rest (a.put o.dst (.slice (some ⟨w.heap.size, 0, none⟩) 1 1)) (w.alloc (.cells (flL f).toArray 42))) : wpList Try.prog ops Q (o :: rest) a w := by
  obtain ⟨i, hi, hz, hs, _⟩ := info_parts Try.info42
  refine wpList_buildSlice hg 26 42 1 #[(0, x)] ho (flL f).toArray i (flV fl0) Try.underlying26 hi hz (by rw [hs]; decide) (by rw [hs]; decide) ?_ h
  rw [hs]
  simp only [List.map_toArray, List.map_cons, List.map_nil, hx]
  exact fill_fl f _ (by simp)

theorem flL_len (f : Fl) : (flL f).length = 20 := rfl
theorem flats_len : ∀ L : List Fl, (L.flatMap flL).length = L.length * 20
  | [] => rfl
  | f :: L => by rw [List.flatMap_cons, List.length_append, flats_len L, flL_len, List.length_cons]; omega
theorem flL_ones (f : Fl) : ∀ u ∈ flL f, u.oneCell' = true := fun u hu => by
  have := flL_one f
  rw [Array.all_eq_true_iff_forall_mem] at this
  exact this u (by simpa using hu)
theorem flats_one {L : List Fl} : ∀ u ∈ L.flatMap flL, u.oneCell' = true := fun u hu => by
  obtain ⟨f, _, hf⟩ := List.mem_flatMap.1 hu; exact flL_ones f u hf

def FList (L : List Fl) (w : World) (e : Ending) (w' : World) : Prop :=
  ∃ v, e = .returned v ∧ w'.ownsRow w.heap.size 38 20 v L.length (L.flatMap flL) ∧ Off (fun _ => False) w w'

def ListRel (W : World) (L : List Fl) (ov kv : Value) (wr : World) : Prop :=
  ∃ k : Nat, k ≤ 49 ∧ kv = .int .i64 k ∧ wr.ownsRow W.heap.size 38 20 ov (upto ((k : Int) - 1) L).length ((upto ((k : Int) - 1) L).flatMap flL) ∧ Off (fun _ => False) W wr

set_option maxRecDepth 100000 in
set_option maxHeartbeats 4000000 in
theorem list_any {w : World} {tb wb r : Nat} {p : Nat → Option Nat} {kes : List (KEnt FKey)} {clock : Nat} {L : List Fl} (H : TB w tb wb r p kes clock L) :
    Calls Try.prog 14 #[.pointer (some ⟨tb, 0, none⟩)] w (FList L w) := by
  obtain ⟨i0, hi0, hz0, hz1, hz2⟩ := info_parts Try.info38
  have hpl : w.rangeAt tb 1 (plist p) := range_blk H.top 1 (plist p) (fun j v hj => by
    have hj' : j < 49 := by
      rcases Nat.lt_or_ge j 49 with h' | h'
      · exact h'
      · rw [List.getElem?_eq_none (by simp [plist]; omega)] at hj; cases hj
    rw [plist_at p hj'] at hj
    rw [List.getElem?_toArray, tblL_flow wb p r L.length hj']; exact hj)
  have hHP := Lib.hid hpl
  clear hpl
  go_enter Try.func14, Try.ntmps14
  go_wp2_with (first | (refine wpList_load_mid rfl 74 (.tmp 8) rfl tb 1 rfl (plist p) _ hHP.out Try.underlying74 rfl (by kernel_rfl) ?_))
  go_loopw [3, 10] (ListRel w L) (fun _ k _ => 49 - (intOf k).toNat)
  case atStart =>
    refine ⟨0, Nat.zero_le _, rfl, ?_, Off.refl _ _⟩
    have h0 : upto (((0 : Nat) : Int) - 1) L = [] := by
      unfold upto; rw [List.filter_eq_nil_iff]
      intro f hf; have := H.ok.rng f hf; simp; omega
    rw [h0]; exact World.ownsRow_nil _ _ _ _
  case round =>
    obtain ⟨k, hk, rfl, hrow, hO⟩ := hrel
    have H1 := H.off hO (fun _ _ k => k)
    by_cases hlt : k < 49
    · have q1 : (k : Int) < 49 := by omega
      have q0 : (0 : Int) ≤ (k : Int) := by omega
      have hix := index74 wr p hlt
      have hkk : ((k + 1 : Nat) : Int) - 1 = ((k : Int) - 1) + 1 := by omega
      cases hp : p k with
      | none =>
        rw [hp] at hix
        change (Instr.index 74 (.agg (plist p).toArray) (.int .i64 k)).run Try.prog wr = .ok (.pointer none) wr at hix
        have hb : upto (((k + 1 : Nat) : Int) - 1) L = upto ((k : Int) - 1) L := by
          rw [hkk]
          refine upto_same fun f hf e => ?_
          obtain ⟨o, ho, _⟩ := H.one f hf
          rw [show f.id.toNat = k by omega, hp] at ho
          cases ho
        have hnext : wr.ownsRow w.heap.size 38 20 u3 (upto (((k + 1 : Nat) : Int) - 1) L).length ((upto (((k + 1 : Nat) : Int) - 1) L).flatMap flL) := by rw [hb]; exact hrow
        have HN := Lib.hid hnext
        clear hb hp H1 hnext hrow hkk
        go_wp2_with fail
        exact ⟨⟨k + 1, by omega, by go_num, HN.out, hO⟩, by simp [intOf]; omega⟩
      | some o =>
        rw [hp] at hix
        change (Instr.index 74 (.agg (plist p).toArray) (.int .i64 k)).run Try.prog wr = .ok (.pointer (some ⟨o, 0, none⟩)) wr at hix
        obtain ⟨f, hf, he, hfb⟩ := H1.at_ hlt hp
        have hfr : wr.rangeAt o 0 (flL f) := range_blk hfb 0 (flL f) (fun j v hj => by simpa using hj)
        have hb : upto (((k + 1 : Nat) : Int) - 1) L = upto ((k : Int) - 1) L ++ [f] := by
          rw [hkk]; exact upto_snoc H.ok.ids hf (by omega)
        have hUl : (upto ((k : Int) - 1) L).length ≤ 48 := Nat.le_trans (List.length_filter_le _ _) H.ok.few
        have HB := Lib.hid hb
        have HF := Lib.hid hfr
        have hrow1 := hrow.alloc (.cells (flL f).toArray 38)
        have hnew : ∀ j u, (flL f)[j]? = some u → (wr.alloc (.cells (flL f).toArray 38)).cell? ((⟨wr.heap.size, 0, none⟩ : Addr).add j) = some u := fun j u hu => by
          rw [Go.WideShapes.add_plain, Nat.zero_add, (Blk.new wr 38 (flL f).toArray).cell]; simpa using hu
        have hsz := hO.size
        clear hb hp H1 hfr hkk he hfb
        go_wp2_with (first
          | (refine wpList_load_mid rfl 38 (.tmp 17) rfl o 0 rfl (flL f) _ HF.out (show Try.prog.underlying 38 = some (.struct (Try.prog.fieldsOf 38)) by kernel_rfl) rfl (by kernel_rfl) ?_)
          | (refine wpList_one38 rfl (.tmp 18) f rfl rfl ?_)
          | (at_builtin; refine wpList_append_src rfl (.tmp 15) (.tmp 19) 43 rfl w.heap.size 38 i0 (flV fl0) 20 160 Try.underlying43 hi0 hz0 hz1 hz2 rfl (by decide) u3 _ _ rfl hrow1 (.slice (some ⟨wr.heap.size, 0, none⟩) 1 1) 1 (flL f) rfl rfl (.inr ⟨_, _, rfl, hnew⟩) (flL_ones f) (by unfold maxLen; omega) (by omega) (by simp; omega) ?_; intro v4 w4 hown4 hgrow4 hnn4))
        have hO4 : Off (fun i => some i = u3.ownBlock) wr w4 := (((Off.refl (fun _ => False) wr).alloc _).mono (fun _ _ k => k.elim)).step (grown_off hgrow4) (fun i _ e => e)
        have hlow : ∀ i, some i = u3.ownBlock → w.heap.size ≤ i := fun i e => (hrow.lt i e.symm).1
        refine ⟨⟨k + 1, by omega, by go_num, ?_, hO.step hO4 (fun i hi e => by have := hlow i e; omega)⟩, by simp [intOf]; omega⟩
        rw [HB.out, List.length_append, List.flatMap_append]
        simpa using hown4
    · have hkl := Lib.hid (show k = 49 by omega)
      have q1 : ¬ (k : Int) < 49 := by omega
      have hfin : FList L w (.returned u3) wr := ⟨u3, rfl, by rw [hkl.out] at hrow; rw [upto_all H.ok (by omega)] at hrow; exact hrow, hO⟩
      clear hrow H1
      go_wp2_with fail
      go_ret
      exact hfin
end Go.Proofs.Ytbkgjghbmafoeaa
