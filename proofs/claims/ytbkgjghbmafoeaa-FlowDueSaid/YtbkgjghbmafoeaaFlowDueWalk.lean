/- The walk over FlowDue: it returns true and writes nothing that was there. Conditions: the steps' elements are whole numbers. -/
import Derived.Test.YtbkgjghbmafoeaaFlUse
import Derived.Test.YtbkgjghbmafoeaaFlIn
import Derived.Test.YtbkgjghbmafoeaaRxAdd
import Derived.Test.YtbkgjghbmafoeaaRxDues
namespace Go.Proofs.Ytbkgjghbmafoeaa
open Go.RowKit

theorem srtF_perm (L : List Fl) : (srtF L).Perm (L.map ft) := by
  unfold srtF
  induction L.map ft with
  | nil => exact List.Perm.refl _
  | cons x M ih => exact ins_perm.trans (ih.cons x)

theorem due_live_length {now : Int} {L : List Fl} (ok : FOk L) : (dueF now L).length + (liveF now L).length = L.length := by
  have h1 := (perm_live (now := now) (srtF_srt ok.ids) (srtF_perm L)).length_eq
  have h2 : (srtF L).length = L.length := by rw [(srtF_perm L).length_eq, List.length_map]
  have h3 : (dueF now L).length + (dueRest now (srtF L)).length = (srtF L).length := by
    unfold dueF dueIds dueRest
    rw [List.length_map, ← List.length_append, List.takeWhile_append_dropWhile]
  rw [List.length_map] at h1
  omega

theorem due_live_nil {now : Int} {L : List Fl} (ok : FOk L) : dueF now (liveF now L) = [] := by
  refine List.eq_nil_iff_forall_not_mem.2 fun id hid => ?_
  obtain ⟨y, hy, _, h2⟩ := (mem_dueIds (srtF_srt (ok.live now).ids)).1 hid
  obtain ⟨f, hf, rfl⟩ := List.mem_map.1 (srtF_mem.1 hy)
  have := (List.mem_filter.1 hf).2
  simp only [decide_eq_true_eq] at this
  exact this h2

/-- The flows of a list that lies in a row. -/
theorem rowD_at {w : World} {base T : Nat} {v : Value} {L : List Fl} (h : w.ownsRow base T 20 v L.length (L.flatMap flL)) {j : Nat} {f : Fl} (hj : L[j]? = some f) :
    ∃ g cap, v = .slice (some ⟨g, 0, none⟩) L.length cap ∧ w.rangeAt g (j * 20) (flL f) := by
  obtain ⟨hl, ⟨rfl, h0⟩ | ⟨g, cap, cur, rfl, hb, hg, hc, hm, hs, ht⟩⟩ := h
  · have : L = [] := List.eq_nil_of_length_eq_zero h0
    subst this; simp at hj
  · have hB : Blk w g T cur := hg
    refine ⟨g, cap, rfl, fun i v hv => ?_⟩
    have h2 := flats_at' hj i v hv
    rw [← ht, List.getElem?_take] at h2
    split at h2
    · rw [hB.cell]; simpa using h2
    · cases h2

def FDueAll (W : World) (tb rb : Nat) (len : Nat) (iv : Value) (wr : World) : Prop :=
  ∃ (k : Nat) (U : Nat → Prop) (L : List Fl) (v : Value) (g : Option Nat), k ≤ len ∧ iv = .int .i64 k ∧ Tbl wr tb U L ∧ RxAt wr rb v g L ∧ (∀ i, U i → W.heap.size ≤ i) ∧ (∀ i, RxOwn rb g i → W.heap.size ≤ i) ∧ Below W.heap.size W wr

def FDueIn (W : World) (L : List Fl) (iv : Value) (wr : World) : Prop := ∃ j : Nat, j ≤ L.length ∧ iv = .int .i64 j ∧ W = wr

set_option maxRecDepth 100000 in
set_option maxHeartbeats 4000000 in
theorem due_walk (a : Option Addr) (len cap : Nat) (F : Nat → List Int) (now : Int) (w : World) (hin : Elems stepKs w a len F) (hlen : len ≤ 9223372036854775807) :
    Calls Try.prog 3 #[.slice a len cap, .int .i64 now] w fun e w' => e = .returned (.bool true) ∧ Below w.heap.size w w' := by
  by_cases hbig : 512 < len
  · go_enter Try.func3, Try.ntmps3
    go_wp2_with fail
    go_ret
    exact ⟨rfl, Below.refl _ _⟩
  have hbig' : (len : Int) ≤ 512 := by omega
  go_enter Try.func3, Try.ntmps3
  go_wp2_with fail
  refine (fnew_any w).mono ?_
  rintro e w2 ⟨tb, U0, rfl, HT0, hU0, hO0⟩
  have hO3 : Off (fun _ => False) w2 (w2.alloc (.cells #[.slice none 0 0] 28)) := (Off.refl _ _).alloc _
  have HT3 := HT0.off hO3 fun _ _ k => k
  have HR3 := RxAt.new w2
  have hbel3 := below_off (hO0.below (Nat.le_refl _) (fun _ _ h => h)) hO3 (Nat.le_refl _) (fun _ _ k => k)
  have hrbw : w.heap.size ≤ w2.heap.size := hO0.size
  go_wp2_with fail
  generalize w2.alloc (.cells #[.slice none 0 0] 28) = w3 at *
  generalize w2.heap.size = rb at *
  go_loopw [7] (FDueAll w tb rb len) (fun i _ => len - (intOf i).toNat)
  case atStart => exact ⟨0, U0, [], _, _, Nat.zero_le _, rfl, HT3, HR3, hU0, (fun i h => by
    rcases h with rfl | h
    · exact hrbw
    · cases h), hbel3⟩
  case round =>
    clear HT0 HT3 HR3 hbel3 hO0 hO3 hU0
    obtain ⟨k, U, L, v, g, hk, rfl, HT, HR, hU, hR, hbel⟩ := hrel
    have q0 : (0 : Int) ≤ (k : Int) := by omega
    have HU := Lib.hid hU
    have HRo := Lib.hid hR
    have ok := Lib.hid HT.ok
    clear hU hR
    by_cases hlt : k < len
    · have q1 : (k : Int) < (len : Int) := by omega
      obtain ⟨b, off, rfl, hbl, _, _, _, _, hrg⟩ := step_range hin hbel hlt
      have HRg := Lib.hid hrg
      clear hrg
      obtain ⟨s, hs⟩ : ∃ s, s = flAt (F k) 4 := ⟨_, rfl⟩
      rw [← hs] at HRg
      have HS := Lib.hid hs
      clear hs
      go_wp2_with (first | (refine wpList_ldf (by rfl) (.tmp 28) rfl b (off + k * 24 + 4) rfl s HRg.out ?_))
      refine (fadd_any s HT).mono ?_
      rintro e w5 ⟨U5, rfl, HT5, hO5, hU5⟩
      have HR5 := HR.off hO5 (HT.apart HR)
      have hbel5 := below_off hbel hO5 (Nat.le_refl _) (fun i hi k => by have := HU.out i k; omega)
      obtain ⟨b', off', hbo, _, _, _, _, _, hrg5⟩ := step_range hin hbel5 hlt
      simp only [Option.some.injEq, Addr.mk.injEq, and_true] at hbo
      obtain ⟨rfl, rfl⟩ := hbo
      rw [← HS.out] at hrg5
      have HRg5 := Lib.hid hrg5
      have HU5 := Lib.hid (show ∀ i, U5 i → w.heap.size ≤ i from fun i hi => by
        rcases hU5 i hi with h | h
        · exact HU.out i h
        · exact Nat.le_trans hbel.size h)
      have hxa := xadd_any s HR5 ok.out
      clear hrg5 hU5
      unfold addV
      go_wp2_with (first | (refine wpList_ldf (by rfl) (.tmp 35) rfl b (off + k * 24 + 4) rfl s HRg5.out ?_))
      refine hxa.mono ?_
      rintro e w6 ⟨v6, g6, rfl, HR6, hO6, hg6⟩
      have hrbU : ∀ i, U5 i → ¬ i = rb := fun i hi e => HT5.apart HR5 rb (.inl rfl) (e ▸ hi)
      have HT6 := HT5.off hO6 hrbU
      have hbel6 := below_off hbel5 hO6 (Nat.le_refl _) (fun i hi e => by have := HRo.out rb (.inl rfl); omega)
      have HFin := Lib.hid (show FDueAll w tb rb len (.int .i64 ((k + 1 : Nat) : Int)) w6 from ⟨k + 1, U5, _, v6, g6, hlt, rfl, HT6, HR6, HU5.out, (by
        rintro i (rfl | hi)
        · exact HRo.out _ (.inl rfl)
        · rcases hg6 with rfl | h
          · exact HRo.out _ (.inr hi)
          · exact Nat.le_trans hbel5.size (h i hi)), hbel6⟩)
      clear hxa HR6 HT6 hO6 hg6 hrbU
      unfold addV
      go_wp2_with fail
      exact ⟨by simpa using HFin.out, by simp [intOf]; omega⟩
    · have q1 : ¬ (k : Int) < (len : Int) := by omega
      have hok := ok.out
      have hL48 : L.length ≤ 48 := hok.few
      have HBel := Lib.hid hbel
      have HRR := Lib.hid HR
      have HTT := Lib.hid HT
      obtain ⟨wb5, r5, S5, p5, kes5, clock5, T5, TB5, _, _, _, _⟩ := id HT
      clear hbel HR hok
      go_wp2_with fail
      refine (list_any TB5).mono ?_
      rintro e w4 ⟨v4, rfl, hrow4, hO4⟩
      obtain ⟨a4, cap4, hv4⟩ := own_shape hrow4
      subst hv4
      have HT4 := HTT.out.off hO4 fun _ _ k => k
      have HR4 := Lib.hid (HRR.out.off hO4 fun _ _ k => k)
      have HBel4 := Lib.hid (below_off HBel.out hO4 (Nat.le_refl _) (fun _ _ k => k))
      obtain ⟨ar, capr, hvr, _⟩ := HR4.out.row.form
      subst hvr
      have c4 : w4.cell? ⟨rb, 0, none⟩ = some (.slice ar L.length capr) := HR4.out.top.cell 0
      have hne : ((L.length : Int) != (L.length : Int)) = false := by simp
      clear hrow4 hO4 TB5 HT
      go_wp2_with fail
      refine (fdue_any now HT4).mono ?_
      rintro e w5 ⟨U5, v5, rfl, hrow5, HT5, hO5, hU5⟩
      have HR5 := Lib.hid (HR4.out.off hO5 (HT4.apart HR4.out))
      have HBel5 := Lib.hid (below_off HBel4.out hO5 (Nat.le_refl _) (fun i hi k => by have := HU.out i k; omega))
      have HU5 := Lib.hid (show ∀ i, U5 i → w.heap.size ≤ i from fun i hi => HU.out i (hU5 i hi))
      have HRow5 := Lib.hid hrow5
      have HTT5 := Lib.hid HT5
      obtain ⟨wb6, r6, S6, p6, kes6, clock6, T6, TB6, _, _, _, _⟩ := id HT5
      clear hrow5 hO5 hU5 HT4 c4 HT5
      go_wp2_with fail
      refine (list_any TB6).mono ?_
      rintro e w6 ⟨v6, rfl, hrow6, hO6⟩
      obtain ⟨a6, cap6, hv6⟩ := own_shape hrow6
      subst hv6
      have HT6 := Lib.hid (HTT5.out.off hO6 fun _ _ k => k)
      have HR6 := Lib.hid (HR5.out.off hO6 fun _ _ k => k)
      have HBel6 := Lib.hid (below_off HBel5.out hO6 (Nat.le_refl _) (fun _ _ k => k))
      have hrow56 := ownsRow_off HRow5.out hO6 (fun _ _ k => k)
      have HRow56 := Lib.hid hrow56
      have HRow6 := Lib.hid hrow6
      obtain ⟨a5, cap5, hv5, _⟩ := ownsRow_form hrow56
      subst hv5
      have hsum := due_live_length (now := now) ok.out
      have hnil := due_live_nil (now := now) ok.out
      have hxd := xdue_any now HR6.out ok.out
      have hlv : ∀ f ∈ liveF now L, ¬ f.ends ≤ now := fun f hf => by simpa using (List.mem_filter.1 hf).2
      have HLv := Lib.hid hlv
      have hrb0 : w.heap.size ≤ rb := HRo.out rb (.inl rfl)
      obtain ⟨D, hD⟩ : ∃ D, dueF now L = D := ⟨_, rfl⟩
      obtain ⟨M, hM⟩ : ∃ M, liveF now L = M := ⟨_, rfl⟩
      have HD := Lib.hid hD
      have HM := Lib.hid hM
      rw [hM] at hnil hlv HRow6 HT6 hsum HLv ⊢
      rw [hD] at hsum HRow56 ⊢
      have HNil := Lib.hid hnil
      have hD48 : (D.length : Int) ≤ 48 := by omega
      have hM48 : (M.length : Int) ≤ 48 := by omega
      have hsb : ((D.length : Int) + (M.length : Int) != (L.length : Int)) = false := by simp; omega
      clear hrow6 hO6 hrow56 TB6 hlv hD hM hnil
      go_wp2_with fail
      refine hxd.mono ?_
      rintro e w7 ⟨v7, v7', g7, rfl, hrow7, HR7, hO7, hg7⟩
      rw [HD.out] at hrow7
      have HT7 := Lib.hid (HT6.out.off hO7 (fun i hi e => HT6.out.apart HR6.out rb (.inl rfl) (e ▸ hi)))
      have HBel7 := Lib.hid (below_off HBel6.out hO7 (Nat.le_refl _) (fun i hi e => by omega))
      have hrow57 := ownsRow_off HRow56.out hO7 (fun g' hg' e => by obtain ⟨cur, hb⟩ := ownsRow_blk HRow56.out hg'; exact absurd e (blk_ne hb HR6.out.top (by decide)))
      have hrow67 := ownsRow_off HRow6.out hO7 (fun g' hg' e => by obtain ⟨cur, hb⟩ := ownsRow_blk HRow6.out hg'; exact absurd e (blk_ne hb HR6.out.top (by decide)))
      have HRow67 := Lib.hid hrow67
      have hsame := same16_any (IRow.of_own hrow57) (IRow.of_own hrow7)
      clear hxd hrow7 HR7 hO7 hg7 hrow57 hrow67
      go_wp2_with fail
      refine hsame.mono ?_
      rintro e w8 ⟨rfl, hO8⟩
      rw [decide_eq_true rfl]
      have HT8 := HT7.out.off hO8 (fun _ _ k => k)
      have HBel8 := Lib.hid (below_off HBel7.out hO8 (Nat.le_refl _) (fun _ _ k => k))
      have HRow8 := Lib.hid (ownsRow_off HRow67.out hO8 (fun _ _ k => k))
      have hdn := fdue_any now HT8
      clear hsame hO8 HT8
      go_wp2_with fail
      go_loopw [11] (FDueIn w8 M) (fun i _ => M.length - (intOf i).toNat)
      case atStart => exact ⟨0, Nat.zero_le _, rfl, rfl⟩
      case round =>
        obtain ⟨j, hj, rfl, hw⟩ := hrel
        subst hw
        have p0 : (0 : Int) ≤ (j : Int) := by omega
        by_cases hjl : j < M.length
        · have p1 : (j : Int) < (M.length : Int) := by omega
          obtain ⟨f, hf⟩ : ∃ f, M[j]? = some f := ⟨M[j], List.getElem?_eq_getElem hjl⟩
          obtain ⟨g8, cap8, hv8, hrg8⟩ := rowD_at HRow8.out hf
          simp only [Value.slice.injEq, true_and] at hv8
          obtain ⟨rfl, rfl⟩ := hv8
          have e19 : w8.cell? ⟨g8, j * 20 + 19, none⟩ = some (.int .i64 f.ends) := hrg8 19 _ rfl
          have hle : decide (f.ends ≤ now) = false := decide_eq_false (by have := HLv.out f (List.mem_of_getElem? hf); omega)
          clear hf hrg8 hdn
          go_wp2_with fail
          exact ⟨⟨j + 1, hjl, by go_num, rfl⟩, by simp [intOf]; omega⟩
        · have p1 : ¬ (j : Int) < (M.length : Int) := by omega
          go_wp2_with fail
          refine hdn.mono ?_
          rintro e w9 ⟨U9, v9, rfl, hrow9, HT9, hO9, hU9⟩
          rw [HNil.out] at hrow9
          have hbel9 := Lib.hid (below_off HBel8.out hO9 (Nat.le_refl _) (fun i hi k => by have := HU5.out i k; omega))
          obtain ⟨a9, cap9, hv9, _⟩ := ownsRow_form hrow9
          subst hv9
          clear hdn hrow9 HT9 hO9 hU9
          go_wp2_with fail
          go_ret
          exact ⟨rfl, hbel9.out⟩

theorem flowDue_walk (a : Option Addr) (len cap : Nat) (F : Nat → List Int) (now : Int) (w : World) (hin : Elems stepKs w a len F) (hm : len ≤ maxLen) (_ : (Lit.int .i64 now).wf = true) :
    Calls Try.prog 3 #[.slice a len cap, .int .i64 now] w fun e w' => e = .returned (.bool true) ∧ Below w.heap.size w w' :=
  due_walk a len cap F now w hin (by unfold maxLen at hm; omega)
end Go.Proofs.Ytbkgjghbmafoeaa
