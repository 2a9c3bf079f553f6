/- The walk over WheelTwice: it returns true and writes nothing that was there. Conditions: the slices' elements are ints. -/
import Derived.Test.YtbkgjghbmafoeaaWheelTwicePure
import Derived.Test.YtbkgjghbmafoeaaWUse
namespace Go.Proofs.Ytbkgjghbmafoeaa
open Go.RowKit

theorem setR_det {L L1 L2 : List Tm} {id t e1 e2 : Int} (h1 : SetR L id t L1 e1) (h2 : SetR L id t L2 e2) : L2 = L1 ∧ e2 = e1 := by
  rcases h1 with ⟨a1, b1, c1⟩ | ⟨a1, b1, c1, d1⟩ <;> rcases h2 with ⟨a2, b2, c2⟩ | ⟨a2, b2, c2, d2⟩
  · exact ⟨by rw [b1, b2], by rw [c1, c2]⟩
  · rcases a1 with ⟨y, hy, he⟩ | h
    · exact absurd he (a2 y hy)
    · omega
  · rcases a2 with ⟨y, hy, he⟩ | h
    · exact absurd he (a1 y hy)
    · omega
  · exact ⟨by rw [c1, c2], by rw [d1, d2]⟩

theorem own_src {w : World} {base T sz n : Nat} {v : Value} {xs : List Value} (h : w.ownsRow base T sz v n xs) (hsz : xs.length = n * sz) : Src w v n xs := by
  obtain ⟨hl, ⟨rfl, h0⟩ | ⟨g, cap, cur, rfl, _, hg, hc, hm, hs, ht⟩⟩ := h
  · subst h0; exact .inl ⟨rfl, rfl, List.eq_nil_of_length_eq_zero (by omega)⟩
  · refine .inr ⟨_, _, rfl, fun j u hu => ?_⟩
    rw [Go.WideShapes.add_plain, Nat.zero_add]
    rw [← ht, List.getElem?_take] at hu
    split at hu
    · simp [World.cell?, hg]; simpa using hu
    · cases hu

theorem ik_one (l : List Int) : ∀ u ∈ l.map ik, u.oneCell' = true := fun u hu => by
  obtain ⟨x, _, rfl⟩ := List.mem_map.1 hu; rfl

def TwRel (W : World) (wa wb rb m : Nat) (i : Value) (wr : World) : Prop :=
  ∃ (k : Nat) (Sa Sb : Nat → Prop) (L : List Tm) (v : Value) (g : Option Nat), k ≤ m ∧ i = .int .i64 k ∧ Whl wr wa Sa L ∧ Whl wr wb Sb L ∧ RfAt wr rb v g L ∧ (∀ i, Sa i → W.heap.size ≤ i) ∧ (∀ i, Sb i → W.heap.size ≤ i) ∧ (∀ i, Sa i → ¬ Sb i) ∧
    (∀ i, g = some i → W.heap.size ≤ i) ∧ Below W.heap.size W wr

set_option maxRecDepth 100000 in
set_option maxHeartbeats 4000000 in
theorem twice_walk (a : Option Addr) (len cap : Nat) (zs : List Int) (a' : Option Addr) (len' cap' : Nat) (us : List Int) (now later : Int) (w : World) (hin : Ints .i64 w a len (-9223372036854775808) 9223372036854775807 zs) (hin' : Ints .i64 w a' len' (-9223372036854775808) 9223372036854775807 us)
    (hlen : len ≤ 9223372036854775807) (hlen' : len' ≤ 9223372036854775807) :
    Calls Try.prog 5 #[.slice a len cap, .slice a' len' cap', .int .i64 now, .int .i64 later] w fun e w' => e = .returned (.bool true) ∧ Below w.heap.size w w' := by
  by_cases hbig : 4096 < len
  · go_enter Try.func5, Try.ntmps5
    go_wp2
    go_ret
    exact ⟨rfl, Below.refl _ _⟩
  by_cases hlat : later < now
  · go_enter Try.func5, Try.ntmps5
    go_wp2
    go_ret
    exact ⟨rfl, Below.refl _ _⟩
  have hnl : now ≤ later := by omega
  obtain ⟨m, hm⟩ : ∃ m, min len len' = m := ⟨_, rfl⟩
  have hm1 : m ≤ len := by omega
  have hm2 : m ≤ len' := by omega
  have hm3 : m = len ∨ m = len' := by omega
  clear hm
  go_enter Try.func5, Try.ntmps5
  go_wp2_with fail
  refine (wnew_any w).mono ?_
  rintro e wA ⟨wa, Sa, rfl, hA, hSa, _, hOA⟩
  go_wp2_with fail
  refine (wnew_any wA).mono ?_
  rintro e w1 ⟨wb, Sb, rfl, hB, hSb, _, hO1⟩
  have hR2 := RfAt.new w1
  have hA2 := (hA.off hO1 (fun _ _ k => k)).off ((Off.refl (fun _ => False) w1).alloc (.cells #[.slice none 0 0] 60)) (fun _ _ k => k)
  have hB2 := hB.off ((Off.refl (fun _ => False) w1).alloc (.cells #[.slice none 0 0] 60)) (fun _ _ k => k)
  have hbel1 := below_off (below_off (hOA.below (Nat.le_refl _) (fun _ _ h => h)) hO1 (Nat.le_refl _) (fun _ _ h => h)) ((Off.refl (fun _ => False) w1).alloc (.cells #[.slice none 0 0] 60)) (Nat.le_refl _) (fun _ _ h => h)
  have hrb : w.heap.size ≤ w1.heap.size := Nat.le_trans hOA.size hO1.size
  have hSb' : ∀ i, Sb i → w.heap.size ≤ i := fun i k => Nat.le_trans hOA.size (hSb i k)
  have hSab : ∀ i, Sa i → ¬ Sb i := fun i k k' => by have := hSb i k'; have := hA.lt k; omega
  go_upto_block 0 with fail
  generalize hrbx : w1.heap.size = rb at *
  generalize w1.alloc (.cells #[.slice none 0 0] 60) = w2 at *
  go_cut [12] (fun s12 wx => TwRel w wa wb rb m (.int .i64 m) wx)
  case first =>
    go_wp2_with fail
    go_loopw [12] (TwRel w wa wb rb m) (fun i _ => m - (intOf i).toNat)
    case atStart => exact ⟨0, Sa, Sb, [], _, none, Nat.zero_le _, rfl, hA2, hB2, hR2, hSa, hSb', hSab, (fun i h => by cases h), hbel1⟩
    case round =>
      clear hA hB hA2 hB2 hSa hSb hSb' hSab hR2 hbel1 hO1 hOA
      obtain ⟨k, Sa, Sb, L, v, g, hk, rfl, hA, hB, hR, hSa, hSb, hSab, hg, hbel⟩ := hrel
      have q0 : (0 : Int) ≤ (k : Int) := by omega
      by_cases hlt : k < m
      · have q1 : (k : Int) < (len : Int) := by omega
        have q2 : (k : Int) < (len' : Int) := by omega
        obtain ⟨bx, off, rfl, hbx, hc0, _, _⟩ := hin.2 k (by omega)
        obtain ⟨by_, off', rfl, hby, hc0', _, _⟩ := hin'.2 k (by omega)
        have hc := (hbel.cell (p := ⟨bx, off + k, none⟩) hbx).trans hc0
        have hc' := (hbel.cell (p := ⟨by_, off' + k, none⟩) hby).trans hc0'
        clear hc0 hc0'
        generalize zs.getD k 0 = z at *
        generalize us.getD k 0 = u at *
        have hbxr := Nat.lt_of_lt_of_le hbx hbel.size
        have hbyr := Nat.lt_of_lt_of_le hby hbel.size
        have hbn1 : bx ≠ rb := by omega
        have hbn2 : by_ ≠ rb := by omega
        have hna1 : ¬ Sa bx := fun k => by have := hSa bx k; omega
        have hna2 : ¬ Sa by_ := fun k => by have := hSa by_ k; omega
        have hnb1 : ¬ Sb bx := fun k => by have := hSb bx k; omega
        have hnb2 : ¬ Sb by_ := fun k => by have := hSb by_ k; omega
        have hapA := hA.apart hR
        go_wp2_with fail
        go_region_held3 (fun w' => w'.cell? ⟨bx, off + k, none⟩ = some (.int .i64 z) ∧ w'.cell? ⟨by_, off' + k, none⟩ = some (.int .i64 u)) (first | exact ⟨hc, hc'⟩ | exact ⟨d1, d2⟩)
          (first | (go_at_call 28; refine (wset_any z u (hA.off ((Off.refl (fun _ => False) wr).drew) (fun _ _ k => k))).mono ?_; rintro e w2 ⟨S2, L2, er, rfl, hSR, hA2, hO2, hS2⟩; have d1 := (hO2.cell (p := ⟨bx, off + k, none⟩) hbxr hna1).trans hc; have d2 := (hO2.cell (p := ⟨by_, off' + k, none⟩) hbyr hna2).trans hc'))
        have hbel2 := below_off hbel.drew hO2 (Nat.le_refl _) (fun i hi k => by have := hSa i k; omega)
        have hwr := hbel.size
        have hS2' : ∀ i, S2 i → w.heap.size ≤ i := fun i k => (hS2 i k).elim (hSa i) (fun k => by simp at k; omega)
        have hB2 := (hB.off ((Off.refl (fun _ => False) wr).drew) (fun _ _ k => k)).off hO2 (fun i k k' => hSab i k' k)
        have hR2 := (hR.off ((Off.refl (fun _ => False) wr).drew) (fun _ _ k => k)).off hO2 hapA
        have hSab2 : ∀ i, S2 i → ¬ Sb i := fun i k k' => (hS2 i k).elim (fun k => hSab i k k') (fun k => by have := hB.lt k'; simp at k; omega)
        have hsz2 := hO2.size
        have hsz2' : wr.heap.size ≤ w2.heap.size := by simpa using hsz2
        have hapB := hB2.apart hR2
        have HSR := Lib.hid hSR
        clear hc hc' hSR hA hB hR
        go_wp2_with fail
        go_region_held3 (fun w' => w'.cell? ⟨bx, off + k, none⟩ = some (.int .i64 z) ∧ w'.cell? ⟨by_, off' + k, none⟩ = some (.int .i64 u)) (first | exact ⟨d1, d2⟩ | exact ⟨e1, e2⟩)
          (first | (go_at_call 28; refine (wset_any z u (hB2.off ((Off.refl (fun _ => False) w2).drew) (fun _ _ k => k))).mono ?_; rintro e w3 ⟨S3, L3, er3, rfl, hSR3, hB3, hO3, hS3⟩; obtain ⟨rfl, rfl⟩ := setR_det HSR.out hSR3; have e1 := (hO3.cell (p := ⟨bx, off + k, none⟩) (Nat.lt_of_lt_of_le hbxr hsz2') hnb1).trans d1; have e2 := (hO3.cell (p := ⟨by_, off' + k, none⟩) (Nat.lt_of_lt_of_le hbyr hsz2') hnb2).trans d2))
        have hbel3 := below_off hbel2.drew hO3 (Nat.le_refl _) (fun i hi k => by have := hSb i k; omega)
        have hS3' : ∀ i, S3 i → w.heap.size ≤ i := fun i k => (hS3 i k).elim (hSb i) (fun k => by simp at k; omega)
        have hA3 := (hA2.off ((Off.refl (fun _ => False) w2).drew) (fun _ _ k => k)).off hO3 (fun i k k' => hSab2 i k k')
        have hR3 := (hR2.off ((Off.refl (fun _ => False) w2).drew) (fun _ _ k => k)).off hO3 hapB
        have hSab3 : ∀ i, S2 i → ¬ S3 i := fun i k k' => (hS3 i k').elim (fun k' => hSab2 i k k') (fun k' => by have := hA2.lt k; simp at k'; omega)
        have hsz3 := hO3.size
        have hsz3' : w2.heap.size ≤ w3.heap.size := by simpa using hsz3
        clear d1 d2 hSR3 hA2 hB2 hR2
        go_wp2_with fail
        go_region_held3 (fun w' => w'.cell? ⟨bx, off + k, none⟩ = some (.int .i64 z) ∧ w'.cell? ⟨by_, off' + k, none⟩ = some (.int .i64 u)) (first | exact ⟨e1, e2⟩ | exact ⟨f1, f2⟩)
          (first | (go_at_call 29; refine (rset_any z u (hR3.off ((Off.refl (fun _ => False) w3).drew) (fun _ _ k => k))).mono ?_; rintro e w4 ⟨v4, g4, L4, er4, rfl, hSR4, hR4, hO4, hg4⟩; obtain ⟨rfl, rfl⟩ := setR_det HSR.out hSR4; have f1 := (hO4.cell (p := ⟨bx, off + k, none⟩) (Nat.lt_of_lt_of_le hbxr (Nat.le_trans hsz2' hsz3')) (fun k => hbn1 k)).trans e1; have f2 := (hO4.cell (p := ⟨by_, off' + k, none⟩) (Nat.lt_of_lt_of_le hbyr (Nat.le_trans hsz2' hsz3')) (fun k => hbn2 k)).trans e2))
        have hbel4 := below_off hbel3.drew hO4 (Nat.le_refl _) (fun i hi k => by omega)
        have hA4 := (hA3.off ((Off.refl (fun _ => False) w3).drew) (fun _ _ k => k)).off hO4 (fun i hi => hA3.apart' hR3 i hi)
        have hB4 := (hB3.off ((Off.refl (fun _ => False) w3).drew) (fun _ _ k => k)).off hO4 (fun i hi => hB3.apart' hR3 i hi)
        have hg4' : ∀ i, g4 = some i → w.heap.size ≤ i := fun i hi => by
          rcases hg4 with h | h
          · rw [h] at hi; exact hg i hi
          · have := h i hi; simp at this; omega
        clear e1 e2 f1 f2 hSR4 hA3 hB3 hR3
        go_wp2
        exact ⟨⟨k + 1, S2, S3, _, v4, g4, by omega, by go_num, hA4, hB4, hR4, hS2', hS3', hSab3, hg4', hbel4⟩, by simp [intOf]; omega⟩
      · obtain rfl : m = k := by omega
        have hend : TwRel w wa wb rb m (.int .i64 m) wr := ⟨m, Sa, Sb, L, v, g, hk, rfl, hA, hB, hR, hSa, hSb, hSab, hg, hbel⟩
        by_cases hkl : m < len
        · have q1 : (m : Int) < (len : Int) := by omega
          have q2 : ¬ (m : Int) < (len' : Int) := by omega
          go_wp2_with fail
          go_meet
          exact hend
        · have q1 : ¬ (m : Int) < (len : Int) := by omega
          go_wp2_with fail
          go_meet
          exact hend
  case rest =>
    clear hA hB hA2 hB2 hSa hSb hSb' hSab hR2 hbel1 hO1 hOA
    obtain ⟨k, Sa, Sb, L, v, g, hk, _, hA, hB, hR, hSa, hSb, hSab, hg, hbel⟩ := hcut
    obtain ⟨i0, hi0, hz0, hz1, hz2⟩ := info_parts Try.info3
    have hown0 := World.ownsRow_made wc (e := 3) (size := 1) #[] 0 (Nat.le_refl _) (by decide) rfl
    have hO0 := (Off.refl (fun _ => False) wc).alloc (.cells #[] 3)
    have hA0 := hA.off hO0 (fun _ _ k => k)
    have hB0 := hB.off hO0 (fun _ _ k => k)
    have hR0 := hR.off hO0 (fun _ _ k => k)
    have hbel0 := below_off hbel hO0 (Nat.le_refl _) (fun _ _ k => k)
    have hbw := hbel.size
    have hLs := hA.few
    obtain ⟨T, hT⟩ : ∃ T, dueRest later L = T := ⟨_, rfl⟩
    obtain ⟨D, hD⟩ : ∃ D, dueIds later L = D := ⟨_, rfl⟩
    obtain ⟨hd1, hd2⟩ := due_twice hnl hLs.2
    rw [hD] at hd1
    rw [hT] at hd2
    have hDl : D.length ≤ 256 := by rw [← hD, dueIds, List.length_map]; exact Nat.le_trans (List.takeWhile_prefix _).length_le hLs.1
    have hd1l : (dueIds now L).length ≤ 256 := by rw [dueIds, List.length_map]; exact Nat.le_trans (List.takeWhile_prefix _).length_le hLs.1
    have hd3l : (dueIds later (dueRest now L)).length ≤ 256 := by
      have := congrArg List.length hd1; rw [List.length_append] at this; omega
    have HT := Lib.hid hT
    have HD := Lib.hid hD
    have H1 := Lib.hid hd1
    have H2 := Lib.hid hd2
    clear hT hD hd1 hd2
    go_wp2_with fail
    refine (wdue_any now hA0).mono ?_
    rintro e w3 ⟨S3, v3, rfl, hrow3, hA3, hO3, hS3⟩
    have hN0 : wc.heap.size < (wc.alloc (.cells #[] 3)).heap.size := by simp
    have hown3 := ownsRow_off hown0 hO3 (fun g' hg' e => by
      have h1 : wc.heap.size = g' := by simpa [Value.ownBlock] using hg'
      have := hA.lt e; omega)
    have hsrc3 := own_src hrow3 (by simp)
    have hB3 := hB0.off hO3 (fun i k k' => hSab i k' k)
    have hR3 := hR0.off hO3 (hA0.apart hR0)
    have hbel3 := below_off hbel0 hO3 (Nat.le_refl _) (fun i hi k => by have := hSa i k; omega)
    have hsz3 := hO3.size
    have hbw3 : wc.heap.size ≤ w3.heap.size := by omega
    go_wp2_with (first
      | (at_builtin; refine wpList_append_src rfl (.tmp 70) (.tmp 73) 45 rfl wc.heap.size 3 i0 (.int .i64 0) 1 8 Try.underlying45 hi0 hz0 hz1 hz2 rfl (by decide) (.slice (some ⟨wc.heap.size, 0, none⟩) 0 0) 0 [] rfl hown3 v3 (dueIds now L).length ((dueIds now L).map ik) rfl (by simp) hsrc3 (ik_one _) (by unfold maxLen; omega) (by omega) (by omega) ?_; intro v4 w4 hown4 hgrow4 hnn4; clear hsrc3 hrow3 hown3))
    have hNeq : ∀ i, some i = (Value.slice (some ⟨wc.heap.size, 0, none⟩) 0 0).ownBlock → i = wc.heap.size := fun i e => by simpa [Value.ownBlock] using e
    have hO4 : Off (· = wc.heap.size) w3 w4 := (grown_off hgrow4).mono (fun i _ e => hNeq i e)
    clear hgrow4 hnn4 hNeq
    have hA4 := hA3.off hO4 (fun i hi e => by have := hA.lt (hS3 i hi); omega)
    have hB4 := hB3.off hO4 (fun i hi e => by have := hB.lt hi; omega)
    have hR4 := hR3.off hO4 (fun i hi e => by have := hR.lt hi; omega)
    have hbel4 := below_off hbel3 hO4 (Nat.le_refl _) (fun i hi k => by omega)
    have hsz4 := hO4.size
    have hl4 := Lib.hid hown4.lt
    refine (wdue_any later hA4).mono ?_
    rintro e w5 ⟨S5, v5, rfl, hrow5, hA5, hO5, hS5⟩
    have hown5 := ownsRow_off hown4 hO5 (fun g' hg' e => by have := (hl4.out g' hg').1; have := hA.lt (hS3 g' e); omega)
    have hsrc5 := own_src hrow5 (by simp)
    have hap4 := hA4.apart hR4
    have hB5 := hB4.off hO5 (fun i k k' => hSab i (hS3 i k') k)
    have hR5 := hR4.off hO5 hap4
    have hbel5 := below_off hbel4 hO5 (Nat.le_refl _) (fun i hi k => by have := hSa i (hS3 i k); omega)
    have hsz5 := hO5.size
    clear hown4 hrow5
    go_wp2_with (first
      | (at_builtin; refine wpList_append_src rfl (.tmp 75) (.tmp 78) 45 rfl wc.heap.size 3 i0 (.int .i64 0) 1 8 Try.underlying45 hi0 hz0 hz1 hz2 rfl (by decide) v4 _ _ rfl hown5 v5 (dueIds later (dueRest now L)).length ((dueIds later (dueRest now L)).map ik) rfl (by simp) hsrc5 (ik_one _) (by unfold maxLen; omega) (by omega) (by omega) ?_; intro v6 w6 hown6 hgrow6 hnn6; clear hsrc5 hown5))
    have hO6 : Off (fun i => some i = v4.ownBlock) w5 w6 := grown_off hgrow6
    have hlow := Lib.hid (show ∀ i, some i = v4.ownBlock → wc.heap.size ≤ i from fun i e => (hl4.out i e.symm).1)
    clear hgrow6 hnn6
    have hA6 := hA5.off hO6 (fun i hi e => by have := hlow.out i e; have := hA.lt (hS3 i (hS5 i hi)); omega)
    have hB6 := hB5.off hO6 (fun i hi e => by have := hlow.out i e; have := hB.lt hi; omega)
    have hR6 := hR5.off hO6 (fun i hi e => by have := hlow.out i e; have := hR.lt hi; omega)
    have hbel6 := below_off hbel5 hO6 (Nat.le_refl _) (fun i hi k => by have := hlow.out i k; omega)
    have hown6' : w6.ownsRow wc.heap.size 3 1 v6 D.length (D.map ik) := by
      have h1 := hown6
      rw [show 0 + (dueIds now L).length + (dueIds later (dueRest now L)).length = D.length by rw [← H1.out, List.length_append]; omega, List.nil_append, ← List.map_append, H1.out] at h1
      exact h1
    have hl6 := Lib.hid hown6'.lt
    clear hown6 hl4
    refine (wdue_any later hB6).mono ?_
    rintro e w7 ⟨S7, v7, rfl, hrow7, hB7, hO7, hS7⟩
    rw [H2.out] at hA6
    rw [HD.out] at hrow7
    rw [HT.out] at hB7
    have hA7 := hA6.off hO7 (fun i k k' => hSab i (hS3 i (hS5 i k)) k')
    have hR7 := hR6.off hO7 (hB6.apart hR6)
    have hbel7 := below_off hbel6 hO7 (Nat.le_refl _) (fun i hi k => by have := hSb i k; omega)
    have hI6 : IRow w7 v6 D := IRow.of_own (ownsRow_off hown6' hO7 (fun g' hg' e => by have := (hl6.out g' hg').1; have := hB.lt e; omega))
    have hI7 : IRow w7 v7 D := IRow.of_own hrow7
    have hrb7 : ∀ b off n c, v7 = .slice (some ⟨b, off, none⟩) n c → ¬ b = rb := fun b off n c e1 e2 => by
      have := own_row_at hrow7 e1; have := hR6.top.lt; omega
    have hI6d := hI6.off (Off.refl (fun _ => False) w7).drew (fun _ _ _ _ _ k => k)
    have hI7d := hI7.off (Off.refl (fun _ => False) w7).drew (fun _ _ _ _ _ k => k)
    have hA7d := hA7.off (Off.refl (fun _ => False) w7).drew (fun _ _ k => k)
    have hB7d := hB7.off (Off.refl (fun _ => False) w7).drew (fun _ _ k => k)
    have hR7d := hR7.off (Off.refl (fun _ => False) w7).drew (fun _ _ k => k)
    clear hown6' hrow7 hI6 hI7
    go_wp2_with fail
    go_region_with (first
      | (go_at_call 31; ((with_reducible refine (same31_any hI6d hI7d).mono ?_); rintro e w8 ⟨rfl, hO8⟩; rw [decide_eq_true rfl]; have hR8 := hR7d.off hO8 (fun _ _ k => k); have hA8 := hA7d.off hO8 (fun _ _ k => k); have hB8 := hB7d.off hO8 (fun _ _ k => k); have hI8 := hI7d.off hO8 (fun _ _ _ _ _ k => k)))
      | (go_at_call 32; ((with_reducible refine (rdue_any later hR8).mono ?_); rintro e w9 ⟨v9, v9', rfl, hrow9, hR9, hO9⟩; rw [HD.out] at hrow9; rw [HT.out] at hR9; have hI9 := hI8.off hO9 hrb7; have hI9' := IRow.of_own hrow9; have hA9 := hA8.off hO9 (fun i hi => hA8.apart' hR8 i hi); have hB9 := hB8.off hO9 (fun i hi => hB8.apart' hR8 i hi)))
      | (go_at_call 31; ((with_reducible refine (same31_any hI9 hI9').mono ?_); rintro e w10 ⟨rfl, hO10⟩; rw [decide_eq_true rfl]; have hR10 := hR9.off hO10 (fun _ _ k => k); have hA10 := hA9.off hO10 (fun _ _ k => k); have hB10 := hB9.off hO10 (fun _ _ k => k); obtain ⟨a9, cap9, hv9, _⟩ := hR10.row.form; subst hv9; have c10 := hR10.top.cell 0; simp only [List.getElem?_toArray, List.getElem?_cons_zero] at c10))
      | (go_at_call 33; ((with_reducible refine (wlen_any hA10).mono ?_); rintro e w11 ⟨rfl, rfl⟩))
      | (go_at_call 33; ((with_reducible refine (wlen_any hB10).mono ?_); rintro e w11 ⟨rfl, rfl⟩)))
    all_goals
      have hbel8 := below_off hbel7.drew hO8 (Nat.le_refl _) (fun _ _ k => k)
      have hbel9 := below_off hbel8 hO9 (Nat.le_refl _) (fun i hi k => by omega)
      have hbel10 := below_off hbel9 hO10 (Nat.le_refl _) (fun _ _ k => k)
      go_wp2_with fail
      go_ret
      exact ⟨rfl, hbel10⟩

theorem wheelTwice_walk (a0 : Option Addr) (len0 cap0 : Nat) (z0 : List Int) (a1 : Option Addr) (len1 cap1 : Nat) (z1 : List Int) (now later : Int) (w : World) (h0 : IsRow .i64 w a0 len0 cap0 z0) (h1 : IsRow .i64 w a1 len1 cap1 z1) (_ : (Lit.int .i64 now).wf = true) (_ : (Lit.int .i64 later).wf = true) :
    Calls Try.prog 5 #[.slice a0 len0 cap0, .slice a1 len1 cap1, .int .i64 now, .int .i64 later] w fun e w' => e = .returned (.bool true) ∧ Below w.heap.size w w' := by
  obtain ⟨i0, l0⟩ := h0.ints (lo := -9223372036854775808) (hi := 9223372036854775807) (fun n hn => I64_of_wf hn)
  obtain ⟨i1, l1⟩ := h1.ints (lo := -9223372036854775808) (hi := 9223372036854775807) (fun n hn => I64_of_wf hn)
  unfold maxLen at l0 l1
  exact twice_walk a0 len0 cap0 z0 a1 len1 cap1 z1 now later w i0 i1 (by omega) (by omega)
end Go.Proofs.Ytbkgjghbmafoeaa
