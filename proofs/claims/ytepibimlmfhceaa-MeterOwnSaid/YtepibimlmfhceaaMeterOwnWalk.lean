/- The walk over MeterOwn: it returns true and writes nothing that was there. Conditions: the numbers are of their kinds. -/
import Derived.Test.YtepibimlmfhceaaOwnPure
import Derived.Maps.AppendAt
namespace Go.Proofs.Ytepibimlmfhceaa
open Go.RowKit

theorem Try.info31 : (Try.prog.info? 31).map (fun i => (i.zero, i.size, i.bytes)) = some (some (.pointer none), 1, 8) := by kernel_rfl

def OwnRel1 (W : World) (mb r base : Nat) (rate burst : Int) (v i : Value) (wr : World) : Prop :=
  ∃ k : Nat, k ≤ 16 ∧ i = .int .i64 k ∧ wr.ownsRow base 31 1 v k (List.replicate k (.pointer none)) ∧ MAt wr mb r rate burst 0 [] 0 ∧ Below W.heap.size W wr ∧ base ≤ wr.heap.size

def OwnRel2 (W : World) (mb r g : Nat) (rate burst : Int) (len : Nat) (i : Value) (wr : World) : Prop :=
  ∃ (k : Nat) (turns : Int) (es : List Ent) (clock : Nat) (P : Nat → Option (Nat × Bk)) (cs : Array Value), k ≤ len ∧ i = .int .i64 k ∧ MAt wr mb r rate burst turns es clock ∧ 0 ≤ turns ∧ turns ≤ k ∧
    OwnInv wr g es P cs ∧ Below W.heap.size W wr ∧ (∀ i, Own mb r es i → W.heap.size ≤ i) ∧ ∀ j, j < 16 → ∀ q, P j = some q → W.heap.size ≤ q.1

set_option maxRecDepth 100000 in
set_option maxHeartbeats 2000000 in
theorem own_walk (rate burst : Int) (a : Option Addr) (len cap : Nat) (F : Nat → List Int) (w : World) (hin : Elems [.i64, .u64, .u64, .i64] w a len F) (hlen : len ≤ 9223372036854775807) :
    Calls Try.prog 8 #[.int .i64 rate, .int .i64 burst, .slice a len cap] w fun e w' => e = .returned (.bool true) ∧ Below w.heap.size w w' := by
  by_cases hbig : 4096 < len
  · go_enter Try.func8, Try.ntmps8
    go_wp2
    go_ret
    exact ⟨rfl, Below.refl _ _⟩
  obtain ⟨i0, hi, hz0, hz1, hz2⟩ := info_parts Try.info31
  go_enter Try.func8, Try.ntmps8
  go_wp2_with fail
  refine (mnew_any rate burst w).mono ?_
  rintro e w1 ⟨mb, r, rfl, hmb, hr, hM, hO⟩
  have hbel := hO.below (Nat.le_refl _) (fun _ _ h => h)
  have hMl := hM.top.lt
  have hRl := hM.map.lt
  go_wp2_with fail
  go_loopw [8, 9] (OwnRel1 w mb r w1.heap.size rate burst) (fun _ i _ => 16 - (intOf i).toNat)
  case atStart =>
    refine ⟨0, by omega, rfl, World.ownsRow_made w1 #[] 0 (Nat.le_refl _) (by decide) rfl, ?_, below_off hbel ((Off.refl (fun _ => False) _).alloc _) (Nat.le_refl _) (fun _ _ k => k), by simp⟩
    exact hM.off ((Off.refl (fun _ => False) _).alloc _) (fun _ _ k => k)
  case round =>
    clear hM hO
    obtain ⟨k, hk, rfl, hown, hM, hbel2, hbase⟩ := hrel
    by_cases hlt : k < 16
    · go_wp2_with (at_builtin; refine wpList_append_own _ rfl _ _ 43 rfl w1.heap.size 31 i0 (.pointer none) 1 8 Try.underlying43 hi hz0 hz1 hz2 rfl (by decide) _ _ _ rfl (hown.alloc _) ⟨wr.heap.size, 0, none⟩ 1 1 [.pointer none] rfl rfl (cell_one_new _ _ _) (fun u hu => by simp at hu; subst hu; rfl) (by unfold maxLen; omega) (by omega) (by simp; omega) ?_; intro v' w' hown' hgrow hnil)
      have hnow := hown.lt
      have hO1 := ((Off.refl (fun _ => False) wr).alloc (.cells #[.pointer none] 31)).mono (S' := fun i => some i = u8.ownBlock) (fun _ _ k => k.elim) |>.step (grown_off hgrow) (fun _ _ k => k)
      have hM' := hM.off hO1 (fun i hi' k => by
        have := hnow i k.symm
        rcases hi' with e | e | ⟨e, he, _⟩
        · omega
        · omega
        · cases he)
      have hbel' := below_off hbel2 hO1 (Nat.le_refl _) (fun i hi' k => by have := hnow i k.symm; have := hbel.size; omega)
      refine ⟨⟨k + 1, by omega, by go_num, ?_, hM', hbel', Nat.le_trans hbase hO1.size⟩, by simp [intOf]; omega⟩
      rw [List.replicate_succ']; exact hown'
    · obtain rfl : k = 16 := by omega
      rcases hown.2 with ⟨_, h0⟩ | ⟨g, cap', cur, rfl, hbg, hg, hcap, hcm, hcur, htake⟩
      · omega
      have hblk : Blk wr g 31 cur := hg
      have hsz : 16 ≤ cur.size := by omega
      have hinv : OwnInv wr g [] (fun _ => none) cur := by
        refine ⟨hblk, hsz, fun j hj => ?_, fun j _ q h => (by cases h), fun j _ _ e he => (by cases he), fun i j _ _ q q' h => (by cases h), fun e he => (by cases he)⟩
        have h1 : (cur.toList.take (16 * 1))[j]? = some (.pointer none) := by rw [htake, List.getElem?_replicate, if_pos hj]
        rw [List.getElem?_take, if_pos (by omega)] at h1
        simpa using h1
      have hcap1 : (16 : Int) ≤ (cap' : Int) := by omega
      clear hown htake hg hblk hcur
      go_wp2_with fail
      go_loopw [10] (OwnRel2 w mb r g rate burst len) (fun i _ => len - (intOf i).toNat)
      case atStart =>
        refine ⟨0, 0, [], 0, fun _ => none, cur, Nat.zero_le _, rfl, hM, by omega, by simp, hinv, hbel2, ?_, fun j _ q h => (by cases h)⟩
        intro i k; rcases k with k | k | ⟨e, he, _⟩; omega; omega; cases he
      case round =>
        clear hM hbel2 hinv hsz
        obtain ⟨k, turns, es, clock, P, cs, hk, rfl, hM, ht0, ht1, hinv, hbel2, hown, hPw⟩ := hrel
        by_cases hlt : k < len
        · obtain ⟨bx, off, hi', lo, t, rfl, hbx, hst, _, _, lo0, lo1, ht⟩ := hin.step hbel2 hlt
          clear hin
          have hbxr : bx < wr.heap.size := Nat.lt_of_lt_of_le hbx hbel2.size
          obtain ⟨J, hJ⟩ : ∃ J : Nat, lo % 16 = J := ⟨(lo % 16).toNat, by omega⟩
          have hJ16 : J < 16 := by omega
          have hJi : (J : Int) < 16 := by omega
          have hJ0 : (0 : Int) ≤ (J : Int) := by omega
          obtain ⟨s1, s2, s3⟩ := hst
          have hkI : (0 : Int) ≤ (k : Int) := by omega
          have hkL : (k : Int) < (len : Int) := by omega
          cases hP : P J with
          | none =>
            have g0 : wr.cell? ⟨g, J, none⟩ = some (.pointer none) := by rw [hinv.blk.cell, hinv.cell J hJ16, hP]; rfl
            have gf : wr.frozen? ⟨g, J, none⟩ = false := hinv.blk.free J
            have HP := Lib.hid hP
            clear hP
            go_wp2_with fail
            refine (rnew_any rate burst t wr).mono ?_
            rintro e w2 ⟨c, rfl, hcn, hC, hO2⟩
            have hM2 := hM.off hO2 (fun _ _ k => k)
            have hG2 := hO2.blk hinv.blk id
            have hst2 := StepAt.off ⟨s1, s2, s3⟩ hO2 hbxr id
            have hbl0 := hbel2
            have hbel2' : bx < c := by omega
            have hbl2 := below_off hbel2 hO2 (Nat.le_refl _) (fun _ _ k => k)
            have hcell2 : w2.cell? ⟨g, J, none⟩ = some (.pointer none) := by rw [hG2.cell, hinv.cell J hJ16, HP.out]; rfl
            have hcf2 : w2.frozen? ⟨g, J, none⟩ = false := hG2.free J
            have hO3 : Off (· = g) w2 (w2.setCell ⟨g, J, none⟩ (.pointer (some ⟨c, 0, none⟩))) := (Off.refl _ _).setAt _ _
            have hbg' : w.heap.size ≤ g := by have := hbel.size; omega
            have hst3 := hst2.off hO3 (Nat.lt_of_lt_of_le hbxr hO2.size) (by omega)
            have hbl3 := below_off hbl2 hO3 (Nat.le_refl _) (fun i hi e => by omega)
            have hM3 := hM2.off hO3 (fun i hi' e => own_not_blk hM2 hG2 (by decide) (by decide) (by decide) (e ▸ hi'))
            have hcg : c ≠ g := by have := hinv.blk.lt; omega
            have hC3 := hC.off hO3 hcg
            have hG3 := hG2.setCell J (.pointer (some ⟨c, 0, none⟩))
            have hbx3 : bx < (w2.setCell ⟨g, J, none⟩ (.pointer (some ⟨c, 0, none⟩))).heap.size := by have := hO2.size; simp; omega
            have hOr3 : Off (· = g) wr (w2.setCell ⟨g, J, none⟩ (.pointer (some ⟨c, 0, none⟩))) := (hO2.mono fun _ _ k => k.elim).step hO3 fun _ _ k => k
            have hgs : wr.heap.size ≤ (w2.setCell ⟨g, J, none⟩ (.pointer (some ⟨c, 0, none⟩))).heap.size := hOr3.size
            clear g0 gf s1 s2 s3 hM hbel2 hO2 hM2 hst2 hbl2 hO3 hbxr hC
            have hst3' := hst3
            obtain ⟨s1, s2, s3⟩ := hst3'
            go_wp2_with fail
            clear hcell2 hcf2
            generalize w2.setCell ⟨g, J, none⟩ (.pointer (some ⟨c, 0, none⟩)) = w3 at *
            refine (mtake_any 0 J t hM3 ht ht0 (by omega)).mono ?_
            rintro e w4 ⟨es4, turns4, c4, ok4, room4, rfl, hR4, hM4, hO4, hown4⟩
            have hfew := own_few hM3.keys hinv.adr
            have habs := hinv.nos J hJ16 HP.out
            have hng : ¬ Own mb r es g := own_not_blk hM3 hG3 (by decide) (by decide) (by decide)
            have hnc : ¬ Own mb r es c := own_not_blk hM3 hC3 (by decide) (by decide) (by decide)
            rcases hR4 with ⟨x, hx, hxa, _⟩ | ⟨_, es3, hR3, n, hn1, hn2, hn3, rfl, rfl, rfl, rfl⟩ | ⟨_, hR3, _⟩
            · exact absurd hxa (habs x hx)
            · obtain rfl : es3 = es := by
                rcases hR3 with ⟨_, _, h⟩ | ⟨h, _⟩ | ⟨h, _⟩
                · exact h
                · omega
                · omega
              have hst4 := hst3.off hO4 hbx3 (fun k => by have := hown _ k; omega)
              have hG4 := hO4.blk hG3 hng
              have hC4 := hC3.off hO4 hnc
              have hbl4 := below_off hbl3 hO4 (Nat.le_refl _) (fun i hi k => by have := hown i k; omega)
              have hs0 := Bk.new_ok rate burst t ht
              have g4 : w4.cell? ⟨g, J, none⟩ = some (.pointer (some ⟨c, 0, none⟩)) := by rw [hG4.cell, Array.getElem?_setIfInBounds, if_pos rfl, if_pos (by have := hinv.size; omega)]
              have hgl := hG4.lt
              have hbx4 := Nat.lt_of_lt_of_le hbx3 hO4.size
              have hbc : bx ≠ c := by have := hbel2'; omega
              have z1 : ((Bk.new rate burst t).takes t 1 != (Bk.new rate burst t).takes t 1) = false := by simp
              clear s1 s2 s3 hst3 hbl3
              obtain ⟨s1, s2, s3⟩ := hst4
              go_wp2_with fail
              go_region_held3 (fun w' => w'.cell? ⟨g, J, none⟩ = some (.pointer (some ⟨c, 0, none⟩)) ∧ w'.cell? ⟨bx, off + k * 4 + 3, none⟩ = some (.int .i64 t)) (first | exact ⟨g4, s3⟩ | exact ⟨g5, s5⟩)
                (first | (go_at_call 16; refine (rtake_any c _ t 1 _ hC4.drew hs0 ht ⟨by omega, by omega⟩).mono ?_; rintro e w5 ⟨rfl, hC5, hO5⟩; have g5 := (hO5.cell (p := ⟨g, J, none⟩) hgl hcg.symm).trans g4; have s5 := (hO5.cell (p := ⟨bx, off + k * 4 + 3, none⟩) hbx4 hbc).trans s3))
              have hG5 := hO5.blk hG4.drew hcg.symm
              have hM5 := hM4.drew.off hO5 (fun i k e => own_not_blk hM4 hC4 (by decide) (by decide) (by decide) (e ▸ k))
              have hbl5 := below_off hbl4.drew hO5 (Nat.le_refl _) (fun i hi e => by have := hbl0.size; omega)
              have hN : OwnInv w5 g (es3 ++ [n]) (fun j => if j = J then some (c, (Bk.new rate burst t).took t 1) else P j) (cs.setIfInBounds J (.pointer (some ⟨c, 0, none⟩))) := by
                refine hinv.next hJ16 hG5 hC5 (Bk.took_ok hs0 ht) (List.mem_append.2 (.inr (List.mem_singleton.2 rfl))) hn1 hn3 ?_ ?_ ?_
                · intro j hj hjJ q hq
                  have hb := (hinv.bks j hj q hq).1
                  have hlt := hb.lt
                  have hqc : q.1 ≠ c := by omega
                  have hqg : q.1 ≠ g := MAt.blk_ne hb hinv.blk (by decide)
                  have h3 := hb.off hOr3 hqg
                  have h4 := h3.off hO4 (own_not_blk hM3 h3 (by decide) (by decide) (by decide))
                  exact ⟨h4.drew.off hO5 hqc, hqc⟩
                · intro e he k
                  rcases List.mem_append.1 he with he | he
                  · exact he
                  · rw [List.mem_singleton.1 he] at k; exact absurd hn1 k
                · exact fun e he _ => List.mem_append.2 (.inl he)
              have hown5 : ∀ i, Own mb r (es3 ++ [n]) i → w.heap.size ≤ i := fun i k => (hown4 i k).elim (hown i) (fun k => by have := hbl0.size; omega)
              have hP5 : ∀ j, j < 16 → ∀ q, (fun j => if j = J then some (c, (Bk.new rate burst t).took t 1) else P j) j = some q → w.heap.size ≤ q.1 := by
                intro j hj q hq
                by_cases hjJ : j = J
                · simp only [hjJ, if_true, Option.some.injEq] at hq; rw [← hq]; show w.heap.size ≤ c; have := hbl0.size; omega
                · simp only [hjJ, if_false] at hq; exact hPw j hj q hq
              go_wp2
              exact ⟨⟨k + 1, _, _, _, _, _, by omega, by go_num, hM5, by omega, by omega, hN, hbl5, hown5, hP5⟩, by simp [intOf]; omega⟩
            · have := hR3.few; omega
          | some q =>
            obtain ⟨c, s0⟩ := q
            obtain ⟨hC, hs0, x, hx, hxa, hxs⟩ := hinv.bks J hJ16 (c, s0) hP
            simp only at hC hs0 hxs
            have g0 : wr.cell? ⟨g, J, none⟩ = some (.pointer (some ⟨c, 0, none⟩)) := by rw [hinv.blk.cell, hinv.cell J hJ16, hP]; rfl
            have hng : ¬ Own mb r es g := own_not_blk hM hinv.blk (by decide) (by decide) (by decide)
            have hnc : ¬ Own mb r es c := own_not_blk hM hC (by decide) (by decide) (by decide)
            have hcg : c ≠ g := MAt.blk_ne hC hinv.blk (by decide)
            have hcw := hPw J hJ16 _ hP
            have HP := Lib.hid hP
            have HS := Lib.hid hxs
            clear hP hxs
            have hst3 : StepAt wr bx (off + k * 4) hi' lo t := ⟨s1, s2, s3⟩
            have HA := Lib.hid hxa
            clear hxa
            go_wp2_with fail
            refine (mtake_any 0 J t hM ht ht0 (by omega)).mono ?_
            rintro e w4 ⟨es4, turns4, c4, ok4, room4, rfl, hR4, hM4, hO4, hown4⟩
            rcases hR4 with ⟨x', hx', hxa', rfl, rfl, rfl, rfl⟩ | ⟨habs, _⟩ | ⟨habs, _⟩
            · obtain rfl := nodup_inj hM.keys hx' hx (hxa'.trans HA.out.symm)
              rw [HS.out] at hM4 hown4 ⊢
              clear hxa'
              have hst4 := hst3.off hO4 hbxr (fun k => by have := hown _ k; omega)
              have hG4 := hO4.blk hinv.blk hng
              have hC4 := hC.off hO4 hnc
              have hbl4 := below_off hbel2 hO4 (Nat.le_refl _) (fun i hi k => by have := hown i k; omega)
              have g4 : w4.cell? ⟨g, J, none⟩ = some (.pointer (some ⟨c, 0, none⟩)) := by rw [hG4.cell, hinv.cell J hJ16, HP.out]; rfl
              have hgl := hG4.lt
              have hbx4 := Nat.lt_of_lt_of_le hbxr hO4.size
              have hbc : bx ≠ c := by omega
              have z1 : (s0.takes t 1 != s0.takes t 1) = false := by simp
              clear s1 s2 s3 hst3 g0
              obtain ⟨s1, s2, s3⟩ := hst4
              go_wp2_with fail
              go_region_held3 (fun w' => w'.cell? ⟨g, J, none⟩ = some (.pointer (some ⟨c, 0, none⟩)) ∧ w'.cell? ⟨bx, off + k * 4 + 3, none⟩ = some (.int .i64 t)) (first | exact ⟨g4, s3⟩ | exact ⟨g5, s5⟩)
                (first | (go_at_call 16; refine (rtake_any c _ t 1 _ hC4.drew hs0 ht ⟨by omega, by omega⟩).mono ?_; rintro e w5 ⟨rfl, hC5, hO5⟩; have g5 := (hO5.cell (p := ⟨g, J, none⟩) hgl hcg.symm).trans g4; have s5 := (hO5.cell (p := ⟨bx, off + k * 4 + 3, none⟩) hbx4 hbc).trans s3))
              have hG5 := hO5.blk hG4.drew hcg.symm
              have hM5 := hM4.drew.off hO5 (fun i k e => own_not_blk hM4 hC4 (by decide) (by decide) (by decide) (e ▸ k))
              have hbl5 := below_off hbl4.drew hO5 (Nat.le_refl _) (fun i hi e => by omega)
              have hN : OwnInv w5 g (es.map (tookE (0, (J : Int)) (s0.took t 1) (turns + 1))) (fun j => if j = J then some (c, s0.took t 1) else P j) (cs.setIfInBounds J (.pointer (some ⟨c, 0, none⟩))) := by
                have hcsJ : cs.setIfInBounds J (.pointer (some ⟨c, 0, none⟩)) = cs := set_same (by rw [hinv.cell J hJ16, HP.out]; rfl)
                refine hinv.next hJ16 (by rw [hcsJ]; exact hG5) hC5 (Bk.took_ok hs0 ht) (List.mem_map_of_mem (f := tookE (0, (J : Int)) (s0.took t 1) (turns + 1)) hx) (by simp only [tookE, HA.out, if_true]) (by simp only [tookE, HA.out, if_true]) ?_ ?_ ?_
                · intro j hj hjJ q hq
                  have hb := (hinv.bks j hj q hq).1
                  have hqc : q.1 ≠ c := fun e => hjJ (hinv.inj j J hj hJ16 _ _ hq HP.out e)
                  have h4 := hb.off hO4 (own_not_blk hM hb (by decide) (by decide) (by decide))
                  exact ⟨h4.drew.off hO5 hqc, hqc⟩
                · intro e he k
                  obtain ⟨y, hy, rfl⟩ := List.mem_map.1 he
                  simp only [tookE] at k ⊢
                  split
                  · rename_i hy'; rw [if_pos hy'] at k; exact absurd hy' k
                  · exact hy
                · intro e he k
                  refine List.mem_map.2 ⟨e, he, ?_⟩
                  simp only [tookE, if_neg k]
              have hown5 : ∀ i, Own mb r (es.map (tookE (0, (J : Int)) (s0.took t 1) (turns + 1))) i → w.heap.size ≤ i := fun i k => (hown4 i k).elim (hown i) (fun k => by have := hbel2.size; omega)
              have hP5 : ∀ j, j < 16 → ∀ q, (fun j => if j = J then some (c, s0.took t 1) else P j) j = some q → w.heap.size ≤ q.1 := by
                intro j hj q hq
                by_cases hjJ : j = J
                · simp only [hjJ, if_true, Option.some.injEq] at hq; rw [← hq]; exact hcw
                · simp only [hjJ, if_false] at hq; exact hPw j hj q hq
              go_wp2
              exact ⟨⟨k + 1, _, _, _, _, _, by omega, by go_num, hM5, by omega, by omega, hN, hbl5, hown5, hP5⟩, by simp [intOf]; omega⟩
            · exact absurd HA.out (habs x hx)
            · exact absurd HA.out (habs x hx)
        · go_wp2
          go_ret
          exact ⟨rfl, hbel2⟩

theorem meterOwn_walk (a0 a1 : Int) (a2 : Option Addr) (len2 cap2 : Nat) (F2 : Nat → List Int) (w : World) (_ : (Lit.int .i64 a0).wf = true) (_ : (Lit.int .i64 a1).wf = true) (w2 : Elems [.i64, .u64, .u64, .i64] w a2 len2 F2) (hl : len2 ≤ maxLen) :
    Calls Try.prog 8 #[.int .i64 a0, .int .i64 a1, .slice a2 len2 cap2] w fun e w' => e = .returned (.bool true) ∧ Below w.heap.size w w' :=
  own_walk a0 a1 a2 len2 cap2 F2 w w2 (by unfold maxLen at hl; omega)
end Go.Proofs.Ytepibimlmfhceaa
