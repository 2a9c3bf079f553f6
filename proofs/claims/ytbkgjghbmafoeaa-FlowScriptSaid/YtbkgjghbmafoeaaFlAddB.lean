/- The walk over a table's Add, where the flow comes in. Conditions: the table lies whole in memory. -/
import Derived.Test.YtbkgjghbmafoeaaFlAddP
import Derived.Deep.CutBlock
import Derived.Deep.LoopGhost
namespace Go.Proofs.Ytbkgjghbmafoeaa
open Go.RowKit
open Go.ChangeMaps (setBlock)

/-- There is room: what is there, who went. -/
def AddMid (W : World) (tb : Nat) (U : Nat → Prop) (L : List Fl) (s7 : Value) (wx : World) : Prop :=
  ∃ M U' gone, s7 = .int .i64 gone ∧ Tbl wx tb U' M ∧ (L.length ≠ 48 ∧ M = L ∧ gone = 0 ∨ L.length = 48 ∧ ∃ g, vic L = some g ∧ M = dropF g.id L ∧ gone = g.id) ∧ Off U W wx ∧ ∀ i, U' i → U i

/-- The number that is tried: n. -/
def AddLoop (W : World) (N : Nat) (f : Fl) (M : List Fl) (n : Nat) (wx : World) : Prop :=
  1 ≤ n ∧ (n : Int) ≤ free 1 M ∧ Blk wx N 38 (flL { f with id := n }).toArray ∧ Off (· = N) W wx

theorem AddMid.few {L M : List Fl} {gone : Int} (h : L.length ≠ 48 ∧ M = L ∧ gone = 0 ∨ L.length = 48 ∧ ∃ g, vic L = some g ∧ M = dropF g.id L ∧ gone = g.id) (ok : FOk L) : M.length < 48 := by
  have := ok.few
  rcases h with ⟨h1, rfl, _⟩ | ⟨h1, g, hg, rfl, _⟩
  · omega
  · have := dropF_length ok.ids (vic_mem hg).1; omega

set_option maxRecDepth 100000 in
set_option maxHeartbeats 4000000 in
theorem fadd_go {w : World} {tb : Nat} {U : Nat → Prop} {L : List Fl} (f : Fl) (H : Tbl w tb U L) (t1 : tkn L f.opn = false) (t2 : tkn L f.bck = false) (t3 : f.opn ≠ f.bck) :
    Calls Try.prog 12 #[.pointer (some ⟨tb, 0, none⟩), flV f] w (FAdd tb U L f w) := by
  have T3 := Lib.hid t3
  clear t3
  have HH := H
  obtain ⟨wb, r, S, p, kes, clock, T, HB, W, hT, hr, hU⟩ := H
  have hO1 : Off (fun _ => False) w (w.alloc (.cells (flL f).toArray 38)) := (Off.refl _ _).alloc _
  have hB1 := Lib.hid (Blk.new w 38 (flL f).toArray)
  have H1 := HB.off hO1 (fun _ _ k => k)
  go_enter Try.func12, Try.ntmps12
  go_wp2_with (first | (refine wpList_ldk (by rfl) (.tmp 9) rfl w.heap.size 1 rfl f.opn (box_opn hB1.out) ?_))
  refine (taken_any H1 f.opn).mono ?_
  rintro e w2 ⟨rfl, hO2⟩
  rw [t1]
  have hB2 := Lib.hid (hO2.blk hB1.out (fun k => k))
  have H2 := H1.off hO2 (fun _ _ k => k)
  go_wp2_with (first | (refine wpList_ldk (by rfl) (.tmp 14) rfl w.heap.size 8 rfl f.bck (box_bck hB2.out) ?_))
  refine (taken_any H2 f.bck).mono ?_
  rintro e w3 ⟨rfl, hO3⟩
  rw [t2]
  have hB3 := Lib.hid (hO3.blk hB2.out (fun k => k))
  have H3 := H2.off hO3 (fun _ _ k => k)
  have hO13 := (hO1.step hO2 fun _ _ k => k).step hO3 fun _ _ k => k
  have HH3 := HH.off hO13 (fun _ _ k => k)
  have T1 := Lib.hid t1
  have T2 := Lib.hid t2
  have c51 : w3.cell? ⟨tb, 51, none⟩ = some (.int .i64 L.length) := H3.top.cell 51
  clear t1 t2
  go_upto_if 29 with (first | (refine wpList_ldk (by rfl) (.tmp 19) rfl w.heap.size 1 rfl f.opn (box_opn hB3.out) ?_) | (refine wpList_ldk (by rfl) (.tmp 21) rfl w.heap.size 8 rfl f.bck (box_bck hB3.out) ?_) | (refine wpList_key_eql (by rfl) (.tmp 20) (.tmp 22) f.opn f.bck rfl rfl rfl false (decide_eq_false T3.out) ?_))
  go_cut [7] (fun s7 wx => AddMid w3 tb U L s7 wx)
  case first =>
    by_cases hl : L.length = 48
    · have hl2 : ((L.length : Int) == 48) = true := by simp; omega
      cases hv : vic L with
      | none =>
        have ha : addF L f = (0, 0, 120, L) := by
          unfold addF
          rw [if_neg (by rw [T1.out, T2.out]; simp; exact T3.out), if_pos hl, hv]
        have hfin : ∀ w4, Off (fun _ => False) w3 w4 → FAdd tb U L f w (.returned (.tuple #[.int .i64 0, .int .i64 0, .int .i64 120])) w4 := fun w4 h4 =>
          ⟨U, by rw [ha]; rfl, by rw [ha]; exact HH3.off h4 (fun _ _ k => k), (hO13.step h4 fun _ _ k => k).mono fun _ _ k => k.elim, fun _ k => .inl k⟩
        have HF := Lib.hid hfin
        have HL := Lib.hid hl
        have hvc : Calls Try.prog 37 #[.pointer (some ⟨tb, 0, none⟩)] w3 (fun e w' => e = .returned (.int .i64 0) ∧ Off (fun _ => False) w3 w') :=
          (vic_any H3).mono fun e w' h => ⟨by rw [h.1, hv]; rfl, h.2⟩
        clear hfin ha hl hv
        go_wp2_with fail
        refine hvc.mono ?_
        rintro e w4 ⟨rfl, hO4⟩
        clear hvc
        go_wp2_with fail
        go_ret3
        exact HF.out _ hO4
      | some g =>
        have hvc : Calls Try.prog 37 #[.pointer (some ⟨tb, 0, none⟩)] w3 (fun e w' => e = .returned (.int .i64 g.id) ∧ Off (fun _ => False) w3 w') :=
          (vic_any H3).mono fun e w' h => ⟨by rw [h.1, hv]; rfl, h.2⟩
        have hgr := H3.ok.rng g (vic_mem hv).1
        have hg0 : (g.id == 0) = false := by simp; omega
        have HL := Lib.hid hl
        have HV := Lib.hid hv
        clear hl hv hgr
        go_wp2_with fail
        refine hvc.mono ?_
        rintro e w4 ⟨rfl, hO4⟩
        clear hvc
        go_wp2_with fail
        have HH4 := HH3.off hO4 (fun _ _ k => k)
        refine (fdrop_any g.id HH4).mono ?_
        rintro e w5 ⟨U5, b5, rfl, _, HH5, hO5, hU5⟩
        have HM := Lib.hid (show AddMid w3 tb U L (.int .i64 g.id) w5 from ⟨_, U5, g.id, rfl, HH5, .inr ⟨HL.out, g, HV.out, rfl, rfl⟩, (hO4.mono fun _ _ k => k.elim).step hO5 fun _ _ k => k, hU5⟩)
        go_wp2_with fail
        go_meet
        exact HM.out
    · have hl2 : ((L.length : Int) == 48) = false := by simp; omega
      have HM := Lib.hid (show AddMid w3 tb U L (.int .i64 0) w3 from ⟨L, U, 0, rfl, HH3, .inl ⟨hl, rfl, rfl⟩, Off.refl _ _, fun _ k => k⟩)
      clear hl
      go_wp2_with fail
      go_meet
      exact HM.out
  case rest =>
    obtain ⟨M, U', gone, hs7, HT, hcase, hO4, hU4⟩ := hcut
    subst hs7
    obtain ⟨w4, hw4⟩ : ∃ w4, w4 = wc := ⟨_, rfl⟩
    subst hw4
    have hM := AddMid.few hcase H3.ok
    have hUN : ¬ U w.heap.size := fun h => by have := HH.lt h; omega
    have hBc := hO4.blk hB3.out hUN
    have hw4 : w.heap.size < w4.heap.size := hBc.lt
    have hOc : Off U w w4 := (hO13.mono fun _ _ k => k.elim).trans hO4
    have HT0 := HT
    obtain ⟨wb', r', S', p', kes', clock', T', HB', W', hT', hr', hU'⟩ := HT
    have HA := Lib.hid hcase
    clear hcase HB W hT hr hU H1 H2 H3 hB1 hB2 hB3 hO1 hO2 hO3 HH3 c51
    generalize hN : w.heap.size = N at *
    have HN := Lib.hid hN
    clear hN
    have d0 : w4.cell? ⟨N, 0, none⟩ = some (.int .i64 f.id) := hBc.cell 0
    have fz : w4.frozen? ⟨N, 0, none⟩ = false := hBc.free 0
    have hO5 : Off (· = N) w4 (w4.setCell ⟨N, 0, none⟩ (.int .i64 1)) := (Off.refl _ _).setAt 0 _
    have hB5 : Blk (w4.setCell ⟨N, 0, none⟩ (.int .i64 1)) N 38 (flL { f with id := 1 }).toArray := by
      have := hBc.setCell 0 (.int .i64 1)
      rw [List.setIfInBounds_toArray] at this
      exact this
    go_upto_block 0 with fail
    clear d0 fz
    generalize w4.setCell ⟨N, 0, none⟩ (.int .i64 1) = w5 at *
    have hNT : ∀ i, TBOwn tb r' p' i → i ≠ N := fun i hi e => hUN (hU4 _ ((hU' _).2 (.inl (e ▸ hi))))
    have hNW : ¬ S' N := fun h => hUN (hU4 _ ((hU' _).2 (.inr h)))
    have H5 := HB'.off hO5 (fun i hi e => hNT i hi e)
    go_cut [7] (fun s7 wx => s7 = .int .i64 gone ∧ AddLoop w5 N f M (free 1 M).toNat wx)
    case first =>
      go_wp2_with fail
      go_loopg [38] 49 (fun g _ wx => ∃ n : Nat, g + n = 50 ∧ AddLoop w5 N f M n wx)
      case atStart => exact ⟨1, by omega, Nat.le_refl _, free_ge, hB5, Off.refl _ _⟩
      case round =>
        obtain ⟨n, hg, hn1, hnf, hBr, hOr⟩ := hrel
        have hfl := free_le (L := M) (n := 1)
        have Hr := H5.off hOr (fun i hi e => hNT i hi e)
        have q0 : (0 : Int) ≤ (n : Int) := by omega
        have q1 : (n : Int) < 49 := by omega
        have hn49 : n < 49 := by omega
        have d1 := Hr.top.cell (1 + n)
        rw [List.getElem?_toArray, tblL_flow wb' p' r' M.length hn49] at d1
        by_cases hlt : (n : Int) < free 1 M
        · obtain ⟨g, hgM, hge⟩ := free_below (L := M) (n := 1) (m := n) (by omega) hlt
          obtain ⟨o, ho, _⟩ := Hr.one g hgM
          rw [show g.id.toNat = n by omega] at ho
          rw [ho] at d1
          change wr.cell? _ = some (.pointer (some ⟨o, 0, none⟩)) at d1
          have d0 : wr.cell? ⟨N, 0, none⟩ = some (.int .i64 n) := hBr.cell 0
          clear ho hge
          go_wp2_with fail
          go_quiet (fail)
          have hBq := hBr.drewN nq
          have hOq := hOr.drewN nq
          clear d0 d1 Hr
          generalize wr.drewN nq = wq at *
          have d0 : wq.cell? ⟨N, 0, none⟩ = some (.int .i64 n) := hBq.cell 0
          have fz : wq.frozen? ⟨N, 0, none⟩ = false := hBq.free 0
          have hB7 : Blk (wq.setCell ⟨N, 0, none⟩ (.int .i64 ((n : Int) + 1))) N 38 (flL { f with id := (n + 1 : Nat) }).toArray := by
            have := hBq.setCell 0 (.int .i64 ((n : Int) + 1))
            rw [List.setIfInBounds_toArray] at this
            exact this
          go_wp2_with fail
          go_roundg (gk - 1)
          case rel => exact ⟨n + 1, by omega, by omega, by omega, hB7, hOq.setCell _ (fun _ => rfl)⟩
          case measure => omega
        · have hnone : p' n = none := H5.off_ n hn49 fun g hg e => free_not H5.ok.ids (fun g hg => (H5.ok.rng g hg).1) g hg (by omega)
          rw [hnone] at d1
          change wr.cell? _ = some (.pointer none) at d1
          have d0 : wr.cell? ⟨N, 0, none⟩ = some (.int .i64 n) := hBr.cell 0
          have hfin : AddLoop w5 N f M (free 1 M).toNat wr := by
            rw [show (free 1 M).toNat = n by omega]; exact ⟨hn1, hnf, hBr, hOr⟩
          have HF := Lib.hid hfin
          clear hfin hnone
          go_wp2_with fail
          go_quiet (fail)
          go_wp2_with fail
          go_meet
          exact ⟨rfl, HF.out.1, HF.out.2.1, HF.out.2.2.1.drewN _, HF.out.2.2.2.drewN _⟩
    case rest =>
      obtain ⟨hs7, hn1, _, hB6, hO6⟩ := hcut
      subst hs7
      have hfl := free_le (L := M) (n := 1)
      have hfg := free_ge (L := M) (n := 1)
      obtain ⟨n, hn⟩ : ∃ n : Nat, free 1 M = n := ⟨(free 1 M).toNat, by omega⟩
      rw [show (free 1 M).toNat = n by omega] at hB6 hn1
      have hn49 : n < 49 := by omega
      have q0 : (0 : Int) ≤ (n : Int) := by omega
      have q1 : (n : Int) < 49 := by omega
      have H6 := H5.off hO6 (fun i hi e => hNT i hi e)
      have hpn : p' n = none := H6.off_ n hn49 fun g hg e => free_not H6.ok.ids (fun g hg => (H6.ok.rng g hg).1) g hg (by omega)
      have W6 := (W'.off hO5 (fun i hi e => hNW (e ▸ hi))).off hO6 (fun i hi e => hNW (e ▸ hi))
      have HNn := Lib.hid hn
      have hNt : N ≠ tb := fun e => hNT tb (.inl rfl) e.symm
      have hNr : N ≠ r' := fun e => hNT r' (.inr (.inl rfl)) e.symm
      have htr : tb ≠ r' := H6.map.not_blk H6.top
      obtain ⟨hadd, hto, htb⟩ := addF_go T1.out T2.out T3.out HA.out
      have k1 : klook f.opn kes' = none := klook_not H6.look hto
      have k2 : klook f.bck (K1 kes' clock' f n) = none := by
        unfold K1
        rw [klook_add _ _ _ _ _ k1, if_neg (fun e => T3.out e.symm)]; exact klook_not H6.look htb
      -- the pointer
      have e0 : ∀ w', Off (· = tb) wc w' → w'.cell? ⟨N, 0, none⟩ = some (.int .i64 n) := fun w' h => (h.blk hB6 hNt).cell 0
      have e1 : wc.cell? ⟨tb, 1 + n, none⟩ = some (.pointer none) := by
        rw [H6.top.cell, List.getElem?_toArray, tblL_flow wb' p' r' M.length hn49, hpn]; rfl
      have e2 : wc.frozen? ⟨tb, 1 + n, none⟩ = false := H6.top.free _
      have hO7 : Off (· = tb) wc (wc.setCell ⟨tb, 1 + n, none⟩ (.pointer (some ⟨N, 0, none⟩))).drew := (Off.setCell (S := (· = tb)) (p := ⟨tb, 1 + n, none⟩) (Off.refl _ wc) _ (fun _ => rfl)).drew
      have hT7 := (H6.top.setCell (1 + n) (.pointer (some ⟨N, 0, none⟩))).drew
      have HT := Lib.hid hto
      have HTb := Lib.hid htb
      have HPn := Lib.hid hpn
      have HNt := Lib.hid hNt
      have HNr := Lib.hid hNr
      have Htr := Lib.hid htr
      have HAd := Lib.hid hadd
      have Hk1 := Lib.hid k1
      have Hk2 := Lib.hid k2
      clear hn hpn hNt hNr htr hadd hto htb k1 k2 hM
      go_wp2_with fail
      go_region_held3 (fun w' => Off (· = tb) wc w') (first | exact (Off.refl _ _).drew | exact (Off.refl _ _).drew.setCell _ (fun _ => rfl)) (first | fail)
      clear e0 e1 e2
      generalize (wc.setCell ⟨tb, 1 + n, none⟩ (.pointer (some ⟨N, 0, none⟩))).drew = w7 at *
      have hT7' : Blk w7 tb 76 (tblL wb' (upd p' n (some N)) r' M.length).toArray := by
        rw [List.setIfInBounds_toArray] at hT7
        have := tblL_set wb' p' r' M.length hn49 (some N)
        rw [← this]; exact hT7
      clear hT7
      have hB7 := hO7.blk hB6 HNt.out
      have hM7 := H6.map.off hO7 (fun e => Htr.out e.symm)
      -- the map
      obtain ⟨c2, hc2⟩ : ∃ c2, c2 = clock' + 1 := ⟨_, rfl⟩
      have g50 : ∀ w', Off (· = r') w7 w' → w'.cell? ⟨tb, 50, none⟩ = some (.map (some r')) := fun w' h => (h.blk hT7' Htr.out).cell 50
      have g0 : ∀ w', Off (· = r') w7 w' → w'.cell? ⟨N, 0, none⟩ = some (.int .i64 n) := fun w' h => (h.blk hB7 HNr.out).cell 0
      have hk := fun w' (h : Off (· = r') w7 w') => keyc (box_opn (f := { f with id := (n : Int) }) (h.blk hB7 HNr.out))
      have x0 := fun w' h => (hk w' h).1
      have x1 := fun w' h => (hk w' h).2.1
      have x2 := fun w' h => (hk w' h).2.2.1
      have x3 := fun w' h => (hk w' h).2.2.2.1
      have x4 := fun w' h => (hk w' h).2.2.2.2.1
      have x5 := fun w' h => (hk w' h).2.2.2.2.2.1
      have x6 := fun w' h => (hk w' h).2.2.2.2.2.2
      clear hk
      have hk := fun w' (h : Off (· = r') w7 w') => keyc (box_bck (f := { f with id := (n : Int) }) (h.blk hB7 HNr.out))
      have y0 := fun w' h => (hk w' h).1
      have y1 := fun w' h => (hk w' h).2.1
      have y2 := fun w' h => (hk w' h).2.2.1
      have y3 := fun w' h => (hk w' h).2.2.2.1
      have y4 := fun w' h => (hk w' h).2.2.2.2.1
      have y5 := fun w' h => (hk w' h).2.2.2.2.2.1
      have y6 := fun w' h => (hk w' h).2.2.2.2.2.2
      clear hk
      simp only at x0 x1 x2 x3 x4 x5 x6 y0 y1 y2 y3 y4 y5 y6
      have r1 := run_mapEntry_new (P := Try.prog) key_key Try.underlying72 zero78 hM7.drew f.opn Hk1.out
      have m1 := hM7.drew.set (es' := kes' ++ [(⟨f.opn, sideV 0 false, clock'⟩ : KEnt FKey)]) (clock' := clock' + 1)
      have r2 := run_entryStore_last (P := Try.prog) (T := 72) m1 H6.born (sideV n false)
      have m2 := m1.set (es' := K1 kes' clock' f n) (clock' := clock' + 1)
      rw [← hc2] at r1 m1 r2 m2
      have r3 := run_mapEntry_new (P := Try.prog) key_key Try.underlying72 zero78 m2 f.bck Hk2.out
      have hb2 : ∀ e ∈ K1 kes' clock' f n, e.born < c2 := fun e he => by
        unfold K1 at he
        simp only [List.mem_append, List.mem_singleton] at he
        rcases he with he | rfl
        · have := H6.born e he; omega
        · simp only; omega
      have m3 := m2.set (es' := K1 kes' clock' f n ++ [(⟨f.bck, sideV 0 false, c2⟩ : KEnt FKey)]) (clock' := c2 + 1)
      have r4 := run_entryStore_last (P := Try.prog) (T := 72) m3 hb2 (sideV n true)
      have m4 := m3.set (es' := K1 kes' clock' f n ++ [(⟨f.bck, sideV n true, c2⟩ : KEnt FKey)]) (clock' := c2 + 1)
      have HC2 := Lib.hid hc2
      unfold K1 at r3 m2 m3 r4 m4
      clear hc2 hb2
      generalize (Obj.map ((kes' ++ [(⟨f.opn, sideV 0 false, clock'⟩ : KEnt FKey)]).map (KEnt.raw keyV)).toArray c2) = O1 at *
      generalize (Obj.map (((kes' ++ [(⟨f.opn, sideV n false, clock'⟩ : KEnt FKey)]) ++ [(⟨f.bck, sideV 0 false, c2⟩ : KEnt FKey)]).map (KEnt.raw keyV)).toArray (c2 + 1)) = O3 at *
      generalize (Obj.map (((kes' ++ [(⟨f.opn, sideV n false, clock'⟩ : KEnt FKey)]) ++ [(⟨f.bck, sideV n true, c2⟩ : KEnt FKey)]).map (KEnt.raw keyV)).toArray (c2 + 1)) = O4 at *
      generalize (Obj.map ((kes' ++ [(⟨f.opn, sideV n false, clock'⟩ : KEnt FKey)]).map (KEnt.raw keyV)).toArray c2) = O2 at *
      simp only [← keyW_eq] at r1 r3
      clear m1 m2 m3
      have hO8 : Off (· = r') w7 (setBlock (setBlock (setBlock (setBlock w7.drew r' O1) r' O2) r' O3) r' O4) := by repeat (first | exact Off.refl _ _ | apply Off.drew | (refine Off.setBlock ?_ _ (fun _ => rfl)))
      go_wp2_with fail
      go_region_held3 (fun w' => Off (· = r') w7 w') (first | (repeat (first | exact Off.refl _ _ | assumption | apply Off.drew | (refine Off.setBlock ?_ _ (fun _ => rfl))))) (first | fail)
      clear r1 r2 r3 r4 g50 g0 x0 x1 x2 x3 x4 x5 x6 y0 y1 y2 y3 y4 y5 y6
      generalize (setBlock (setBlock (setBlock (setBlock w7.drew r' O1) r' O2) r' O3) r' O4) = w8 at *
      have hT8 := hO8.blk hT7' Htr.out
      have hB8 := hO8.blk hB7 HNr.out
      -- how many
      have e51 : w8.cell? ⟨tb, 51, none⟩ = some (.int .i64 M.length) := hT8.cell 51
      have f51 := hT8.free 51
      have hM48 : (M.length : Int) ≤ 48 := by have := H6.ok.few; omega
      have hT9 := hT8.setCell 51 (.int .i64 ((M.length : Int) + 1))
      have hO9 : Off (· = tb) w8 (w8.setCell ⟨tb, 51, none⟩ (.int .i64 ((M.length : Int) + 1))) := (Off.refl _ _).setAt 51 _
      go_upto_region 15 with fail
      clear e51 f51
      generalize w8.setCell ⟨tb, 51, none⟩ (.int .i64 ((M.length : Int) + 1)) = w9 at *
      have hT9' : Blk w9 tb 76 (tblL wb' (upd p' n (some N)) r' (M.length + 1)).toArray := by
        rw [List.setIfInBounds_toArray] at hT9
        have := tblL_setMany wb' (upd p' n (some N)) r' M.length (M.length + 1)
        rw [← this]; exact hT9
      clear hT9
      have hB9 := hO9.blk hB8 HNt.out
      have m9 := m4.off hO9 (fun e => Htr.out e.symm)
      have hap := H6.apart W6 hr'
      have hO69 : Off (fun i => i = tb ∨ i = r') wc w9 := ((hO7.mono (S' := fun i => i = tb ∨ i = r') (fun _ _ e => .inl e)).step hO8 (fun _ _ e => .inr e)).step hO9 (fun _ _ e => .inl e)
      have W9 := W6.off hO69 (fun i hi e => by
        rcases e with e | e
        · exact hap _ (.inl e) hi
        · exact hr' (e ▸ hi))
      have htS : ¬ S' tb := hap tb (.inl rfl)
      have c0 : ∀ w', Off S' w9 w' → w'.cell? ⟨tb, 0, none⟩ = some (.pointer (some ⟨wb', 0, none⟩)) := fun w' h => (h.blk hT9' htS).cell 0
      have c1 : ∀ w', Off S' w9 w' → w'.cell? ⟨N, 0, none⟩ = some (.int .i64 n) := fun w' h => (h.blk hB9 hNW).cell 0
      have c2' : ∀ w', Off S' w9 w' → w'.cell? ⟨N, 19, none⟩ = some (.int .i64 f.ends) := fun w' h => (h.blk hB9 hNW).cell 19
      have W9d := W9.off (Off.refl (fun _ => False) w9).drew (fun _ _ k => k)
      go_region_held3 (fun w' => Off S' w9 w') (first | exact (Off.refl _ _).drew | exact (Off.refl _ _).drew.trans hO10)
        (first | (go_at_call 28; refine (wset_any n f.ends W9d).mono ?_; rintro e w10 ⟨S2, T2, er, rfl, hSR, hW10, hO10, hS10⟩))
      have hO9x : Off S' w9 w10 := (Off.refl _ _).drew.trans hO10
      have hB10 := hO9x.blk hB9 hNW
      have d0 : w10.cell? ⟨N, 0, none⟩ = some (.int .i64 n) := hB10.cell 0
      clear c0 c1 c2'
      go_wp2_with fail
      go_ret3
      -- the end
      have hTl := wt_few hT' H6.ok
      have hno : ∀ y ∈ T', y.1 ≠ (n : Int) := fun y hy e => by
        obtain ⟨g, hg, rfl⟩ := List.mem_map.1 (hT'.mem_iff.1 hy)
        exact free_not H6.ok.ids (fun g hg => (H6.ok.rng g hg).1) g hg (by rw [HNn.out]; exact e)
      have hT2 : T2 = ins ((n : Int), f.ends) T' := by
        rcases hSR with ⟨_, h, _⟩ | ⟨_, h, _⟩
        · rw [h, del_none hno]
        · omega
      have hOz : Off (fun i => i = tb ∨ i = r' ∨ i = N ∨ S' i) w5 w10 :=
        ((hO6.mono (S' := fun i => i = tb ∨ i = r' ∨ i = N ∨ S' i) (fun _ _ e => .inr (.inr (.inl e)))).step hO69 (fun _ _ e => e.elim .inl (fun e => .inr (.inl e)))).step hO9x (fun _ _ e => .inr (.inr (.inr e)))
      have hap5 := hap
      have hM48' : M.length < 48 := AddMid.few HA.out HH.ok
      have TBz := H5.add hOz hNT hap HNn.out hM48' HT.out HTb.out T3.out (hO9x.blk hT9' htS) (by rw [← HNn.out] at hB10 ⊢; exact hB10) (by
        have := m9.off hO9x hr'
        rw [HC2.out] at this
        unfold K2 K1; exact this)
      have hS2N : ∀ {b : Nat}, b < w9.heap.size → ¬ S' b → ¬ S2 b := fun hb hn h => by
        rcases hS10 _ h with h | h
        · exact hn h
        · simp at h; omega
      refine ⟨_, by rw [HAd.out, ← HNn.out]; rfl, ⟨wb', r', S2, upd p' n (some N), _, _, T2, by rw [HAd.out]; exact TBz, hW10, ?_, hS2N m9.lt hr', fun _ => Iff.rfl⟩, ?_, ?_⟩
      · rw [HAd.out, hT2]
        have h1 := perm_ins (x := ((n : Int), f.ends)) hT'
        refine h1.trans ?_
        have h2 := (insF_perm (f := f) (L := M) (n := 1)).map ft
        rw [List.map_cons] at h2
        rw [← HNn.out]
        exact h2.symm
      · have h45 : Off (fun i => U i ∨ i = N) w w5 := (hOc.mono (S' := fun i => U i ∨ i = N) (fun _ _ e => .inl e)).step hO5 (fun _ _ e => .inr e)
        refine (h45.step (S' := fun i => i = tb ∨ i = r' ∨ i = N ∨ S' i) hOz fun i hi e => ?_).mono fun i hi e => ?_
        · rcases e with e | e | e | e
          · exact .inl (hU4 _ ((hU' _).2 (.inl (.inl e))))
          · exact .inl (hU4 _ ((hU' _).2 (.inl (.inr (.inl e)))))
          · exact .inr e
          · exact .inl (hU4 _ ((hU' _).2 (.inr e)))
        · rcases e with e | e
          · exact e
          · have := HN.out; omega
      · have hsz : w.heap.size ≤ w9.heap.size := by have := hOc.size; have := hO5.size; have := hO6.size; have := hO69.size; omega
        rintro i ((e | e | ⟨j, o', hj, ho', e⟩) | h)
        · exact .inl (hU4 _ ((hU' _).2 (.inl (.inl e))))
        · exact .inl (hU4 _ ((hU' _).2 (.inl (.inr (.inl e)))))
        · unfold upd at ho'
          split at ho'
          · simp only [Option.some.injEq] at ho'
            right; have := HN.out; omega
          · exact .inl (hU4 _ ((hU' _).2 (.inl (.inr (.inr ⟨j, o', hj, ho', e⟩)))))
        · rcases hS10 _ h with h | h
          · exact .inl (hU4 _ ((hU' _).2 (.inr h)))
          · right; simp at h; omega

theorem fadd_any {w : World} {tb : Nat} {U : Nat → Prop} {L : List Fl} (f : Fl) (H : Tbl w tb U L) :
    Calls Try.prog 12 #[.pointer (some ⟨tb, 0, none⟩), flV f] w (FAdd tb U L f w) := by
  cases t1 : tkn L f.opn with
  | true => exact fadd_t1 f H t1
  | false =>
    cases t2 : tkn L f.bck with
    | true => exact fadd_t2 f H t1 t2
    | false =>
      by_cases t3 : f.opn = f.bck
      · exact fadd_t3 f H t1 t2 t3
      · exact fadd_go f H t1 t2 t3
end Go.Proofs.Ytbkgjghbmafoeaa
