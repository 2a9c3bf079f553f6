/- The walks over the Find and the Taken of the document's table. Conditions: the table lies whole in memory. -/
import Derived.Test.YtbkgjghbmafoeaaRxRow
namespace Go.Proofs.Ytbkgjghbmafoeaa
open Go.RowKit
open Go.ChangeMaps (setBlock)

theorem load_keyVar {w : World} {b o : Nat} {k : FKey} (h : w.rangeAt b o (keyL k)) : (loadVar 36 ⟨b, o, none⟩).run Try.prog w = .ok (keyV k) w :=
  run_loadVar_mid w b o 36 (keyL k) _ h Try.struct36 rfl (by kernel_rfl)
theorem load_rfVar {w : World} {b o : Nat} {f : Fl} (h : w.rangeAt b o (flL f)) : (loadVar 42 ⟨b, o, none⟩).run Try.prog w = .ok (flV f) w :=
  run_loadVar_mid w b o 42 (flL f) _ h (show Try.prog.underlying 42 = some (.struct (Try.prog.fieldsOf 42)) by kernel_rfl) rfl (by kernel_rfl)
theorem exec_load_key {a : Act} {op : Oper} {w : World} {x : Operand} {b o : Nat} {k : FKey} (ho : op.op = .load 36 x) (hx : a.eval x = .pointer (some ⟨b, o, none⟩)) (h : w.rangeAt b o (keyL k)) :
    (execOp a.eval op).run Try.prog w = .ok (.value (keyV k)) w := by
  unfold execOp
  simp only [ho, hx, Instr.loadAt, Instr.sureAddr, Sem.run_bind, Sem.run_pure, Result.andThen_ok, load_keyVar h]
theorem exec_key_eql {a : Act} {op : Oper} {w : World} {x y : Operand} {p q : FKey} (ho : op.op = .binOp .eql 36 x y 36) (hx : a.eval x = keyV p) (hy : a.eval y = keyV q) (b : Bool) (hb : decide (p = q) = b) :
    (execOp a.eval op).run Try.prog w = .ok (.value (.bool b)) w := by
  unfold execOp
  simp only [ho, hx, hy, Sem.run_bind, run_eqGuard_agg w .eql 36 x y _ _ guard36, Result.andThen_ok, run_key_eql, hb, Sem.run_pure]

/-- A flow that lies in memory, handed back beside two plain results. -/
theorem res_rf3 {fn : Func} {t u v : Tmp} {f : Fl} {x y : Value} {b : Nat} (h : fn.results = #[.cell t 42, .tmp u, .tmp v]) (tmps : Array Value) (w : World) (ht : tmps.getD t undef = .pointer (some ⟨b, 0, none⟩)) (hr : w.rangeAt b 0 (flL f))
    (hu : tmps.getD u undef = x) (hv : tmps.getD v undef = y) : (results fn tmps).run Try.prog w = .ok (.tuple #[flV f, x, y]) w := by
  have ht' : tmps[t]?.getD undef = .pointer (some ⟨b, 0, none⟩) := by simpa using ht
  have hu' : tmps[u]?.getD undef = x := by simpa using hu
  have hv' : tmps[v]?.getD undef = y := by simpa using hv
  simp [results, h, ht', hu', hv', asAddr, load_rfVar hr]
theorem Try.results41' : Try.f41.results = #[.cell 4 42, .tmp 5, .tmp 6] := by kernel_rfl

theorem fnd_here {key : FKey} : ∀ {L : List Fl} {k : Nat} {f : Fl}, L[k]? = some f → (∀ j g, j < k → L[j]? = some g → g.opn ≠ key ∧ g.bck ≠ key) →
    fnd L key = if f.opn = key then some (f, false) else if f.bck = key then some (f, true) else fnd (L.drop (k + 1)) key
  | [], k, f, h, _ => by simp at h
  | g :: L, 0, f, h, _ => by
    simp only [List.getElem?_cons_zero, Option.some.injEq] at h
    subst h; simp [fnd]
  | g :: L, k + 1, f, h, hn => by
    obtain ⟨h1, h2⟩ := hn 0 g (by omega) rfl
    have := fnd_here (L := L) (k := k) (f := f) (by simpa using h) (fun j x hj hx => hn (j + 1) x (by omega) (by simpa using hx))
    rw [fnd, if_neg h1, if_neg h2, this]; rfl

def XFindRel (W : World) (L : List Fl) (key : FKey) (iv : Value) (wr : World) : Prop :=
  ∃ k : Nat, k ≤ L.length ∧ iv = .int .i64 k ∧ Off (fun _ => False) W wr ∧ ∀ j g, j < k → L[j]? = some g → g.opn ≠ key ∧ g.bck ≠ key

set_option maxRecDepth 100000 in
set_option maxHeartbeats 4000000 in
theorem xfind_any {w : World} {rb : Nat} {v : Value} {g : Option Nat} {L : List Fl} (key : FKey) (H : RxAt w rb v g L) :
    Calls Try.prog 41 #[.pointer (some ⟨rb, 0, none⟩), keyV key] w (FFind (fnd L key) w) := by
  obtain ⟨a, cap, hv, hcap, hcm, _⟩ := H.row.form
  subst hv
  have hfew := H.few
  unfold maxLen at hcm
  have hO1 : Off (fun _ => False) w ((w.alloc (.cells (keyL key).toArray 36)).alloc (.cells (flL fl0).toArray 42)) := ((Off.refl _ _).alloc _).alloc _
  have hB := (Blk.new w 36 (keyL key).toArray).alloc (.cells (flL fl0).toArray 42)
  have hR := Blk.new (w.alloc (.cells (keyL key).toArray 36)) 42 (flL fl0).toArray
  have hsz : (w.alloc (.cells (keyL key).toArray 36)).heap.size = w.heap.size + 1 := by simp
  rw [hsz] at hR
  have HO1 := Lib.hid hO1
  have HH := Lib.hid H
  clear hO1 H
  go_enter Try.func41, Try.ntmps41
  go_wp2_with fail
  clear hsz
  have HH1 := Lib.hid (HH.out.off HO1.out (fun _ _ k => k))
  change Code.wp _ _ _ _ ((w.alloc (.cells (keyL key).toArray 36)).alloc (.cells (flL fl0).toArray 42))
  generalize (w.alloc (.cells (keyL key).toArray 36)).alloc (.cells (flL fl0).toArray 42) = w1 at *
  generalize hN : w.heap.size = N at *
  have HN := Lib.hid hN
  have HB := Lib.hid hB
  have HR := Lib.hid hR
  clear hN hB hR
  go_loopw [7] (XFindRel w1 L key) (fun i _ => L.length - (intOf i).toNat)
  case atStart => exact ⟨0, Nat.zero_le _, rfl, Off.refl _ _, fun j x hj => absurd hj (Nat.not_lt_zero _)⟩
  case round =>
    obtain ⟨k, hk, rfl, hO2, hno⟩ := hrel
    have HO2 := Lib.hid hO2
    have HNo := Lib.hid hno
    have HHr := Lib.hid (HH1.out.off hO2 (fun _ _ k => k))
    have c0 : wr.cell? ⟨rb, 0, none⟩ = some (.slice a L.length cap) := HHr.out.top.cell 0
    have hRr := hO2.blk HR.out (fun k => k)
    have hBr := hO2.blk HB.out (fun k => k)
    have q0 : (0 : Int) ≤ (k : Int) := by omega
    clear hno hO2
    by_cases hlt : k < L.length
    · obtain ⟨f, hf⟩ : ∃ f, L[k]? = some f := ⟨L[k], List.getElem?_eq_getElem hlt⟩
      have q1 : (k : Int) < (L.length : Int) := by omega
      obtain ⟨b, off, rfl, hg, hrg⟩ := HHr.out.row.at hf
      have HRG := Lib.hid hrg
      have HF := Lib.hid hf
      have hgl := HHr.out.lt (.inr hg)
      have s0 : ∀ w', Off (fun _ => False) wr w' → w'.cell? ⟨rb, 0, none⟩ = some (.slice (some ⟨b, off, none⟩) L.length cap) := fun w' h => (h.blk HHr.out.top (fun k => k)).cell 0
      have HFL := Lib.hid (show ∀ w', Off (fun _ => False) wr w' → w'.rangeAt b (off + k * 20) (flL f) from fun w' h i v hv => (h.cell (p := ⟨b, off + k * 20 + i, none⟩) hgl (fun k => k)).trans (HRG.out i v hv))
      have HK1 := Lib.hid (show ∀ w', Off (fun _ => False) wr w' → w'.rangeAt b (off + k * 20 + 1) (keyL f.opn) from fun w' h => range_opn (HFL.out w' h))
      have HK2 := Lib.hid (show ∀ w', Off (fun _ => False) wr w' → w'.rangeAt b (off + k * 20 + 8) (keyL f.bck) from fun w' h => range_bck (HFL.out w' h))
      have HK := Lib.hid (show ∀ w', Off (fun _ => False) wr w' → w'.rangeAt N 0 (keyL key) from fun w' h => range_blk (h.blk hBr (fun k => k)) 0 (keyL key) (fun j v hj => by simpa using hj))
      have HRR := Lib.hid hRr
      have HHere := Lib.hid (fnd_here HF.out HNo.out)
      clear hf hrg hg hgl hRr hBr
      go_wp2_with fail
      by_cases h1 : f.opn = key
      · have E1 := Lib.hid h1
        clear h1
        refine wp_region_held_drew (S := fun w' => Off (fun _ => False) wr w') (by kernel_rfl) ((Off.refl _ _).drew) (fun hS => ?_)
        refine wpAnyH_take (i := 0) (oi := _) (v := ?_) rfl (by kernel_rfl) (by kernel_rfl) (by kernel_rfl) (fun _ _ _ h => h) (Or.inl ⟨by rfl, fun w' hSw => ?_⟩) hS ?_
        rotate_left 1
        · go_simp
          try with_reducible rfl
        try simp only [Act.put, List.getElem_toArray, List.getElem_cons_zero, List.getElem_cons_succ, List.setIfInBounds_toArray, List.set_cons_zero, List.set_cons_succ]
        refine wpAnyH_take (i := 1) (oi := _) (v := ?_) rfl (by kernel_rfl) (by kernel_rfl) (by kernel_rfl) (fun _ _ _ h => h) (Or.inl ⟨by rfl, fun w' hSw => ?_⟩) hS ?_
        rotate_left 1
        · go_simp
          try with_reducible rfl
        try simp only [Act.put, List.getElem_toArray, List.getElem_cons_zero, List.getElem_cons_succ, List.setIfInBounds_toArray, List.set_cons_zero, List.set_cons_succ]
        refine wpAnyH_take (i := 2) (oi := _) (v := ?_) rfl (by kernel_rfl) (by kernel_rfl) (by kernel_rfl) (fun _ _ _ h => h) (Or.inl ⟨by rfl, fun w' hSw => ?_⟩) hS ?_
        rotate_left 1
        · go_simp
          try with_reducible rfl
        try simp only [Act.put, List.getElem_toArray, List.getElem_cons_zero, List.getElem_cons_succ, List.setIfInBounds_toArray, List.set_cons_zero, List.set_cons_succ]
        refine wpAnyH_take (i := 3) (oi := _) (v := ?_) rfl (by kernel_rfl) (by kernel_rfl) (by kernel_rfl) (fun _ _ _ h => h) (Or.inl ⟨by rfl, fun w' hSw => ?_⟩) hS ?_
        rotate_left 1
        · go_simp
          try with_reducible rfl
        try simp only [Act.put, List.getElem_toArray, List.getElem_cons_zero, List.getElem_cons_succ, List.setIfInBounds_toArray, List.set_cons_zero, List.set_cons_succ]
        refine wpAnyH_take (i := 4) (oi := _) (v := ?_) rfl (by kernel_rfl) (by kernel_rfl) (by kernel_rfl) (fun _ _ _ h => h) (Or.inl ⟨by rfl, fun w' hSw => ?_⟩) hS ?_
        rotate_left 1
        · go_simp
          try with_reducible rfl
        try simp only [Act.put, List.getElem_toArray, List.getElem_cons_zero, List.getElem_cons_succ, List.setIfInBounds_toArray, List.set_cons_zero, List.set_cons_succ]
        refine wpAnyH_take (i := 5) (oi := _) (v := ?_) rfl (by kernel_rfl) (by kernel_rfl) (by kernel_rfl) (fun _ _ _ h => h) (Or.inl ⟨by rfl, fun w' hSw => ?_⟩) hS ?_
        rotate_left 1
        · go_simp
          try with_reducible rfl
        try simp only [Act.put, List.getElem_toArray, List.getElem_cons_zero, List.getElem_cons_succ, List.setIfInBounds_toArray, List.set_cons_zero, List.set_cons_succ]
        refine wpAnyH_take (i := 6) (oi := _) (v := ?_) rfl (by kernel_rfl) (by kernel_rfl) (by kernel_rfl) (fun _ _ _ h => h) (Or.inl ⟨by rfl, fun w' hSw => ?_⟩) hS ?_
        rotate_left 1
        · go_simp
          try with_reducible rfl
        try simp only [Act.put, List.getElem_toArray, List.getElem_cons_zero, List.getElem_cons_succ, List.setIfInBounds_toArray, List.set_cons_zero, List.set_cons_succ]
        refine wpAnyH_take (i := 7) (oi := _) (v := ?_) rfl (by kernel_rfl) (by kernel_rfl) (by kernel_rfl) (fun _ _ _ h => h) (Or.inl ⟨by rfl, fun w' hSw => ?_⟩) hS ?_
        rotate_left 1
        · refine exec_load_key (x := .tmp 23) ?_ ?_ (HK1.out w' hSw)
          · rfl
          · rfl
        try simp only [Act.put, List.getElem_toArray, List.getElem_cons_zero, List.getElem_cons_succ, List.setIfInBounds_toArray, List.set_cons_zero, List.set_cons_succ]
        refine wpAnyH_take (i := 8) (oi := _) (v := ?_) rfl (by kernel_rfl) (by kernel_rfl) (by kernel_rfl) (fun _ _ _ h => h) (Or.inl ⟨by rfl, fun w' hSw => ?_⟩) hS ?_
        rotate_left 1
        · refine exec_load_key (x := .tmp 3) ?_ ?_ (HK.out w' hSw)
          · rfl
          · rfl
        try simp only [Act.put, List.getElem_toArray, List.getElem_cons_zero, List.getElem_cons_succ, List.setIfInBounds_toArray, List.set_cons_zero, List.set_cons_succ]
        refine wpAnyH_take (i := 9) (oi := _) (v := ?_) rfl (by kernel_rfl) (by kernel_rfl) (by kernel_rfl) (fun _ _ _ h => h) (Or.inl ⟨by rfl, fun w' hSw => ?_⟩) hS ?_
        rotate_left 1
        · refine exec_key_eql (x := .tmp 24) (y := .tmp 25) ?_ ?_ ?_ true (decide_eq_true E1.out)
          · rfl
          · rfl
          · rfl
        try simp only [Act.put, List.getElem_toArray, List.getElem_cons_zero, List.getElem_cons_succ, List.setIfInBounds_toArray, List.set_cons_zero, List.set_cons_succ]
        refine wpAnyH_done (by kernel_rfl) ?_ _
        have HS := Lib.hid hS
        have HRR1 := Lib.hid (hS.blk HRR.out (fun k => k))
        have s1 := s0 _ hS
        go_wp2_with (first
          | (refine wpList_ldr (by rfl) (.tmp 32) rfl b (off + k * 20) rfl f (HFL.out _ HS.out) ?_)
          | (refine wpList_store_blk rfl 42 (.tmp 4) (.tmp 33) rfl (N + 1) 42 (flL fl0).toArray (flL f).toArray HRR1.out rfl rfl (by kernel_rfl) rfl (flL_one f) ?_; intro w5 hO5 hb5))
        refine bodyPost_ret (res_rf3 (f := f) Try.results41' _ _ rfl (range_blk hb5 0 _ (fun j v hj => by simpa using hj)) rfl rfl) rfl ?_
        rw [HHere.out, if_pos E1.out]
        exact ⟨rfl, ((HO1.out.step HO2.out (fun _ _ k => k)).step HS.out (fun _ _ k => k)).step hO5 (fun i hi e => by have := HN.out; omega)⟩
      · have E1 := Lib.hid h1
        clear h1
        refine wp_region_held_drew (S := fun w' => Off (fun _ => False) wr w') (by kernel_rfl) ((Off.refl _ _).drew) (fun hS => ?_)
        refine wpAnyH_take (i := 0) (oi := _) (v := ?_) rfl (by kernel_rfl) (by kernel_rfl) (by kernel_rfl) (fun _ _ _ h => h) (Or.inl ⟨by rfl, fun w' hSw => ?_⟩) hS ?_
        rotate_left 1
        · go_simp
          try with_reducible rfl
        try simp only [Act.put, List.getElem_toArray, List.getElem_cons_zero, List.getElem_cons_succ, List.setIfInBounds_toArray, List.set_cons_zero, List.set_cons_succ]
        refine wpAnyH_take (i := 1) (oi := _) (v := ?_) rfl (by kernel_rfl) (by kernel_rfl) (by kernel_rfl) (fun _ _ _ h => h) (Or.inl ⟨by rfl, fun w' hSw => ?_⟩) hS ?_
        rotate_left 1
        · go_simp
          try with_reducible rfl
        try simp only [Act.put, List.getElem_toArray, List.getElem_cons_zero, List.getElem_cons_succ, List.setIfInBounds_toArray, List.set_cons_zero, List.set_cons_succ]
        refine wpAnyH_take (i := 2) (oi := _) (v := ?_) rfl (by kernel_rfl) (by kernel_rfl) (by kernel_rfl) (fun _ _ _ h => h) (Or.inl ⟨by rfl, fun w' hSw => ?_⟩) hS ?_
        rotate_left 1
        · go_simp
          try with_reducible rfl
        try simp only [Act.put, List.getElem_toArray, List.getElem_cons_zero, List.getElem_cons_succ, List.setIfInBounds_toArray, List.set_cons_zero, List.set_cons_succ]
        refine wpAnyH_take (i := 3) (oi := _) (v := ?_) rfl (by kernel_rfl) (by kernel_rfl) (by kernel_rfl) (fun _ _ _ h => h) (Or.inl ⟨by rfl, fun w' hSw => ?_⟩) hS ?_
        rotate_left 1
        · go_simp
          try with_reducible rfl
        try simp only [Act.put, List.getElem_toArray, List.getElem_cons_zero, List.getElem_cons_succ, List.setIfInBounds_toArray, List.set_cons_zero, List.set_cons_succ]
        refine wpAnyH_take (i := 4) (oi := _) (v := ?_) rfl (by kernel_rfl) (by kernel_rfl) (by kernel_rfl) (fun _ _ _ h => h) (Or.inl ⟨by rfl, fun w' hSw => ?_⟩) hS ?_
        rotate_left 1
        · go_simp
          try with_reducible rfl
        try simp only [Act.put, List.getElem_toArray, List.getElem_cons_zero, List.getElem_cons_succ, List.setIfInBounds_toArray, List.set_cons_zero, List.set_cons_succ]
        refine wpAnyH_take (i := 5) (oi := _) (v := ?_) rfl (by kernel_rfl) (by kernel_rfl) (by kernel_rfl) (fun _ _ _ h => h) (Or.inl ⟨by rfl, fun w' hSw => ?_⟩) hS ?_
        rotate_left 1
        · go_simp
          try with_reducible rfl
        try simp only [Act.put, List.getElem_toArray, List.getElem_cons_zero, List.getElem_cons_succ, List.setIfInBounds_toArray, List.set_cons_zero, List.set_cons_succ]
        refine wpAnyH_take (i := 6) (oi := _) (v := ?_) rfl (by kernel_rfl) (by kernel_rfl) (by kernel_rfl) (fun _ _ _ h => h) (Or.inl ⟨by rfl, fun w' hSw => ?_⟩) hS ?_
        rotate_left 1
        · go_simp
          try with_reducible rfl
        try simp only [Act.put, List.getElem_toArray, List.getElem_cons_zero, List.getElem_cons_succ, List.setIfInBounds_toArray, List.set_cons_zero, List.set_cons_succ]
        refine wpAnyH_take (i := 7) (oi := _) (v := ?_) rfl (by kernel_rfl) (by kernel_rfl) (by kernel_rfl) (fun _ _ _ h => h) (Or.inl ⟨by rfl, fun w' hSw => ?_⟩) hS ?_
        rotate_left 1
        · refine exec_load_key (x := .tmp 23) ?_ ?_ (HK1.out w' hSw)
          · rfl
          · rfl
        try simp only [Act.put, List.getElem_toArray, List.getElem_cons_zero, List.getElem_cons_succ, List.setIfInBounds_toArray, List.set_cons_zero, List.set_cons_succ]
        refine wpAnyH_take (i := 8) (oi := _) (v := ?_) rfl (by kernel_rfl) (by kernel_rfl) (by kernel_rfl) (fun _ _ _ h => h) (Or.inl ⟨by rfl, fun w' hSw => ?_⟩) hS ?_
        rotate_left 1
        · refine exec_load_key (x := .tmp 3) ?_ ?_ (HK.out w' hSw)
          · rfl
          · rfl
        try simp only [Act.put, List.getElem_toArray, List.getElem_cons_zero, List.getElem_cons_succ, List.setIfInBounds_toArray, List.set_cons_zero, List.set_cons_succ]
        refine wpAnyH_take (i := 9) (oi := _) (v := ?_) rfl (by kernel_rfl) (by kernel_rfl) (by kernel_rfl) (fun _ _ _ h => h) (Or.inl ⟨by rfl, fun w' hSw => ?_⟩) hS ?_
        rotate_left 1
        · refine exec_key_eql (x := .tmp 24) (y := .tmp 25) ?_ ?_ ?_ false (decide_eq_false E1.out)
          · rfl
          · rfl
          · rfl
        try simp only [Act.put, List.getElem_toArray, List.getElem_cons_zero, List.getElem_cons_succ, List.setIfInBounds_toArray, List.set_cons_zero, List.set_cons_succ]
        refine wpAnyH_done (by kernel_rfl) ?_ _
        go_wp2_with fail
        have hS0 := hS
        clear hS
        by_cases h2 : f.bck = key
        · have E2 := Lib.hid h2
          clear h2
          refine wp_region_held_drew (S := fun w' => Off (fun _ => False) wr w') (by kernel_rfl) (hS0.drew) (fun hS => ?_)
          refine wpAnyH_take (i := 0) (oi := _) (v := ?_) rfl (by kernel_rfl) (by kernel_rfl) (by kernel_rfl) (fun _ _ _ h => h) (Or.inl ⟨by rfl, fun w' hSw => ?_⟩) hS ?_
          rotate_left 1
          · go_simp
            try with_reducible rfl
          try simp only [Act.put, List.getElem_toArray, List.getElem_cons_zero, List.getElem_cons_succ, List.setIfInBounds_toArray, List.set_cons_zero, List.set_cons_succ]
          refine wpAnyH_take (i := 1) (oi := _) (v := ?_) rfl (by kernel_rfl) (by kernel_rfl) (by kernel_rfl) (fun _ _ _ h => h) (Or.inl ⟨by rfl, fun w' hSw => ?_⟩) hS ?_
          rotate_left 1
          · go_simp
            try with_reducible rfl
          try simp only [Act.put, List.getElem_toArray, List.getElem_cons_zero, List.getElem_cons_succ, List.setIfInBounds_toArray, List.set_cons_zero, List.set_cons_succ]
          refine wpAnyH_take (i := 2) (oi := _) (v := ?_) rfl (by kernel_rfl) (by kernel_rfl) (by kernel_rfl) (fun _ _ _ h => h) (Or.inl ⟨by rfl, fun w' hSw => ?_⟩) hS ?_
          rotate_left 1
          · go_simp
            try with_reducible rfl
          try simp only [Act.put, List.getElem_toArray, List.getElem_cons_zero, List.getElem_cons_succ, List.setIfInBounds_toArray, List.set_cons_zero, List.set_cons_succ]
          refine wpAnyH_take (i := 3) (oi := _) (v := ?_) rfl (by kernel_rfl) (by kernel_rfl) (by kernel_rfl) (fun _ _ _ h => h) (Or.inl ⟨by rfl, fun w' hSw => ?_⟩) hS ?_
          rotate_left 1
          · go_simp
            try with_reducible rfl
          try simp only [Act.put, List.getElem_toArray, List.getElem_cons_zero, List.getElem_cons_succ, List.setIfInBounds_toArray, List.set_cons_zero, List.set_cons_succ]
          refine wpAnyH_take (i := 4) (oi := _) (v := ?_) rfl (by kernel_rfl) (by kernel_rfl) (by kernel_rfl) (fun _ _ _ h => h) (Or.inl ⟨by rfl, fun w' hSw => ?_⟩) hS ?_
          rotate_left 1
          · go_simp
            try with_reducible rfl
          try simp only [Act.put, List.getElem_toArray, List.getElem_cons_zero, List.getElem_cons_succ, List.setIfInBounds_toArray, List.set_cons_zero, List.set_cons_succ]
          refine wpAnyH_take (i := 5) (oi := _) (v := ?_) rfl (by kernel_rfl) (by kernel_rfl) (by kernel_rfl) (fun _ _ _ h => h) (Or.inl ⟨by rfl, fun w' hSw => ?_⟩) hS ?_
          rotate_left 1
          · go_simp
            try with_reducible rfl
          try simp only [Act.put, List.getElem_toArray, List.getElem_cons_zero, List.getElem_cons_succ, List.setIfInBounds_toArray, List.set_cons_zero, List.set_cons_succ]
          refine wpAnyH_take (i := 6) (oi := _) (v := ?_) rfl (by kernel_rfl) (by kernel_rfl) (by kernel_rfl) (fun _ _ _ h => h) (Or.inl ⟨by rfl, fun w' hSw => ?_⟩) hS ?_
          rotate_left 1
          · go_simp
            try with_reducible rfl
          try simp only [Act.put, List.getElem_toArray, List.getElem_cons_zero, List.getElem_cons_succ, List.setIfInBounds_toArray, List.set_cons_zero, List.set_cons_succ]
          refine wpAnyH_take (i := 7) (oi := _) (v := ?_) rfl (by kernel_rfl) (by kernel_rfl) (by kernel_rfl) (fun _ _ _ h => h) (Or.inl ⟨by rfl, fun w' hSw => ?_⟩) hS ?_
          rotate_left 1
          · refine exec_load_key (x := .tmp 40) ?_ ?_ (HK2.out w' hSw)
            · rfl
            · rfl
          try simp only [Act.put, List.getElem_toArray, List.getElem_cons_zero, List.getElem_cons_succ, List.setIfInBounds_toArray, List.set_cons_zero, List.set_cons_succ]
          refine wpAnyH_take (i := 8) (oi := _) (v := ?_) rfl (by kernel_rfl) (by kernel_rfl) (by kernel_rfl) (fun _ _ _ h => h) (Or.inl ⟨by rfl, fun w' hSw => ?_⟩) hS ?_
          rotate_left 1
          · refine exec_load_key (x := .tmp 3) ?_ ?_ (HK.out w' hSw)
            · rfl
            · rfl
          try simp only [Act.put, List.getElem_toArray, List.getElem_cons_zero, List.getElem_cons_succ, List.setIfInBounds_toArray, List.set_cons_zero, List.set_cons_succ]
          refine wpAnyH_take (i := 9) (oi := _) (v := ?_) rfl (by kernel_rfl) (by kernel_rfl) (by kernel_rfl) (fun _ _ _ h => h) (Or.inl ⟨by rfl, fun w' hSw => ?_⟩) hS ?_
          rotate_left 1
          · refine exec_key_eql (x := .tmp 41) (y := .tmp 42) ?_ ?_ ?_ true (decide_eq_true E2.out)
            · rfl
            · rfl
            · rfl
          try simp only [Act.put, List.getElem_toArray, List.getElem_cons_zero, List.getElem_cons_succ, List.setIfInBounds_toArray, List.set_cons_zero, List.set_cons_succ]
          refine wpAnyH_done (by kernel_rfl) ?_ _
          have HS := Lib.hid hS
          have HRR1 := Lib.hid (hS.blk HRR.out (fun k => k))
          have s1 := s0 _ hS
          go_wp2_with (first
            | (refine wpList_ldr (by rfl) (.tmp 49) rfl b (off + k * 20) rfl f (HFL.out _ HS.out) ?_)
            | (refine wpList_store_blk rfl 42 (.tmp 4) (.tmp 50) rfl (N + 1) 42 (flL fl0).toArray (flL f).toArray HRR1.out rfl rfl (by kernel_rfl) rfl (flL_one f) ?_; intro w5 hO5 hb5))
          refine bodyPost_ret (res_rf3 (f := f) Try.results41' _ _ rfl (range_blk hb5 0 _ (fun j v hj => by simpa using hj)) rfl rfl) rfl ?_
          rw [HHere.out, if_neg E1.out, if_pos E2.out]
          exact ⟨rfl, ((HO1.out.step HO2.out (fun _ _ k => k)).step HS.out (fun _ _ k => k)).step hO5 (fun i hi e => by have := HN.out; omega)⟩
        · have E2 := Lib.hid h2
          clear h2
          refine wp_region_held_drew (S := fun w' => Off (fun _ => False) wr w') (by kernel_rfl) (hS0.drew) (fun hS => ?_)
          refine wpAnyH_take (i := 0) (oi := _) (v := ?_) rfl (by kernel_rfl) (by kernel_rfl) (by kernel_rfl) (fun _ _ _ h => h) (Or.inl ⟨by rfl, fun w' hSw => ?_⟩) hS ?_
          rotate_left 1
          · go_simp
            try with_reducible rfl
          try simp only [Act.put, List.getElem_toArray, List.getElem_cons_zero, List.getElem_cons_succ, List.setIfInBounds_toArray, List.set_cons_zero, List.set_cons_succ]
          refine wpAnyH_take (i := 1) (oi := _) (v := ?_) rfl (by kernel_rfl) (by kernel_rfl) (by kernel_rfl) (fun _ _ _ h => h) (Or.inl ⟨by rfl, fun w' hSw => ?_⟩) hS ?_
          rotate_left 1
          · go_simp
            try with_reducible rfl
          try simp only [Act.put, List.getElem_toArray, List.getElem_cons_zero, List.getElem_cons_succ, List.setIfInBounds_toArray, List.set_cons_zero, List.set_cons_succ]
          refine wpAnyH_take (i := 2) (oi := _) (v := ?_) rfl (by kernel_rfl) (by kernel_rfl) (by kernel_rfl) (fun _ _ _ h => h) (Or.inl ⟨by rfl, fun w' hSw => ?_⟩) hS ?_
          rotate_left 1
          · go_simp
            try with_reducible rfl
          try simp only [Act.put, List.getElem_toArray, List.getElem_cons_zero, List.getElem_cons_succ, List.setIfInBounds_toArray, List.set_cons_zero, List.set_cons_succ]
          refine wpAnyH_take (i := 3) (oi := _) (v := ?_) rfl (by kernel_rfl) (by kernel_rfl) (by kernel_rfl) (fun _ _ _ h => h) (Or.inl ⟨by rfl, fun w' hSw => ?_⟩) hS ?_
          rotate_left 1
          · go_simp
            try with_reducible rfl
          try simp only [Act.put, List.getElem_toArray, List.getElem_cons_zero, List.getElem_cons_succ, List.setIfInBounds_toArray, List.set_cons_zero, List.set_cons_succ]
          refine wpAnyH_take (i := 4) (oi := _) (v := ?_) rfl (by kernel_rfl) (by kernel_rfl) (by kernel_rfl) (fun _ _ _ h => h) (Or.inl ⟨by rfl, fun w' hSw => ?_⟩) hS ?_
          rotate_left 1
          · go_simp
            try with_reducible rfl
          try simp only [Act.put, List.getElem_toArray, List.getElem_cons_zero, List.getElem_cons_succ, List.setIfInBounds_toArray, List.set_cons_zero, List.set_cons_succ]
          refine wpAnyH_take (i := 5) (oi := _) (v := ?_) rfl (by kernel_rfl) (by kernel_rfl) (by kernel_rfl) (fun _ _ _ h => h) (Or.inl ⟨by rfl, fun w' hSw => ?_⟩) hS ?_
          rotate_left 1
          · go_simp
            try with_reducible rfl
          try simp only [Act.put, List.getElem_toArray, List.getElem_cons_zero, List.getElem_cons_succ, List.setIfInBounds_toArray, List.set_cons_zero, List.set_cons_succ]
          refine wpAnyH_take (i := 6) (oi := _) (v := ?_) rfl (by kernel_rfl) (by kernel_rfl) (by kernel_rfl) (fun _ _ _ h => h) (Or.inl ⟨by rfl, fun w' hSw => ?_⟩) hS ?_
          rotate_left 1
          · go_simp
            try with_reducible rfl
          try simp only [Act.put, List.getElem_toArray, List.getElem_cons_zero, List.getElem_cons_succ, List.setIfInBounds_toArray, List.set_cons_zero, List.set_cons_succ]
          refine wpAnyH_take (i := 7) (oi := _) (v := ?_) rfl (by kernel_rfl) (by kernel_rfl) (by kernel_rfl) (fun _ _ _ h => h) (Or.inl ⟨by rfl, fun w' hSw => ?_⟩) hS ?_
          rotate_left 1
          · refine exec_load_key (x := .tmp 40) ?_ ?_ (HK2.out w' hSw)
            · rfl
            · rfl
          try simp only [Act.put, List.getElem_toArray, List.getElem_cons_zero, List.getElem_cons_succ, List.setIfInBounds_toArray, List.set_cons_zero, List.set_cons_succ]
          refine wpAnyH_take (i := 8) (oi := _) (v := ?_) rfl (by kernel_rfl) (by kernel_rfl) (by kernel_rfl) (fun _ _ _ h => h) (Or.inl ⟨by rfl, fun w' hSw => ?_⟩) hS ?_
          rotate_left 1
          · refine exec_load_key (x := .tmp 3) ?_ ?_ (HK.out w' hSw)
            · rfl
            · rfl
          try simp only [Act.put, List.getElem_toArray, List.getElem_cons_zero, List.getElem_cons_succ, List.setIfInBounds_toArray, List.set_cons_zero, List.set_cons_succ]
          refine wpAnyH_take (i := 9) (oi := _) (v := ?_) rfl (by kernel_rfl) (by kernel_rfl) (by kernel_rfl) (fun _ _ _ h => h) (Or.inl ⟨by rfl, fun w' hSw => ?_⟩) hS ?_
          rotate_left 1
          · refine exec_key_eql (x := .tmp 41) (y := .tmp 42) ?_ ?_ ?_ false (decide_eq_false E2.out)
            · rfl
            · rfl
            · rfl
          try simp only [Act.put, List.getElem_toArray, List.getElem_cons_zero, List.getElem_cons_succ, List.setIfInBounds_toArray, List.set_cons_zero, List.set_cons_succ]
          refine wpAnyH_done (by kernel_rfl) ?_ _
          have HS := Lib.hid hS
          clear hS hS0
          go_wp2_with fail
          refine ⟨⟨k + 1, by omega, by go_num, HO2.out.step HS.out (fun _ _ k => k), fun j y hj hy => ?_⟩, by simp [intOf]; omega⟩
          by_cases hjk : j = k
          · subst hjk; rw [HF.out] at hy; cases hy; exact ⟨E1.out, E2.out⟩
          · exact HNo.out j y (by omega) hy
    · have q1 : ¬ (k : Int) < (L.length : Int) := by omega
      have HNone := Lib.hid (show fnd L key = none from fnd_none.2 fun f hf => by
        obtain ⟨j, hj, rfl⟩ := List.getElem_of_mem hf
        exact HNo.out j _ (by omega) (List.getElem?_eq_getElem hj))
      have HRR := Lib.hid hRr
      clear hRr hBr
      go_wp2_with (first | (refine wpList_store_blk rfl 42 (.tmp 4) (.tmp 51) rfl (N + 1) 42 (flL fl0).toArray (flL fl0).toArray HRR.out rfl rfl (by kernel_rfl) rfl (by kernel_rfl) ?_; intro w5 hO5 hb5))
      refine bodyPost_ret (res_rf3 (f := fl0) Try.results41' _ _ rfl (range_blk hb5 0 _ (fun j v hj => by simpa using hj)) rfl rfl) rfl ?_
      rw [HNone.out]
      exact ⟨rfl, (HO1.out.step HO2.out (fun _ _ k => k)).step hO5 (fun i hi e => by have := HN.out; omega)⟩

def XTaken (L : List Fl) (key : FKey) (w : World) (e : Ending) (w' : World) : Prop := e = .returned (.bool (tkn L key)) ∧ Off (fun _ => False) w w'

theorem findV_bool (L : List Fl) (key : FKey) : ∃ f b, findV (fnd L key) = .tuple #[flV f, .bool b, .bool (tkn L key)] := by
  unfold tkn
  cases h : fnd L key with
  | none => exact ⟨fl0, false, rfl⟩
  | some x => obtain ⟨f, b⟩ := x; exact ⟨f, b, rfl⟩

set_option maxRecDepth 100000 in
set_option maxHeartbeats 4000000 in
theorem xtaken_any {w : World} {rb : Nat} {v : Value} {g : Option Nat} {L : List Fl} (key : FKey) (H : RxAt w rb v g L) :
    Calls Try.prog 24 #[.pointer (some ⟨rb, 0, none⟩), keyV key] w (XTaken L key w) := by
  have hO1 : Off (fun _ => False) w (w.alloc (.cells (keyL key).toArray 36)) := (Off.refl _ _).alloc _
  have hB := Lib.hid (Blk.new w 36 (keyL key).toArray)
  have hc := xfind_any key (H.off hO1 (fun _ _ k => k))
  have HO1 := Lib.hid hO1
  obtain ⟨f, b, hfb⟩ := findV_bool L key
  have HFB := Lib.hid hfb
  clear hO1 hfb H
  go_enter Try.func24, Try.ntmps24
  go_wp2_with (first | (refine wpList_ldk (by rfl) (.tmp 3) rfl w.heap.size 0 rfl key (range_blk hB.out 0 (keyL key) (fun j v hj => by simpa using hj)) ?_))
  refine hc.mono ?_
  rintro e w2 ⟨rfl, hO2⟩
  rw [HFB.out]
  have hNew := Lib.hid (Blk.new w2 42 (flL fl0).toArray)
  have HO2 := Lib.hid hO2
  clear hc hO2
  go_wp2_with (first | (refine wpList_store_blk rfl 42 (.tmp 5) (.tmp 12) rfl w2.heap.size 42 (flL fl0).toArray (flL f).toArray hNew.out rfl rfl (by kernel_rfl) rfl (flL_one f) ?_; intro w3 hO3 hb3))
  go_ret
  exact ⟨rfl, ((HO1.out.step HO2.out (fun _ _ k => k)).alloc _).step hO3 (fun i hi e => by have h1 := HO1.out.size; have h2 := HO2.out.size; omega)⟩
end Go.Proofs.Ytbkgjghbmafoeaa
