/- The walk over FlowScript: it returns true and writes nothing that was there. Conditions: the steps' elements are whole numbers. -/
import Derived.Test.YtbkgjghbmafoeaaFlSame
import Derived.Test.YtbkgjghbmafoeaaFlTurn
import Derived.Test.YtbkgjghbmafoeaaFlIn
import Derived.Test.YtbkgjghbmafoeaaRxAdd
import Derived.Test.YtbkgjghbmafoeaaRxRow
import Derived.Test.YtbkgjghbmafoeaaRxDues
namespace Go.Proofs.Ytbkgjghbmafoeaa
open Go.RowKit

/-- A step's cells. -/
def stepL (ns : List Int) : List Value := [.int .i64 (ns.getD 0 0), .int .i64 (ns.getD 1 0), .int .i64 (ns.getD 2 0), .int .i64 (ns.getD 3 0)] ++ flL (flAt ns 4)
theorem stepL_one (ns : List Int) : (stepL ns).toArray.all (·.oneCell') = true := by simp [stepL, flL, Value.oneCell']
theorem step_cells {w : World} {b o : Nat} {ns : List Int} (h0 : w.cell? ⟨b, o, none⟩ = some (.int .i64 (ns.getD 0 0))) (h1 : w.cell? ⟨b, o + 1, none⟩ = some (.int .i64 (ns.getD 1 0))) (h2 : w.cell? ⟨b, o + 2, none⟩ = some (.int .i64 (ns.getD 2 0)))
    (h3 : w.cell? ⟨b, o + 3, none⟩ = some (.int .i64 (ns.getD 3 0))) (h4 : w.rangeAt b (o + 4) (flL (flAt ns 4))) : w.rangeAt b o (stepL ns) := fun j v hj => by
  match j, hj with
  | 0, hj => rw [← hj]; exact h0
  | 1, hj => rw [← hj]; exact h1
  | 2, hj => rw [← hj]; exact h2
  | 3, hj => rw [← hj]; exact h3
  | j + 4, hj =>
    have := h4 j v (by simpa [stepL] using hj)
    rw [show o + (j + 4) = o + 4 + j by omega]; exact this
theorem step_blk_fl {w : World} {N : Nat} {ns : List Int} (h : Blk w N 40 (stepL ns).toArray) : w.rangeAt N 4 (flL (flAt ns 4)) :=
  range_blk h 4 _ (fun j v hj => by rw [Nat.add_comm]; simpa [stepL] using hj)
theorem step_blk_opn {w : World} {N : Nat} {ns : List Int} (h : Blk w N 40 (stepL ns).toArray) : w.rangeAt N 5 (keyL (flAt ns 4).opn) := range_opn (o := 4) (step_blk_fl h)
theorem Try.struct40 : Try.prog.underlying 40 = some (.struct (Try.prog.fieldsOf 40)) := by kernel_rfl

theorem exec_key_neq {a : Act} {op : Oper} {w : World} {x y : Operand} {p q : FKey} (ho : op.op = .binOp .neq 36 x y 36) (hx : a.eval x = keyV p) (hy : a.eval y = keyV q) (b : Bool) (hb : (!decide (p = q)) = b) :
    (execOp a.eval op).run Try.prog w = .ok (.value (.bool b)) w := by
  unfold execOp
  simp only [ho, hx, hy, Sem.run_bind, run_eqGuard_agg w .neq 36 x y _ _ guard36, Result.andThen_ok, run_key_neq, hb, Sem.run_pure]

/-- Two answers to one question. -/
theorem both_same {P Q : Prop} {b c : Bool} (h : b = true ∧ P ∨ b = false ∧ Q) (k : c = true ∧ P ∨ c = false ∧ Q) (hn : P → Q → False) : b = c := by
  rcases h with ⟨rfl, h⟩ | ⟨rfl, h⟩ <;> rcases k with ⟨rfl, k⟩ | ⟨rfl, k⟩
  · rfl
  · exact (hn h k).elim
  · exact (hn k h).elim
  · rfl

def ScriptRel (W : World) (tb rb : Nat) (len : Nat) (iv : Value) (wr : World) : Prop :=
  ∃ (k : Nat) (U : Nat → Prop) (L : List Fl) (v : Value) (g : Option Nat), k ≤ len ∧ iv = .int .i64 k ∧ Tbl wr tb U L ∧ RxAt wr rb v g L ∧ (∀ i, U i → W.heap.size ≤ i) ∧ (∀ i, RxOwn rb g i → W.heap.size ≤ i) ∧ Below W.heap.size W wr

/-- Behind a step: both tables hold the same; the step lies where it lay. -/
def ScriptMid (W : World) (tb rb X : Nat) (ns : List Int) (wx : World) : Prop :=
  ∃ (U : Nat → Prop) (L : List Fl) (v : Value) (g : Option Nat), Tbl wx tb U L ∧ RxAt wx rb v g L ∧ (∀ i, U i → W.heap.size ≤ i) ∧ (∀ i, RxOwn rb g i → W.heap.size ≤ i) ∧ Below W.heap.size W wx ∧ Blk wx X 40 (stepL ns).toArray

/-- The one table's step, then the other's. -/
theorem ScriptMid.mk {W w4 w5 w6 : World} {tb rb X : Nat} {ns : List Int} {U U5 : Nat → Prop} {L M : List Fl} {v v6 : Value} {g g6 : Option Nat} (HR : RxAt w4 rb v g L) (HT : Tbl w4 tb U L) (HX : Blk w4 X 40 (stepL ns).toArray) (hU : ∀ i, U i → W.heap.size ≤ i) (hR : ∀ i, RxOwn rb g i → W.heap.size ≤ i) (hbel : Below W.heap.size W w4)
    (HT5 : Tbl w5 tb U5 M) (hO5 : Off U w4 w5) (hU5 : ∀ i, U5 i → U i ∨ w4.heap.size ≤ i) (HR6 : RxAt w6 rb v6 g6 M) (hO6 : Off (· = rb) w5 w6) (hg6 : g6 = g ∨ ∀ i, g6 = some i → w5.heap.size ≤ i) : ScriptMid W tb rb X ns w6 := by
  have hB5 := below_off hbel hO5 (Nat.le_refl _) (fun i hi k => by have := hU i k; omega)
  have HR5 := HR.off hO5 (HT.apart HR)
  refine ⟨U5, M, v6, g6, HT5.off hO6 (fun i hi e => HT5.apart HR5 rb (.inl rfl) (e ▸ hi)), HR6, fun i hi => ?_, ?_, below_off hB5 hO6 (Nat.le_refl _) (fun i hi e => by have := hR rb (.inl rfl); omega), hO6.blk (hO5.blk HX fun h => HT.not_blk HX (by decide) (by decide) (by decide) (by decide) (by decide) h) fun e => blk_ne HX HR.top (by decide) e⟩
  · rcases hU5 i hi with h | h
    · exact hU i h
    · exact Nat.le_trans hbel.size h
  · rintro i (rfl | hi)
    · exact hR _ (.inl rfl)
    · rcases hg6 with rfl | h
      · exact hR _ (.inr hi)
      · exact Nat.le_trans hB5.size (h i hi)

theorem ScriptMid.off {W wx wy : World} {tb rb X : Nat} {ns : List Int} (h : ScriptMid W tb rb X ns wx) (k : Off (fun _ => False) wx wy) : ScriptMid W tb rb X ns wy := by
  obtain ⟨U, L, v, g, h1, h2, h3, h4, h5, h6⟩ := h
  exact ⟨U, L, v, g, h1.off k (fun _ _ k => k), h2.off k (fun _ _ k => k), h3, h4, below_off h5 k (Nat.le_refl _) (fun _ _ k => k), k.blk h6 fun k => k⟩

set_option maxRecDepth 100000 in
set_option maxHeartbeats 8000000 in
theorem script_walk (a : Option Addr) (len cap : Nat) (F : Nat → List Int) (w : World) (hin : Elems stepKs w a len F) (hlen : len ≤ 9223372036854775807) :
    Calls Try.prog 4 #[.slice a len cap] w fun e w' => e = .returned (.bool true) ∧ Below w.heap.size w w' := by
  by_cases hbig : 1024 < len
  · go_enter Try.func4, Try.ntmps4
    go_wp2_with fail
    go_ret
    exact ⟨rfl, Below.refl _ _⟩
  have hbig' : (len : Int) ≤ 1024 := by omega
  go_enter Try.func4, Try.ntmps4
  go_wp2_with fail
  refine (fnew_any w).mono ?_
  rintro e w2 ⟨tb, U0, rfl, HT0, hU0, hO0⟩
  have hO3 : Off (fun _ => False) w2 (w2.alloc (.cells #[.slice none 0 0] 28)) := (Off.refl _ _).alloc _
  have HT3 := HT0.off hO3 fun _ _ k => k
  have HR3 := RxAt.new w2
  have hbel3 := below_off (hO0.below (Nat.le_refl _) (fun _ _ h => h)) hO3 (Nat.le_refl _) (fun _ _ k => k)
  have hrbw : w.heap.size ≤ w2.heap.size := hO0.size
  go_wp2_with fail
  generalize w2.alloc (.cells #[.slice none 0 0] 28) = w3 at *
  generalize w2.heap.size = rb at *
  go_loopw [5] (ScriptRel w tb rb len) (fun i _ => len - (intOf i).toNat)
  case atStart => exact ⟨0, U0, [], _, _, Nat.zero_le _, rfl, HT3, HR3, hU0, (fun i h => by
    rcases h with rfl | h
    · exact hrbw
    · cases h), hbel3⟩
  case round =>
    clear HT0 HT3 HR3 hbel3 hO0 hO3 hU0
    obtain ⟨k, U, L, v, g, hk, rfl, HT, HR, hU, hR, hbel⟩ := hrel
    have q0 : (0 : Int) ≤ (k : Int) := by omega
    have HU := Lib.hid hU
    have HRo := Lib.hid hR
    clear hU hR
    by_cases hlt : k < len
    · have q1 : (k : Int) < (len : Int) := by omega
      obtain ⟨b, off, rfl, hbl, s0, s1, s2, s3, hrg⟩ := step_range hin hbel hlt
      have hst := Lib.hid (step_cells s0 s1 s2 s3 hrg)
      clear s0 s1 s2 s3 hrg
      generalize F k = ns at *
      have hNew := Lib.hid (Blk.new wr 40 (stepL []).toArray)
      have hOa := Lib.hid ((Off.refl (fun _ => False) wr).alloc (.cells (stepL []).toArray 40))
      have HTr := Lib.hid HT
      have HRr := Lib.hid HR
      have HBel := Lib.hid hbel
      clear HT HR hbel
      obtain ⟨kind, hkd⟩ : ∃ kind, ns.getD 0 0 = kind := ⟨_, rfl⟩
      have HKD := Lib.hid hkd
      clear hkd
      go_upto_block 2 with (first
        | (refine wpList_ld (by rfl) 40 (.tmp 29) rfl b (off + k * 24) rfl (stepL ns) _ hst.out Try.struct40 rfl (by kernel_rfl) ?_)
        | (refine wpList_store_blk rfl 40 (.tmp 6) (.tmp 30) rfl wr.heap.size 40 (stepL []).toArray (stepL ns).toArray hNew.out rfl rfl (by kernel_rfl) rfl (stepL_one _) ?_; intro w4 hO4 hX4; have x0 : w4.cell? ⟨wr.heap.size, 0, none⟩ = some (.int .i64 kind) := (hX4.cell 0).trans (congrArg (fun n => some (Value.int .i64 n)) HKD.out)))
      have hO14 : Off (· = wr.heap.size) wr w4 := (hOa.out.mono (S' := (· = wr.heap.size)) fun _ _ k => k.elim).step hO4 fun _ _ e => e
      have HT4 := Lib.hid (HTr.out.off hO14 (fun i hi e => by have := HTr.out.lt hi; omega))
      have HR4 := Lib.hid (HRr.out.off hO14 (fun i hi e => by have := HRr.out.lt hi; omega))
      have HBel4 := Lib.hid (below_off HBel.out hO14 (Nat.le_refl _) (fun i hi e => by have := HBel.out.size; omega))
      generalize hX : wr.heap.size = X at *
      have HX4 := Lib.hid hX4
      have OK := Lib.hid HT4.out.ok
      have x1 : w4.cell? ⟨X, 1, none⟩ = some (.int .i64 (ns.getD 1 0)) := hX4.cell 1
      have x2 : w4.cell? ⟨X, 2, none⟩ = some (.int .i64 (ns.getD 2 0)) := hX4.cell 2
      have x3 : w4.cell? ⟨X, 3, none⟩ = some (.int .i64 (ns.getD 3 0)) := hX4.cell 3
      generalize hkn : ns.getD 1 0 = kn at *
      generalize hks : ns.getD 2 0 = kst at *
      generalize hke : ns.getD 3 0 = kends at *
      have HK := Lib.hid (And.intro hkn (And.intro hks hke))
      clear hX hkn hks hke hX4 hO4 hO14 hNew hOa hst HTr HRr HBel
      go_cut [] (fun wx => ScriptMid w tb rb X ns wx)
      case first =>
        have HXn := Lib.hid (show ¬ (U X ∨ X = rb) from fun h => by
          rcases h with h | h
          · exact HT4.out.not_blk HX4.out (by decide) (by decide) (by decide) (by decide) (by decide) h
          · exact blk_ne HX4.out HR4.out.top (by decide) h)
        have hOd : Off (fun _ => False) w4 w4.drew := (Off.refl _ _).drew
        have HTd := Lib.hid (HT4.out.off hOd fun _ _ k => k)
        have HRd := Lib.hid (HR4.out.off hOd fun _ _ k => k)
        have HXd := Lib.hid (hOd.blk HX4.out fun k => k)
        have HBeld := Lib.hid (below_off HBel4.out hOd (Nat.le_refl _) fun _ _ k => k)
        clear hOd
        by_cases hk0 : kind = 0
        · subst hk0
          have hfa := fadd_any (flAt ns 4) HT4.out
          clear x1 x2 x3
          go_wp2_with (first | (refine wpList_ldf (by rfl) (.tmp 37) rfl X 4 rfl (flAt ns 4) (step_blk_fl HX4.out) ?_))
          refine hfa.mono ?_
          rintro e w5 ⟨U5, he, HT5, hO5, hU5⟩
          have HR5 := HR4.out.off hO5 (HT4.out.apart HR4.out)
          have HX5 := Lib.hid (hO5.blk HX4.out fun h => HT4.out.not_blk HX4.out (by decide) (by decide) (by decide) (by decide) (by decide) h)
          have hxa := xadd_any (flAt ns 4) HR5 OK.out
          obtain ⟨A, hA⟩ : ∃ A, addF L (flAt ns 4) = A := ⟨_, rfl⟩
          obtain ⟨i1, i2, i3, M⟩ := A
          rw [hA] at he HT5
          subst he
          have HA := Lib.hid hA
          have HT5' := Lib.hid HT5
          have HO5 := Lib.hid hO5
          have HU5 := Lib.hid hU5
          unfold addV
          clear hfa hA HT5 hO5 hU5 x0
          go_wp2_with (first | (refine wpList_ldf (by rfl) (.tmp 45) rfl X 4 rfl (flAt ns 4) (step_blk_fl HX5.out) ?_))
          refine hxa.mono ?_
          rintro e w6 ⟨v6, g6, he, HR6, hO6, hg6⟩
          rw [HA.out] at he HR6
          subst he
          have HM := Lib.hid (ScriptMid.mk HR4.out HT4.out HX4.out HU.out HRo.out HBel4.out HT5'.out HO5.out HU5.out HR6 hO6 hg6)
          unfold addV
          clear hxa HR6 hO6 hg6
          go_wp2_with fail
          go_meet
          exact HM.out
        by_cases hk1 : kind = 1
        · subst hk1
          have y1 : ∀ w', Off (fun i => U i ∨ i = rb) w4 w' → w'.cell? ⟨X, 1, none⟩ = some (.int .i64 kn) := fun w' h => ((h.blk HX4.out HXn.out).cell 1).trans (congrArg (fun n => some (Value.int .i64 n)) HK.out.1)
          have y2 : ∀ w', Off (fun i => U i ∨ i = rb) w4 w' → w'.cell? ⟨X, 2, none⟩ = some (.int .i64 kst) := fun w' h => ((h.blk HX4.out HXn.out).cell 2).trans (congrArg (fun n => some (Value.int .i64 n)) HK.out.2.1)
          have y3 : ∀ w', Off (fun i => U i ∨ i = rb) w4 w' → w'.cell? ⟨X, 3, none⟩ = some (.int .i64 kends) := fun w' h => ((h.blk HX4.out HXn.out).cell 3).trans (congrArg (fun n => some (Value.int .i64 n)) HK.out.2.2)
          clear x1 x2 x3 hk0
          go_upto_region 18 with fail
          clear x0
          refine wp_region_held_drew (S := fun w' => Off (fun i => U i ∨ i = rb) w4 w') (by kernel_rfl) ((Off.refl _ _).drew) (fun hS => ?_)
          refine wpAnyH_take (i := 0) (oi := _) (v := ?_) rfl (by kernel_rfl) (by kernel_rfl) (by kernel_rfl) (fun _ _ _ h => h) (Or.inl ⟨by rfl, fun w' hSw => ?_⟩) hS ?_
          rotate_left 1
          · go_simp
            try with_reducible rfl
          try simp only [Act.put, List.getElem_toArray, List.getElem_cons_zero, List.setIfInBounds_toArray, List.set_cons_zero, List.set_cons_succ]
          refine wpAnyH_take (i := 1) (oi := _) (v := ?_) rfl (by kernel_rfl) (by kernel_rfl) (by kernel_rfl) (fun _ _ _ h => h) (Or.inl ⟨by rfl, fun w' hSw => ?_⟩) hS ?_
          rotate_left 1
          · go_simp
            try with_reducible rfl
          try simp only [Act.put, List.getElem_toArray, List.getElem_cons_zero, List.getElem_cons_succ, List.setIfInBounds_toArray, List.set_cons_zero, List.set_cons_succ]
          refine wpAnyH_take (i := 2) (oi := _) (v := ?_) rfl (by kernel_rfl) (by kernel_rfl) (by kernel_rfl) (fun _ _ _ h => h) (Or.inl ⟨by rfl, fun w' hSw => ?_⟩) hS ?_
          rotate_left 1
          · go_simp
            try with_reducible rfl
          try simp only [Act.put, List.getElem_toArray, List.getElem_cons_zero, List.getElem_cons_succ, List.setIfInBounds_toArray, List.set_cons_zero, List.set_cons_succ]
          refine wpAnyH_take (i := 3) (oi := _) (v := ?_) rfl (by kernel_rfl) (by kernel_rfl) (by kernel_rfl) (fun _ _ _ h => h) (Or.inl ⟨by rfl, fun w' hSw => ?_⟩) hS ?_
          rotate_left 1
          · go_simp
            try with_reducible rfl
          try simp only [Act.put, List.getElem_toArray, List.getElem_cons_zero, List.getElem_cons_succ, List.setIfInBounds_toArray, List.set_cons_zero, List.set_cons_succ]
          refine wpAnyH_take (i := 4) (oi := _) (v := ?_) rfl (by kernel_rfl) (by kernel_rfl) (by kernel_rfl) (fun _ _ _ h => h) (Or.inl ⟨by rfl, fun w' hSw => ?_⟩) hS ?_
          rotate_left 1
          · go_simp
            try with_reducible rfl
          try simp only [Act.put, List.getElem_toArray, List.getElem_cons_zero, List.getElem_cons_succ, List.setIfInBounds_toArray, List.set_cons_zero, List.set_cons_succ]
          refine wpAnyH_take (i := 5) (oi := _) (v := ?_) rfl (by kernel_rfl) (by kernel_rfl) (by kernel_rfl) (fun _ _ _ h => h) (Or.inl ⟨by rfl, fun w' hSw => ?_⟩) hS ?_
          rotate_left 1
          · go_simp
            try with_reducible rfl
          try simp only [Act.put, List.getElem_toArray, List.getElem_cons_zero, List.getElem_cons_succ, List.setIfInBounds_toArray, List.set_cons_zero, List.set_cons_succ]
          refine wpAnyH_take (i := 6) (oi := _) (v := ?_) rfl (by kernel_rfl) (by kernel_rfl) (by kernel_rfl) (fun _ _ _ h => h) (Or.inl ⟨by rfl, fun w' hSw => ?_⟩) hS ?_
          rotate_left 1
          · go_simp
            try with_reducible rfl
          try simp only [Act.put, List.getElem_toArray, List.getElem_cons_zero, List.getElem_cons_succ, List.setIfInBounds_toArray, List.set_cons_zero, List.set_cons_succ]
          refine wpAnyH_take (i := 8) (oi := _) (v := ?_) rfl (by kernel_rfl) (by kernel_rfl) (by kernel_rfl) (fun _ _ _ h => h) (Or.inl ⟨by rfl, fun w' hSw => ?_⟩) hS ?_
          rotate_left 1
          · go_simp
            try with_reducible rfl
          try simp only [Act.put, List.getElem_toArray, List.getElem_cons_zero, List.getElem_cons_succ, List.setIfInBounds_toArray, List.set_cons_zero, List.set_cons_succ]
          refine wpAnyH_take (i := 9) (oi := _) (v := ?_) rfl (by kernel_rfl) (by kernel_rfl) (by kernel_rfl) (fun _ _ _ h => h) (Or.inl ⟨by rfl, fun w' hSw => ?_⟩) hS ?_
          rotate_left 1
          · go_simp
            try with_reducible rfl
          try simp only [Act.put, List.getElem_toArray, List.getElem_cons_zero, List.getElem_cons_succ, List.setIfInBounds_toArray, List.set_cons_zero, List.set_cons_succ]
          refine wpAnyH_take (i := 10) (oi := _) (v := ?_) rfl (by kernel_rfl) (by kernel_rfl) (by kernel_rfl) (fun _ _ _ h => h) (Or.inl ⟨by rfl, fun w' hSw => ?_⟩) hS ?_
          rotate_left 1
          · go_simp
            try with_reducible rfl
          try simp only [Act.put, List.getElem_toArray, List.getElem_cons_zero, List.getElem_cons_succ, List.setIfInBounds_toArray, List.set_cons_zero, List.set_cons_succ]
          refine wpAnyH_take (i := 11) (oi := _) (v := ?_) rfl (by kernel_rfl) (by kernel_rfl) (by kernel_rfl) (fun _ _ _ h => h) (Or.inl ⟨by rfl, fun w' hSw => ?_⟩) hS ?_
          rotate_left 1
          · go_simp
            try with_reducible rfl
          try simp only [Act.put, List.getElem_toArray, List.getElem_cons_zero, List.getElem_cons_succ, List.setIfInBounds_toArray, List.set_cons_zero, List.set_cons_succ]
          refine wpAnyH_take (i := 12) (oi := _) (v := ?_) rfl (by kernel_rfl) (by kernel_rfl) (by kernel_rfl) (fun _ _ _ h => h) (Or.inl ⟨by rfl, fun w' hSw => ?_⟩) hS ?_
          rotate_left 1
          · go_simp
            try with_reducible rfl
          try simp only [Act.put, List.getElem_toArray, List.getElem_cons_zero, List.getElem_cons_succ, List.setIfInBounds_toArray, List.set_cons_zero, List.set_cons_succ]
          refine wpAnyH_take (i := 13) (oi := _) (v := ?_) rfl (by kernel_rfl) (by kernel_rfl) (by kernel_rfl) (fun _ _ _ h => h) (Or.inl ⟨by rfl, fun w' hSw => ?_⟩) hS ?_
          rotate_left 1
          · go_simp
            try with_reducible rfl
          try simp only [Act.put, List.getElem_toArray, List.getElem_cons_zero, List.getElem_cons_succ, List.setIfInBounds_toArray, List.set_cons_zero, List.set_cons_succ]
          refine wpAnyH_take (i := 14) (oi := _) (v := ?_) rfl (by kernel_rfl) (by kernel_rfl) (by kernel_rfl) (fun _ _ _ h => h) (Or.inl ⟨by rfl, fun w' hSw => ?_⟩) hS ?_
          rotate_left 1
          · go_simp
            try with_reducible rfl
          try simp only [Act.put, List.getElem_toArray, List.getElem_cons_zero, List.getElem_cons_succ, List.setIfInBounds_toArray, List.set_cons_zero, List.set_cons_succ]
          refine wpAnyH_ready (rs := [7]) (by kernel_rfl) (by simp) (AllReadyH.cons rfl (fun K hK => ?_) AllReadyH.nil)
          go_simp
          refine (fset_any kn kst kends HTd.out).mono ?_
          rintro e w5 ⟨U5, b5, rfl, hb5, HT5, hO5, hU5⟩
          have HR5 := Lib.hid (HRd.out.off hO5 (HTd.out.apart HRd.out))
          have HT5' := Lib.hid HT5
          have HO5 := Lib.hid hO5
          have HU5 := Lib.hid hU5
          have HB5 := Lib.hid hb5
          clear HT5 hO5 hU5 hb5
          go_wp2_with fail
          refine hK.out _ _ (hS.step HO5.out (fun _ _ h => .inl h)) (fun hS2 => ?_)
          clear hK K
          try simp only [Act.put, List.getElem_toArray, List.getElem_cons_zero, List.getElem_cons_succ, List.setIfInBounds_toArray, List.set_cons_zero, List.set_cons_succ]
          refine wpAnyH_ready (rs := [15]) (by kernel_rfl) (by simp) (AllReadyH.cons rfl (fun K hK => ?_) AllReadyH.nil)
          go_simp
          refine (xset_any kn kst kends HR5.out OK.out).mono ?_
          rintro e w6 ⟨v6, g6, b6, rfl, hb6, HR6, hO6, hg6⟩
          obtain rfl : b5 = b6 := both_same HB5.out hb6 (fun ⟨x, hx, he⟩ hn => hn x hx he)
          have HM := Lib.hid (ScriptMid.mk HRd.out HTd.out HXd.out HU.out HRo.out HBeld.out HT5'.out HO5.out HU5.out HR6 hO6 hg6)
          have HO6 := Lib.hid hO6
          clear hb6 HR6 hO6 hg6
          go_wp2_with fail
          refine hK.out _ _ (hS2.step HO6.out (fun _ _ h => .inr h)) (fun hS3 => ?_)
          clear hK K
          try simp only [Act.put, List.getElem_toArray, List.getElem_cons_zero, List.getElem_cons_succ, List.setIfInBounds_toArray, List.set_cons_zero, List.set_cons_succ]
          refine wpAnyH_take (i := 16) (oi := _) (v := ?_) rfl (by kernel_rfl) (by kernel_rfl) (by kernel_rfl) (fun _ _ _ h => h) (Or.inl ⟨by rfl, fun w' hSw => ?_⟩) hS3 ?_
          rotate_left 1
          · go_simp
            try with_reducible rfl
          try simp only [Act.put, List.getElem_toArray, List.getElem_cons_zero, List.getElem_cons_succ, List.setIfInBounds_toArray, List.set_cons_zero, List.set_cons_succ]
          refine wpAnyH_done (by kernel_rfl) ?_ _
          clear hS hS2 hS3 y1 y2 y3
          go_wp2_with fail
          go_meet
          exact HM.out
        by_cases hk2 : kind = 2
        · subst hk2
          have y1 : ∀ w', Off (fun i => U i ∨ i = rb) w4 w' → w'.cell? ⟨X, 1, none⟩ = some (.int .i64 kn) := fun w' h => ((h.blk HX4.out HXn.out).cell 1).trans (congrArg (fun n => some (Value.int .i64 n)) HK.out.1)
          clear x1 x2 x3 hk0 hk1
          go_upto_region 21 with fail
          clear x0
          refine wp_region_held_drew (S := fun w' => Off (fun i => U i ∨ i = rb) w4 w') (by kernel_rfl) ((Off.refl _ _).drew) (fun hS => ?_)
          refine wpAnyH_take (i := 0) (oi := _) (v := ?_) rfl (by kernel_rfl) (by kernel_rfl) (by kernel_rfl) (fun _ _ _ h => h) (Or.inl ⟨by rfl, fun w' hSw => ?_⟩) hS ?_
          rotate_left 1
          · go_simp
            try with_reducible rfl
          try simp only [Act.put, List.getElem_toArray, List.getElem_cons_zero, List.setIfInBounds_toArray, List.set_cons_zero, List.set_cons_succ]
          refine wpAnyH_take (i := 1) (oi := _) (v := ?_) rfl (by kernel_rfl) (by kernel_rfl) (by kernel_rfl) (fun _ _ _ h => h) (Or.inl ⟨by rfl, fun w' hSw => ?_⟩) hS ?_
          rotate_left 1
          · go_simp
            try with_reducible rfl
          try simp only [Act.put, List.getElem_toArray, List.getElem_cons_zero, List.getElem_cons_succ, List.setIfInBounds_toArray, List.set_cons_zero, List.set_cons_succ]
          refine wpAnyH_take (i := 2) (oi := _) (v := ?_) rfl (by kernel_rfl) (by kernel_rfl) (by kernel_rfl) (fun _ _ _ h => h) (Or.inl ⟨by rfl, fun w' hSw => ?_⟩) hS ?_
          rotate_left 1
          · go_simp
            try with_reducible rfl
          try simp only [Act.put, List.getElem_toArray, List.getElem_cons_zero, List.getElem_cons_succ, List.setIfInBounds_toArray, List.set_cons_zero, List.set_cons_succ]
          refine wpAnyH_take (i := 4) (oi := _) (v := ?_) rfl (by kernel_rfl) (by kernel_rfl) (by kernel_rfl) (fun _ _ _ h => h) (Or.inl ⟨by rfl, fun w' hSw => ?_⟩) hS ?_
          rotate_left 1
          · go_simp
            try with_reducible rfl
          try simp only [Act.put, List.getElem_toArray, List.getElem_cons_zero, List.getElem_cons_succ, List.setIfInBounds_toArray, List.set_cons_zero, List.set_cons_succ]
          refine wpAnyH_take (i := 5) (oi := _) (v := ?_) rfl (by kernel_rfl) (by kernel_rfl) (by kernel_rfl) (fun _ _ _ h => h) (Or.inl ⟨by rfl, fun w' hSw => ?_⟩) hS ?_
          rotate_left 1
          · go_simp
            try with_reducible rfl
          try simp only [Act.put, List.getElem_toArray, List.getElem_cons_zero, List.getElem_cons_succ, List.setIfInBounds_toArray, List.set_cons_zero, List.set_cons_succ]
          refine wpAnyH_take (i := 6) (oi := _) (v := ?_) rfl (by kernel_rfl) (by kernel_rfl) (by kernel_rfl) (fun _ _ _ h => h) (Or.inl ⟨by rfl, fun w' hSw => ?_⟩) hS ?_
          rotate_left 1
          · go_simp
            try with_reducible rfl
          try simp only [Act.put, List.getElem_toArray, List.getElem_cons_zero, List.getElem_cons_succ, List.setIfInBounds_toArray, List.set_cons_zero, List.set_cons_succ]
          refine wpAnyH_ready (rs := [3]) (by kernel_rfl) (by simp) (AllReadyH.cons rfl (fun K hK => ?_) AllReadyH.nil)
          go_simp
          refine (fdrop_any kn HTd.out).mono ?_
          rintro e w5 ⟨U5, b5, rfl, hb5, HT5, hO5, hU5⟩
          have HR5 := Lib.hid (HRd.out.off hO5 (HTd.out.apart HRd.out))
          have HT5' := Lib.hid HT5
          have HO5 := Lib.hid hO5
          have HU5 := Lib.hid (show ∀ i, U5 i → U i ∨ w4.drew.heap.size ≤ i from fun i hi => .inl (hU5 i hi))
          have HB5 := Lib.hid hb5
          clear HT5 hO5 hU5 hb5
          go_wp2_with fail
          refine hK.out _ _ (hS.step HO5.out (fun _ _ h => .inl h)) (fun hS2 => ?_)
          clear hK K
          try simp only [Act.put, List.getElem_toArray, List.getElem_cons_zero, List.getElem_cons_succ, List.setIfInBounds_toArray, List.set_cons_zero, List.set_cons_succ]
          refine wpAnyH_ready (rs := [7]) (by kernel_rfl) (by simp) (AllReadyH.cons rfl (fun K hK => ?_) AllReadyH.nil)
          go_simp
          refine (xdrop_any kn HR5.out OK.out).mono ?_
          rintro e w6 ⟨v6, g6, b6, rfl, hb6, HR6, hO6, hg6⟩
          obtain rfl : b5 = b6 := both_same HB5.out hb6 (fun ⟨x, hx, he⟩ hn => hn x hx he)
          have HM := Lib.hid (ScriptMid.mk HRd.out HTd.out HXd.out HU.out HRo.out HBeld.out HT5'.out HO5.out HU5.out HR6 hO6 hg6)
          have HO6 := Lib.hid hO6
          clear hb6 HR6 hO6 hg6
          go_wp2_with fail
          refine hK.out _ _ (hS2.step HO6.out (fun _ _ h => .inr h)) (fun hS3 => ?_)
          clear hK K
          try simp only [Act.put, List.getElem_toArray, List.getElem_cons_zero, List.getElem_cons_succ, List.setIfInBounds_toArray, List.set_cons_zero, List.set_cons_succ]
          refine wpAnyH_take (i := 8) (oi := _) (v := ?_) rfl (by kernel_rfl) (by kernel_rfl) (by kernel_rfl) (fun _ _ _ h => h) (Or.inl ⟨by rfl, fun w' hSw => ?_⟩) hS3 ?_
          rotate_left 1
          · go_simp
            try with_reducible rfl
          try simp only [Act.put, List.getElem_toArray, List.getElem_cons_zero, List.getElem_cons_succ, List.setIfInBounds_toArray, List.set_cons_zero, List.set_cons_succ]
          refine wpAnyH_done (by kernel_rfl) ?_ _
          clear hS hS2 hS3 y1
          go_wp2_with fail
          go_meet
          exact HM.out
        by_cases hk3 : kind = 3
        · subst hk3
          have y3 : ∀ w', Off (fun i => U i ∨ i = rb) w4 w' → w'.cell? ⟨X, 3, none⟩ = some (.int .i64 kends) := fun w' h => ((h.blk HX4.out HXn.out).cell 3).trans (congrArg (fun n => some (Value.int .i64 n)) HK.out.2.2)
          clear x1 x2 x3 hk0 hk1 hk2
          go_upto_region 24 with fail
          clear x0
          refine wp_region_held_drew (S := fun w' => Off (fun i => U i ∨ i = rb) w4 w') (by kernel_rfl) ((Off.refl _ _).drew) (fun hS => ?_)
          refine wpAnyH_take (i := 0) (oi := _) (v := ?_) rfl (by kernel_rfl) (by kernel_rfl) (by kernel_rfl) (fun _ _ _ h => h) (Or.inl ⟨by rfl, fun w' hSw => ?_⟩) hS ?_
          rotate_left 1
          · go_simp
            try with_reducible rfl
          try simp only [Act.put, List.getElem_toArray, List.getElem_cons_zero, List.setIfInBounds_toArray, List.set_cons_zero, List.set_cons_succ]
          refine wpAnyH_take (i := 1) (oi := _) (v := ?_) rfl (by kernel_rfl) (by kernel_rfl) (by kernel_rfl) (fun _ _ _ h => h) (Or.inl ⟨by rfl, fun w' hSw => ?_⟩) hS ?_
          rotate_left 1
          · go_simp
            try with_reducible rfl
          try simp only [Act.put, List.getElem_toArray, List.getElem_cons_zero, List.getElem_cons_succ, List.setIfInBounds_toArray, List.set_cons_zero, List.set_cons_succ]
          refine wpAnyH_take (i := 2) (oi := _) (v := ?_) rfl (by kernel_rfl) (by kernel_rfl) (by kernel_rfl) (fun _ _ _ h => h) (Or.inl ⟨by rfl, fun w' hSw => ?_⟩) hS ?_
          rotate_left 1
          · go_simp
            try with_reducible rfl
          try simp only [Act.put, List.getElem_toArray, List.getElem_cons_zero, List.getElem_cons_succ, List.setIfInBounds_toArray, List.set_cons_zero, List.set_cons_succ]
          refine wpAnyH_take (i := 4) (oi := _) (v := ?_) rfl (by kernel_rfl) (by kernel_rfl) (by kernel_rfl) (fun _ _ _ h => h) (Or.inl ⟨by rfl, fun w' hSw => ?_⟩) hS ?_
          rotate_left 1
          · go_simp
            try with_reducible rfl
          try simp only [Act.put, List.getElem_toArray, List.getElem_cons_zero, List.getElem_cons_succ, List.setIfInBounds_toArray, List.set_cons_zero, List.set_cons_succ]
          refine wpAnyH_take (i := 5) (oi := _) (v := ?_) rfl (by kernel_rfl) (by kernel_rfl) (by kernel_rfl) (fun _ _ _ h => h) (Or.inl ⟨by rfl, fun w' hSw => ?_⟩) hS ?_
          rotate_left 1
          · go_simp
            try with_reducible rfl
          try simp only [Act.put, List.getElem_toArray, List.getElem_cons_zero, List.getElem_cons_succ, List.setIfInBounds_toArray, List.set_cons_zero, List.set_cons_succ]
          refine wpAnyH_take (i := 6) (oi := _) (v := ?_) rfl (by kernel_rfl) (by kernel_rfl) (by kernel_rfl) (fun _ _ _ h => h) (Or.inl ⟨by rfl, fun w' hSw => ?_⟩) hS ?_
          rotate_left 1
          · go_simp
            try with_reducible rfl
          try simp only [Act.put, List.getElem_toArray, List.getElem_cons_zero, List.getElem_cons_succ, List.setIfInBounds_toArray, List.set_cons_zero, List.set_cons_succ]
          refine wpAnyH_ready (rs := [3]) (by kernel_rfl) (by simp) (AllReadyH.cons rfl (fun K hK => ?_) AllReadyH.nil)
          go_simp
          refine (fdue_any kends HTd.out).mono ?_
          rintro e w5 ⟨U5, v5, rfl, hrow5, HT5, hO5, hU5⟩
          have HR5 := Lib.hid (HRd.out.off hO5 (HTd.out.apart HRd.out))
          have HT5' := Lib.hid HT5
          have HO5 := Lib.hid hO5
          have HU5 := Lib.hid (show ∀ i, U5 i → U i ∨ w4.drew.heap.size ≤ i from fun i hi => .inl (hU5 i hi))
          have HRow5 := Lib.hid hrow5
          clear HT5 hO5 hU5 hrow5
          go_wp2_with fail
          refine hK.out _ _ (hS.step HO5.out (fun _ _ h => .inl h)) (fun hS2 => ?_)
          clear hK K
          try simp only [Act.put, List.getElem_toArray, List.getElem_cons_zero, List.getElem_cons_succ, List.setIfInBounds_toArray, List.set_cons_zero, List.set_cons_succ]
          refine wpAnyH_ready (rs := [7]) (by kernel_rfl) (by simp) (AllReadyH.cons rfl (fun K hK => ?_) AllReadyH.nil)
          go_simp
          refine (xdue_any kends HR5.out OK.out).mono ?_
          rintro e w6 ⟨v6, v6', g6, rfl, hrow6, HR6, hO6, hg6⟩
          have HM := Lib.hid (ScriptMid.mk HRd.out HTd.out HXd.out HU.out HRo.out HBeld.out HT5'.out HO5.out HU5.out HR6 hO6 hg6)
          have HO6 := Lib.hid hO6
          have HRow6 := Lib.hid hrow6
          have HRow56 := Lib.hid (ownsRow_off HRow5.out hO6 (fun g' hg' e => by obtain ⟨cur, hb⟩ := ownsRow_blk HRow5.out hg'; exact absurd e (blk_ne hb HR5.out.top (by decide))))
          clear hrow6 HR6 hO6 hg6
          go_wp2_with fail
          refine hK.out _ _ (hS2.step HO6.out (fun _ _ h => .inr h)) (fun hS3 => ?_)
          clear hK K
          try simp only [Act.put, List.getElem_toArray, List.getElem_cons_zero, List.getElem_cons_succ, List.setIfInBounds_toArray, List.set_cons_zero, List.set_cons_succ]
          refine wpAnyH_ready (rs := [8]) (by kernel_rfl) (by simp) (AllReadyH.cons rfl (fun K hK => ?_) AllReadyH.nil)
          go_simp
          refine (same16_any (IRow.of_own HRow56.out) (IRow.of_own HRow6.out)).mono ?_
          rintro e w7 ⟨rfl, hO7⟩
          rw [decide_eq_true rfl]
          have HO7 := Lib.hid hO7
          clear hO7
          go_wp2_with fail
          refine hK.out _ _ (hS3.step HO7.out (fun _ _ h => h.elim)) (fun hS4 => ?_)
          clear hK K
          try simp only [Act.put, List.getElem_toArray, List.getElem_cons_zero, List.getElem_cons_succ, List.setIfInBounds_toArray, List.set_cons_zero, List.set_cons_succ]
          refine wpAnyH_take (i := 9) (oi := _) (v := ?_) rfl (by kernel_rfl) (by kernel_rfl) (by kernel_rfl) (fun _ _ _ h => h) (Or.inl ⟨by rfl, fun w' hSw => ?_⟩) hS4 ?_
          rotate_left 1
          · go_simp
            try with_reducible rfl
          try simp only [Act.put, List.getElem_toArray, List.getElem_cons_zero, List.getElem_cons_succ, List.setIfInBounds_toArray, List.set_cons_zero, List.set_cons_succ]
          refine wpAnyH_done (by kernel_rfl) ?_ _
          have HM7 := Lib.hid (HM.out.off HO7.out)
          clear hS hS2 hS3 hS4 y3
          go_wp2_with fail
          go_meet
          exact HM7.out
        · have hb0 : (kind == 0) = false := by simpa using hk0
          have hb1 : (kind == 1) = false := by simpa using hk1
          have hb2 : (kind == 2) = false := by simpa using hk2
          have hb3 : (kind == 3) = false := by simpa using hk3
          have HM := Lib.hid (show ScriptMid w tb rb X ns w4 from ⟨U, L, v, g, HT4.out, HR4.out, HU.out, HRo.out, HBel4.out, HX4.out⟩)
          clear hk0 hk1 hk2 hk3 x1 x2 x3
          go_wp2_with fail
          go_meet
          exact HM.out
      case rest =>
        obtain ⟨U5, L5, v5, g5, HT5, HR5, hU5, hR5, hbel5, hX5⟩ := hcut
        obtain ⟨wa, hwa⟩ : ∃ wa, wa = wc := ⟨_, rfl⟩
        subst hwa
        have HT5' := Lib.hid HT5
        have HR5' := Lib.hid HR5
        have HU5 := Lib.hid hU5
        have HRo5 := Lib.hid hR5
        have HBel5 := Lib.hid hbel5
        have HKey := Lib.hid (show ∀ w', Off (fun _ => False) wa w' → w'.rangeAt X 5 (keyL (flAt ns 4).opn) from fun w' h => step_blk_opn (h.blk hX5 fun k => k))
        clear HT5 HR5 hU5 hR5 hbel5 hX5 x0 x1 x2 x3 HT4 HR4 HBel4 HX4 HK OK HU HRo
        generalize (flAt ns 4).opn = key at *
        go_upto_region 26 with fail
        refine wp_region_held_drew (S := fun w' => Off (fun _ => False) wa w') (by kernel_rfl) ((Off.refl _ _).drew) (fun hS => ?_)
        refine wpAnyH_take (i := 0) (oi := _) (v := ?_) rfl (by kernel_rfl) (by kernel_rfl) (by kernel_rfl) (fun _ _ _ h => h) (Or.inl ⟨by rfl, fun w' hSw => ?_⟩) hS ?_
        rotate_left 1
        · go_simp
          try with_reducible rfl
        try simp only [Act.put, List.getElem_toArray, List.getElem_cons_zero, List.setIfInBounds_toArray, List.set_cons_zero, List.set_cons_succ]
        refine wpAnyH_take (i := 1) (oi := _) (v := ?_) rfl (by kernel_rfl) (by kernel_rfl) (by kernel_rfl) (fun _ _ _ h => h) (Or.inl ⟨by rfl, fun w' hSw => ?_⟩) hS ?_
        rotate_left 1
        · go_simp
          try with_reducible rfl
        try simp only [Act.put, List.getElem_toArray, List.getElem_cons_zero, List.getElem_cons_succ, List.setIfInBounds_toArray, List.set_cons_zero, List.set_cons_succ]
        refine wpAnyH_ready (rs := [2]) (by kernel_rfl) (by simp) (AllReadyH.cons rfl (fun K hK => ?_) AllReadyH.nil)
        go_simp
        refine (same_any (HT5'.out.off hS fun _ _ k => k) (HR5'.out.off hS fun _ _ k => k)).mono ?_
        rintro e w6 ⟨rfl, hO6⟩
        go_wp2_with fail
        refine hK.out _ _ (hS.step hO6 (fun _ _ k => k)) (fun hS2 => ?_)
        clear hK K
        try simp only [Act.put, List.getElem_toArray, List.getElem_cons_zero, List.getElem_cons_succ, List.setIfInBounds_toArray, List.set_cons_zero, List.set_cons_succ]
        refine wpAnyH_take (i := 3) (oi := _) (v := ?_) rfl (by kernel_rfl) (by kernel_rfl) (by kernel_rfl) (fun _ _ _ h => h) (Or.inl ⟨by rfl, fun w' hSw => ?_⟩) hS2 ?_
        rotate_left 1
        · go_simp
          try with_reducible rfl
        try simp only [Act.put, List.getElem_toArray, List.getElem_cons_zero, List.getElem_cons_succ, List.setIfInBounds_toArray, List.set_cons_zero, List.set_cons_succ]
        refine wpAnyH_take (i := 4) (oi := _) (v := ?_) rfl (by kernel_rfl) (by kernel_rfl) (by kernel_rfl) (fun _ _ _ h => h) (Or.inl ⟨by rfl, fun w' hSw => ?_⟩) hS2 ?_
        rotate_left 1
        · go_simp
          try with_reducible rfl
        try simp only [Act.put, List.getElem_toArray, List.getElem_cons_zero, List.getElem_cons_succ, List.setIfInBounds_toArray, List.set_cons_zero, List.set_cons_succ]
        refine wpAnyH_take (i := 5) (oi := _) (v := ?_) rfl (by kernel_rfl) (by kernel_rfl) (by kernel_rfl) (fun _ _ _ h => h) (Or.inl ⟨by rfl, fun w' hSw => ?_⟩) hS2 ?_
        rotate_left 1
        · go_simp
          try with_reducible rfl
        try simp only [Act.put, List.getElem_toArray, List.getElem_cons_zero, List.getElem_cons_succ, List.setIfInBounds_toArray, List.set_cons_zero, List.set_cons_succ]
        refine wpAnyH_take (i := 6) (oi := _) (v := ?_) rfl (by kernel_rfl) (by kernel_rfl) (by kernel_rfl) (fun _ _ _ h => h) (Or.inl ⟨by rfl, fun w' hSw => ?_⟩) hS2 ?_
        rotate_left 1
        · go_simp
          try with_reducible rfl
        try simp only [Act.put, List.getElem_toArray, List.getElem_cons_zero, List.getElem_cons_succ, List.setIfInBounds_toArray, List.set_cons_zero, List.set_cons_succ]
        refine wpAnyH_take (i := 7) (oi := _) (v := ?_) rfl (by kernel_rfl) (by kernel_rfl) (by kernel_rfl) (fun _ _ _ h => h) (Or.inl ⟨by rfl, fun w' hSw => ?_⟩) hS2 ?_
        rotate_left 1
        · go_simp
          try with_reducible rfl
        try simp only [Act.put, List.getElem_toArray, List.getElem_cons_zero, List.getElem_cons_succ, List.setIfInBounds_toArray, List.set_cons_zero, List.set_cons_succ]
        refine wpAnyH_take (i := 8) (oi := _) (v := ?_) rfl (by kernel_rfl) (by kernel_rfl) (by kernel_rfl) (fun _ _ _ h => h) (Or.inl ⟨by rfl, fun w' hSw => ?_⟩) hS2 ?_
        rotate_left 1
        · refine exec_load_key (x := .tmp 113) ?_ ?_ (HKey.out w' hSw)
          · rfl
          · rfl
        try simp only [Act.put, List.getElem_toArray, List.getElem_cons_zero, List.getElem_cons_succ, List.setIfInBounds_toArray, List.set_cons_zero, List.set_cons_succ]
        refine wpAnyH_take (i := 10) (oi := _) (v := ?_) rfl (by kernel_rfl) (by kernel_rfl) (by kernel_rfl) (fun _ _ _ h => h) (Or.inl ⟨by rfl, fun w' hSw => ?_⟩) hS2 ?_
        rotate_left 1
        · go_simp
          try with_reducible rfl
        try simp only [Act.put, List.getElem_toArray, List.getElem_cons_zero, List.getElem_cons_succ, List.setIfInBounds_toArray, List.set_cons_zero, List.set_cons_succ]
        refine wpAnyH_take (i := 11) (oi := _) (v := ?_) rfl (by kernel_rfl) (by kernel_rfl) (by kernel_rfl) (fun _ _ _ h => h) (Or.inl ⟨by rfl, fun w' hSw => ?_⟩) hS2 ?_
        rotate_left 1
        · go_simp
          try with_reducible rfl
        try simp only [Act.put, List.getElem_toArray, List.getElem_cons_zero, List.getElem_cons_succ, List.setIfInBounds_toArray, List.set_cons_zero, List.set_cons_succ]
        refine wpAnyH_take (i := 12) (oi := _) (v := ?_) rfl (by kernel_rfl) (by kernel_rfl) (by kernel_rfl) (fun _ _ _ h => h) (Or.inl ⟨by rfl, fun w' hSw => ?_⟩) hS2 ?_
        rotate_left 1
        · go_simp
          try with_reducible rfl
        try simp only [Act.put, List.getElem_toArray, List.getElem_cons_zero, List.getElem_cons_succ, List.setIfInBounds_toArray, List.set_cons_zero, List.set_cons_succ]
        refine wpAnyH_take (i := 13) (oi := _) (v := ?_) rfl (by kernel_rfl) (by kernel_rfl) (by kernel_rfl) (fun _ _ _ h => h) (Or.inl ⟨by rfl, fun w' hSw => ?_⟩) hS2 ?_
        rotate_left 1
        · refine exec_load_key (x := .tmp 118) ?_ ?_ (HKey.out w' hSw)
          · rfl
          · rfl
        try simp only [Act.put, List.getElem_toArray, List.getElem_cons_zero, List.getElem_cons_succ, List.setIfInBounds_toArray, List.set_cons_zero, List.set_cons_succ]
        obtain ⟨wb6, r6, S6, p6, kes6, clock6, T6, TB6, _, _, _, _⟩ := id (HT5'.out.off hS2 fun _ _ k => k)
        refine wpAnyH_ready (rs := [9]) (by kernel_rfl) (by simp) (AllReadyH.cons rfl (fun K hK => ?_) AllReadyH.nil)
        go_simp
        refine (taken_any TB6 key).mono ?_
        rintro e w7 ⟨rfl, hO7⟩
        go_wp2_with fail
        refine hK.out _ _ (hS2.step hO7 (fun _ _ k => k)) (fun hS3 => ?_)
        clear hK K
        try simp only [Act.put, List.getElem_toArray, List.getElem_cons_zero, List.getElem_cons_succ, List.setIfInBounds_toArray, List.set_cons_zero, List.set_cons_succ]
        clear TB6
        refine wpAnyH_ready (rs := [14]) (by kernel_rfl) (by simp) (AllReadyH.cons rfl (fun K hK => ?_) AllReadyH.nil)
        go_simp
        refine (xtaken_any key (HR5'.out.off hS3 fun _ _ k => k)).mono ?_
        rintro e w8 ⟨rfl, hO8⟩
        go_wp2_with fail
        refine hK.out _ _ (hS3.step hO8 (fun _ _ k => k)) (fun hS4 => ?_)
        clear hK K
        try simp only [Act.put, List.getElem_toArray, List.getElem_cons_zero, List.getElem_cons_succ, List.setIfInBounds_toArray, List.set_cons_zero, List.set_cons_succ]
        refine wpAnyH_take (i := 15) (oi := _) (v := ?_) rfl (by kernel_rfl) (by kernel_rfl) (by kernel_rfl) (fun _ _ _ h => h) (Or.inl ⟨by rfl, fun w' hSw => ?_⟩) hS4 ?_
        rotate_left 1
        · go_simp
          try with_reducible rfl
        try simp only [Act.put, List.getElem_toArray, List.getElem_cons_zero, List.getElem_cons_succ, List.setIfInBounds_toArray, List.set_cons_zero, List.set_cons_succ]
        refine wpAnyH_take (i := 16) (oi := _) (v := ?_) rfl (by kernel_rfl) (by kernel_rfl) (by kernel_rfl) (fun _ _ _ h => h) (Or.inl ⟨by rfl, fun w' hSw => ?_⟩) hS4 ?_
        rotate_left 1
        · go_simp
          try with_reducible rfl
        try simp only [Act.put, List.getElem_toArray, List.getElem_cons_zero, List.getElem_cons_succ, List.setIfInBounds_toArray, List.set_cons_zero, List.set_cons_succ]
        refine wpAnyH_take (i := 17) (oi := _) (v := ?_) rfl (by kernel_rfl) (by kernel_rfl) (by kernel_rfl) (fun _ _ _ h => h) (Or.inl ⟨by rfl, fun w' hSw => ?_⟩) hS4 ?_
        rotate_left 1
        · go_simp
          try with_reducible rfl
        try simp only [Act.put, List.getElem_toArray, List.getElem_cons_zero, List.getElem_cons_succ, List.setIfInBounds_toArray, List.set_cons_zero, List.set_cons_succ]
        refine wpAnyH_take (i := 18) (oi := _) (v := ?_) rfl (by kernel_rfl) (by kernel_rfl) (by kernel_rfl) (fun _ _ _ h => h) (Or.inl ⟨by rfl, fun w' hSw => ?_⟩) hS4 ?_
        rotate_left 1
        · go_simp
          try with_reducible rfl
        try simp only [Act.put, List.getElem_toArray, List.getElem_cons_zero, List.getElem_cons_succ, List.setIfInBounds_toArray, List.set_cons_zero, List.set_cons_succ]
        refine wpAnyH_take (i := 19) (oi := _) (v := ?_) rfl (by kernel_rfl) (by kernel_rfl) (by kernel_rfl) (fun _ _ _ h => h) (Or.inl ⟨by rfl, fun w' hSw => ?_⟩) hS4 ?_
        rotate_left 1
        · go_simp
          try with_reducible rfl
        try simp only [Act.put, List.getElem_toArray, List.getElem_cons_zero, List.getElem_cons_succ, List.setIfInBounds_toArray, List.set_cons_zero, List.set_cons_succ]
        refine wpAnyH_take (i := 20) (oi := _) (v := ?_) rfl (by kernel_rfl) (by kernel_rfl) (by kernel_rfl) (fun _ _ _ h => h) (Or.inl ⟨by rfl, fun w' hSw => ?_⟩) hS4 ?_
        rotate_left 1
        · refine exec_load_key (x := .tmp 125) ?_ ?_ (HKey.out w' hSw)
          · rfl
          · rfl
        try simp only [Act.put, List.getElem_toArray, List.getElem_cons_zero, List.getElem_cons_succ, List.setIfInBounds_toArray, List.set_cons_zero, List.set_cons_succ]
        refine wpAnyH_take (i := 23) (oi := _) (v := ?_) rfl (by kernel_rfl) (by kernel_rfl) (by kernel_rfl) (fun _ _ _ h => h) (Or.inl ⟨by rfl, fun w' hSw => ?_⟩) hS4 ?_
        rotate_left 1
        · go_simp
          try with_reducible rfl
        try simp only [Act.put, List.getElem_toArray, List.getElem_cons_zero, List.getElem_cons_succ, List.setIfInBounds_toArray, List.set_cons_zero, List.set_cons_succ]
        refine wpAnyH_take (i := 24) (oi := _) (v := ?_) rfl (by kernel_rfl) (by kernel_rfl) (by kernel_rfl) (fun _ _ _ h => h) (Or.inl ⟨by rfl, fun w' hSw => ?_⟩) hS4 ?_
        rotate_left 1
        · go_simp
          try with_reducible rfl
        try simp only [Act.put, List.getElem_toArray, List.getElem_cons_zero, List.getElem_cons_succ, List.setIfInBounds_toArray, List.set_cons_zero, List.set_cons_succ]
        refine wpAnyH_take (i := 25) (oi := _) (v := ?_) rfl (by kernel_rfl) (by kernel_rfl) (by kernel_rfl) (fun _ _ _ h => h) (Or.inl ⟨by rfl, fun w' hSw => ?_⟩) hS4 ?_
        rotate_left 1
        · refine exec_load_key (x := .tmp 130) ?_ ?_ (HKey.out w' hSw)
          · rfl
          · rfl
        try simp only [Act.put, List.getElem_toArray, List.getElem_cons_zero, List.getElem_cons_succ, List.setIfInBounds_toArray, List.set_cons_zero, List.set_cons_succ]
        refine wpAnyH_ready (rs := [21]) (by kernel_rfl) (by simp) (AllReadyH.cons rfl (fun K hK => ?_) AllReadyH.nil)
        go_simp
        refine (fturn_any key).mono ?_
        rintro e w9 ⟨rfl, hO9⟩
        go_wp2_with fail
        refine hK.out _ _ (hS4.step hO9 (fun _ _ k => k)) (fun hS5 => ?_)
        clear hK K
        try simp only [Act.put, List.getElem_toArray, List.getElem_cons_zero, List.getElem_cons_succ, List.setIfInBounds_toArray, List.set_cons_zero, List.set_cons_succ]
        refine wpAnyH_ready (rs := [22]) (by kernel_rfl) (by simp) (AllReadyH.cons rfl (fun K hK => ?_) AllReadyH.nil)
        go_simp
        refine (fturn_any (turned key)).mono ?_
        rintro e w10 ⟨rfl, hO10⟩
        go_wp2_with fail
        refine hK.out _ _ (hS5.step hO10 (fun _ _ k => k)) (fun hS6 => ?_)
        clear hK K
        try simp only [Act.put, List.getElem_toArray, List.getElem_cons_zero, List.getElem_cons_succ, List.setIfInBounds_toArray, List.set_cons_zero, List.set_cons_succ]
        refine wpAnyH_take (i := 26) (oi := _) (v := ?_) rfl (by kernel_rfl) (by kernel_rfl) (by kernel_rfl) (fun _ _ _ h => h) (Or.inl ⟨by rfl, fun w' hSw => ?_⟩) hS6 ?_
        rotate_left 1
        · refine exec_key_neq (x := .tmp 128) (y := .tmp 131) (p := turned (turned key)) (q := key) ?_ ?_ ?_ false (by simp [turned_turned])
          · rfl
          · rfl
          · rfl
        try simp only [Act.put, List.getElem_toArray, List.getElem_cons_zero, List.getElem_cons_succ, List.setIfInBounds_toArray, List.set_cons_zero, List.set_cons_succ]
        refine wpAnyH_take (i := 27) (oi := _) (v := ?_) rfl (by kernel_rfl) (by kernel_rfl) (by kernel_rfl) (fun _ _ _ h => h) (Or.inl ⟨by rfl, fun w' hSw => ?_⟩) hS6 ?_
        rotate_left 1
        · go_simp
          try with_reducible rfl
        try simp only [Act.put, List.getElem_toArray, List.getElem_cons_zero, List.getElem_cons_succ, List.setIfInBounds_toArray, List.set_cons_zero, List.set_cons_succ]
        refine wpAnyH_take (i := 28) (oi := _) (v := ?_) rfl (by kernel_rfl) (by kernel_rfl) (by kernel_rfl) (fun _ _ _ h => h) (Or.inl ⟨by rfl, fun w' hSw => ?_⟩) hS6 ?_
        rotate_left 1
        · go_simp
          try with_reducible rfl
        try simp only [Act.put, List.getElem_toArray, List.getElem_cons_zero, List.getElem_cons_succ, List.setIfInBounds_toArray, List.set_cons_zero, List.set_cons_succ]
        refine wpAnyH_take (i := 29) (oi := _) (v := ?_) rfl (by kernel_rfl) (by kernel_rfl) (by kernel_rfl) (fun _ _ _ h => h) (Or.inl ⟨by rfl, fun w' hSw => ?_⟩) hS6 ?_
        rotate_left 1
        · go_simp
          try with_reducible rfl
        try simp only [Act.put, List.getElem_toArray, List.getElem_cons_zero, List.getElem_cons_succ, List.setIfInBounds_toArray, List.set_cons_zero, List.set_cons_succ]
        refine wpAnyH_take (i := 30) (oi := _) (v := ?_) rfl (by kernel_rfl) (by kernel_rfl) (by kernel_rfl) (fun _ _ _ h => h) (Or.inl ⟨by rfl, fun w' hSw => ?_⟩) hS6 ?_
        rotate_left 1
        · go_simp
          try with_reducible rfl
        try simp only [Act.put, List.getElem_toArray, List.getElem_cons_zero, List.getElem_cons_succ, List.setIfInBounds_toArray, List.set_cons_zero, List.set_cons_succ]
        refine wpAnyH_take (i := 31) (oi := _) (v := ?_) rfl (by kernel_rfl) (by kernel_rfl) (by kernel_rfl) (fun _ _ _ h => h) (Or.inl ⟨by rfl, fun w' hSw => ?_⟩) hS6 ?_
        rotate_left 1
        · refine exec_load_key (x := .tmp 136) ?_ ?_ (HKey.out w' hSw)
          · rfl
          · rfl
        try simp only [Act.put, List.getElem_toArray, List.getElem_cons_zero, List.getElem_cons_succ, List.setIfInBounds_toArray, List.set_cons_zero, List.set_cons_succ]
        refine wpAnyH_take (i := 33) (oi := _) (v := ?_) rfl (by kernel_rfl) (by kernel_rfl) (by kernel_rfl) (fun _ _ _ h => h) (Or.inl ⟨by rfl, fun w' hSw => ?_⟩) hS6 ?_
        rotate_left 1
        · go_simp
          try with_reducible rfl
        try simp only [Act.put, List.getElem_toArray, List.getElem_cons_zero, List.getElem_cons_succ, List.setIfInBounds_toArray, List.set_cons_zero, List.set_cons_succ]
        refine wpAnyH_take (i := 34) (oi := _) (v := ?_) rfl (by kernel_rfl) (by kernel_rfl) (by kernel_rfl) (fun _ _ _ h => h) (Or.inl ⟨by rfl, fun w' hSw => ?_⟩) hS6 ?_
        rotate_left 1
        · go_simp
          try with_reducible rfl
        try simp only [Act.put, List.getElem_toArray, List.getElem_cons_zero, List.getElem_cons_succ, List.setIfInBounds_toArray, List.set_cons_zero, List.set_cons_succ]
        refine wpAnyH_take (i := 35) (oi := _) (v := ?_) rfl (by kernel_rfl) (by kernel_rfl) (by kernel_rfl) (fun _ _ _ h => h) (Or.inl ⟨by rfl, fun w' hSw => ?_⟩) hS6 ?_
        rotate_left 1
        · refine exec_load_key (x := .tmp 140) ?_ ?_ (HKey.out w' hSw)
          · rfl
          · rfl
        try simp only [Act.put, List.getElem_toArray, List.getElem_cons_zero, List.getElem_cons_succ, List.setIfInBounds_toArray, List.set_cons_zero, List.set_cons_succ]
        refine wpAnyH_ready (rs := [32]) (by kernel_rfl) (by simp) (AllReadyH.cons rfl (fun K hK => ?_) AllReadyH.nil)
        go_simp
        refine (fturn_any key).mono ?_
        rintro e w11 ⟨rfl, hO11⟩
        go_wp2_with fail
        refine hK.out _ _ (hS6.step hO11 (fun _ _ k => k)) (fun hS7 => ?_)
        clear hK K
        try simp only [Act.put, List.getElem_toArray, List.getElem_cons_zero, List.getElem_cons_succ, List.setIfInBounds_toArray, List.set_cons_zero, List.set_cons_succ]
        refine wpAnyH_ready (rs := [36]) (by kernel_rfl) (by simp) (AllReadyH.cons rfl (fun K hK => ?_) AllReadyH.nil)
        go_simp
        refine (rturn_any key).mono ?_
        rintro e w12 ⟨rfl, hO12⟩
        go_wp2_with fail
        refine hK.out _ _ (hS7.step hO12 (fun _ _ k => k)) (fun hS8 => ?_)
        clear hK K
        try simp only [Act.put, List.getElem_toArray, List.getElem_cons_zero, List.getElem_cons_succ, List.setIfInBounds_toArray, List.set_cons_zero, List.set_cons_succ]
        refine wpAnyH_take (i := 37) (oi := _) (v := ?_) rfl (by kernel_rfl) (by kernel_rfl) (by kernel_rfl) (fun _ _ _ h => h) (Or.inl ⟨by rfl, fun w' hSw => ?_⟩) hS8 ?_
        rotate_left 1
        · refine exec_key_neq (x := .tmp 138) (y := .tmp 142) (p := turned key) (q := turned key) ?_ ?_ ?_ false (by simp)
          · rfl
          · rfl
          · rfl
        try simp only [Act.put, List.getElem_toArray, List.getElem_cons_zero, List.getElem_cons_succ, List.setIfInBounds_toArray, List.set_cons_zero, List.set_cons_succ]
        refine wpAnyH_take (i := 38) (oi := _) (v := ?_) rfl (by kernel_rfl) (by kernel_rfl) (by kernel_rfl) (fun _ _ _ h => h) (Or.inl ⟨by rfl, fun w' hSw => ?_⟩) hS8 ?_
        rotate_left 1
        · go_simp
          try with_reducible rfl
        try simp only [Act.put, List.getElem_toArray, List.getElem_cons_zero, List.getElem_cons_succ, List.setIfInBounds_toArray, List.set_cons_zero, List.set_cons_succ]
        refine wpAnyH_done (by kernel_rfl) ?_ _
        have HFin := Lib.hid (show ScriptRel w tb rb len (.int .i64 ((k + 1 : Nat) : Int)) w12 from ⟨k + 1, U5, L5, v5, g5, hlt, rfl, HT5'.out.off hS8 (fun _ _ k => k), HR5'.out.off hS8 (fun _ _ k => k), HU5.out, HRo5.out, below_off HBel5.out hS8 (Nat.le_refl _) (fun _ _ k => k)⟩)
        clear hS hS2 hS3 hS4 hS5 hS6 hS7 hS8 hO6 hO7 hO8 hO9 hO10 hO11 hO12
        go_wp2_with fail
        exact ⟨by simpa using HFin.out, by simp [intOf]; omega⟩
    · have q1 : ¬ (k : Int) < (len : Int) := by omega
      have HBel := Lib.hid hbel
      clear HT HR hbel
      go_wp2_with fail
      go_ret
      exact ⟨rfl, HBel.out⟩
theorem flowScript_walk (a : Option Addr) (len cap : Nat) (F : Nat → List Int) (w : World) (hin : Elems stepKs w a len F) (hm : len ≤ maxLen) :
    Calls Try.prog 4 #[.slice a len cap] w fun e w' => e = .returned (.bool true) ∧ Below w.heap.size w w' :=
  script_walk a len cap F w hin (by unfold maxLen at hm; omega)
end Go.Proofs.Ytbkgjghbmafoeaa
