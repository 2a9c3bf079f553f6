/- The walk over FlowCaps: it returns true and writes nothing that was there. Conditions: the steps' elements are whole numbers. -/
import Derived.Test.YtbkgjghbmafoeaaFlUse
import Derived.Test.YtbkgjghbmafoeaaFlIn
import Derived.Test.YtbkgjghbmafoeaaFlowCapsPure
namespace Go.Proofs.Ytbkgjghbmafoeaa
open Go.RowKit
open Go.ChangeMaps (setBlock)

section
variable {P : Program} {kt et T : TypeId} {α : Type} [DecidableEq α] {enc : α → Value}
theorem run_lookup1 (K : KeyTy P kt α enc) (hT : P.underlying T = some (.map kt et)) {z : Value} (hz : ∀ w : World, (zeroValue et).run P w = .ok z w)
    {w : World} {r clock : Nat} {es : List (KEnt α)} (hm : MapAt enc w r es clock) (k : α) :
    (Instr.lookup T (.map (some r)) (enc k) false).run P w = .ok ((klook k es).getD z) w := by
  simp only [Instr.lookup, Sem.run_bind, run_underlying hT, Result.andThen_ok, MapKept.run_getObj_map hm, Sem.run_pure, K.check, K.find]
  cases h : kfind k es 0 with
  | none => simp [klook, h, hz]
  | some p => simp [klook, h]
end

theorem zero3 (w : World) : (zeroValue 3).run Try.prog w = .ok (.int .i64 0) w := by kernel_rfl

/-- A step's cells. -/
def stepL (ns : List Int) : List Value := [.int .i64 (ns.getD 0 0), .int .i64 (ns.getD 1 0), .int .i64 (ns.getD 2 0), .int .i64 (ns.getD 3 0)] ++ flL (flAt ns 4)
theorem stepL_one (ns : List Int) : (stepL ns).toArray.all (·.oneCell') = true := by simp [stepL, flL, Value.oneCell']
theorem step_cells {w : World} {b o : Nat} {ns : List Int} (h0 : w.cell? ⟨b, o, none⟩ = some (.int .i64 (ns.getD 0 0))) (h1 : w.cell? ⟨b, o + 1, none⟩ = some (.int .i64 (ns.getD 1 0))) (h2 : w.cell? ⟨b, o + 2, none⟩ = some (.int .i64 (ns.getD 2 0)))
    (h3 : w.cell? ⟨b, o + 3, none⟩ = some (.int .i64 (ns.getD 3 0))) (h4 : w.rangeAt b (o + 4) (flL (flAt ns 4))) : w.rangeAt b o (stepL ns) := fun j v hj => by
  match j, hj with
  | 0, hj => rw [← hj]; exact h0
  | 1, hj => rw [← hj]; exact h1
  | 2, hj => rw [← hj]; exact h2
  | 3, hj => rw [← hj]; exact h3
  | j + 4, hj =>
    have := h4 j v (by simpa [stepL] using hj)
    rw [show o + (j + 4) = o + 4 + j by omega]; exact this

theorem step_blk_fl {w : World} {N : Nat} {ns : List Int} (h : Blk w N 40 (stepL ns).toArray) : w.rangeAt N 4 (flL (flAt ns 4)) :=
  range_blk h 4 _ (fun j v hj => by rw [Nat.add_comm]; simpa [stepL] using hj)
theorem step_blk_opn {w : World} {N : Nat} {ns : List Int} (h : Blk w N 40 (stepL ns).toArray) : w.rangeAt N 5 (keyL (flAt ns 4).opn) := range_opn (o := 4) (step_blk_fl h)
theorem step_blk_bck {w : World} {N : Nat} {ns : List Int} (h : Blk w N 40 (stepL ns).toArray) : w.rangeAt N 12 (keyL (flAt ns 4).bck) := range_bck (o := 4) (step_blk_fl h)

/-- The flows of a list that lies in a row. -/
theorem flats_at : ∀ {L : List Fl} {j : Nat} {f : Fl}, L[j]? = some f → ∀ i v, (flL f)[i]? = some v → (L.flatMap flL)[j * 20 + i]? = some v
  | [], j, f, h, _, _, _ => by simp at h
  | g :: L, 0, f, h, i, v, hv => by
    simp only [List.getElem?_cons_zero, Option.some.injEq] at h
    subst h
    have hi : i < 20 := by
      rcases Nat.lt_or_ge i 20 with h' | h'
      · exact h'
      · rw [List.getElem?_eq_none (by rw [flL_len]; exact h')] at hv; cases hv
    rw [List.flatMap_cons, Nat.zero_mul, Nat.zero_add, List.getElem?_append_left (by rw [flL_len]; exact hi)]; exact hv
  | g :: L, j + 1, f, h, i, v, hv => by
    simp only [List.getElem?_cons_succ] at h
    rw [List.flatMap_cons, List.getElem?_append_right (by rw [flL_len]; omega), flL_len, show (j + 1) * 20 + i - 20 = j * 20 + i by omega]
    exact flats_at h i v hv

theorem row_at {w : World} {base T : Nat} {v : Value} {L : List Fl} (h : w.ownsRow base T 20 v L.length (L.flatMap flL)) {j : Nat} {f : Fl} (hj : L[j]? = some f) :
    ∃ g cap, v = .slice (some ⟨g, 0, none⟩) L.length cap ∧ base ≤ g ∧ g < w.heap.size ∧ w.rangeAt g (j * 20) (flL f) := by
  obtain ⟨hl, ⟨rfl, h0⟩ | ⟨g, cap, cur, rfl, hb, hg, hc, hm, hs, ht⟩⟩ := h
  · have : L = [] := List.eq_nil_of_length_eq_zero h0
    subst this; simp at hj
  · have hB : Blk w g T cur := hg
    refine ⟨g, cap, rfl, hb, hB.lt, fun i v hv => ?_⟩
    have h2 := flats_at hj i v hv
    rw [← ht, List.getElem?_take] at h2
    split at h2
    · rw [hB.cell]; simpa using h2
    · cases h2

def CapsRel (W : World) (tb rk : Nat) (len : Nat) (iv : Value) (wr : World) : Prop :=
  ∃ (k : Nat) (U : Nat → Prop) (L : List Fl) (es : List (KEnt FKey)) (clock : Nat), k ≤ len ∧ iv = .int .i64 k ∧ Tbl wr tb U L ∧ (∀ i, U i → W.heap.size ≤ i) ∧ ¬ U rk ∧ MapAt keyV wr rk es clock ∧ W.heap.size ≤ rk ∧ Below W.heap.size W wr

def CapsIn (W : World) (rk : Nat) (L : List Fl) (ov jv : Value) (wr : World) : Prop :=
  ∃ (j : Nat) (es : List (KEnt FKey)) (clock : Nat), j ≤ L.length ∧ jv = .int .i64 j ∧ ov = .int .i64 (weakN (L.take j)) ∧ MapAt keyV wr rk es clock ∧ es.map (·.key) = keysOf (L.take j) ∧ (∀ e ∈ es, e.born < clock) ∧ Off (· = rk) W wr
/-- What Set may do. -/
def CapsMid (W : World) (tb : Nat) (U : Nat → Prop) (L : List Fl) (kind : Int) (wx : World) : Prop :=
  ∃ U' L', Tbl wx tb U' L' ∧ (L' = L ∨ kind = 1) ∧ Off U W wx ∧ ∀ i, U' i → U i ∨ W.heap.size ≤ i

theorem Try.struct40 : Try.prog.underlying 40 = some (.struct (Try.prog.fieldsOf 40)) := by kernel_rfl

set_option maxRecDepth 100000 in
set_option maxHeartbeats 4000000 in
theorem caps_walk (a : Option Addr) (len cap : Nat) (F : Nat → List Int) (w : World) (hin : Elems stepKs w a len F) (hlen : len ≤ 9223372036854775807) :
    Calls Try.prog 9 #[.slice a len cap] w fun e w' => e = .returned (.bool true) ∧ Below w.heap.size w w' := by
  by_cases hbig : 1024 < len
  · go_enter Try.func9, Try.ntmps9
    go_wp2_with fail
    go_ret
    exact ⟨rfl, Below.refl _ _⟩
  have hbig' : (len : Int) ≤ 1024 := by omega
  have hmm := @run_makeMap Try.prog
  go_enter Try.func9, Try.ntmps9
  go_wp2_with fail
  refine (fnew_any w).mono ?_
  rintro e w2 ⟨tb, U0, rfl, HT0, hU0, hO0⟩
  have hO3 : Off (fun _ => False) w2 (w2.alloc (.map #[] 0)) := (Off.refl _ _).alloc _
  have HT3 := HT0.off hO3 fun _ _ k => k
  have hM3 : MapAt keyV (w2.alloc (.map #[] 0)) w2.heap.size [] 0 := heap_alloc_new _ _
  have hbel3 := below_off (hO0.below (Nat.le_refl _) (fun _ _ h => h)) hO3 (Nat.le_refl _) (fun _ _ k => k)
  have hrk0 : ¬ U0 w2.heap.size := fun h => by have := HT0.lt h; omega
  have hrkw : w.heap.size ≤ w2.heap.size := hO0.size
  go_wp2_with fail
  generalize w2.alloc (.map #[] 0) = w3 at *
  generalize w2.heap.size = rk at *
  go_loopw [5] (CapsRel w tb rk len) (fun i _ => len - (intOf i).toNat)
  case atStart => exact ⟨0, U0, [], [], 0, Nat.zero_le _, rfl, HT3, hU0, hrk0, hM3, hrkw, hbel3⟩
  case round =>
    clear HT0 HT3 hM3 hbel3 hrk0 hO0 hO3 hU0 hmm
    obtain ⟨k, U, L, es, clock, hk, rfl, HT, hU, hUr, hM, hrk, hbel⟩ := hrel
    have q0 : (0 : Int) ≤ (k : Int) := by omega
    by_cases hlt : k < len
    · have q1 : (k : Int) < (len : Int) := by omega
      obtain ⟨b, off, rfl, hbl, s0, s1, s2, s3, hrg⟩ := step_range hin hbel hlt
      have hst := Lib.hid (step_cells s0 s1 s2 s3 hrg)
      clear s0 s1 s2 s3 hrg
      generalize F k = ns at *
      have HU := Lib.hid hU
      have HM := Lib.hid hM
      have hNew := Lib.hid (Blk.new wr 40 (stepL []).toArray)
      have hOa : Off (fun _ => False) wr (wr.alloc (.cells (stepL []).toArray 40)) := (Off.refl _ _).alloc _
      have hUlt := Lib.hid (show ∀ i, U i → i < wr.heap.size from fun i hi => HT.lt hi)
      clear hU hM
      go_wp2_with (first
        | (refine wpList_ld (by rfl) 40 (.tmp 27) rfl b (off + k * 24) rfl (stepL ns) _ hst.out Try.struct40 rfl (by kernel_rfl) ?_)
        | (refine wpList_store_blk rfl 40 (.tmp 6) (.tmp 28) rfl wr.heap.size 40 (stepL []).toArray (stepL ns).toArray hNew.out rfl rfl (by kernel_rfl) rfl (stepL_one _) ?_; intro w4 hO4 hX4))
      have hO14 : Off (· = wr.heap.size) wr w4 := (hOa.mono (S' := (· = wr.heap.size)) fun _ _ k => k.elim).step hO4 fun _ _ e => e
      have HT4 := HT.off hO14 (fun i hi e => by have := HT.lt hi; omega)
      have hM4 := HM.out.off hO14 (fun e => by have := HM.out.lt; omega)
      have hbel4 := below_off hbel hO14 (Nat.le_refl _) (fun i hi e => by have := hbel.size; omega)
      have hXw : w.heap.size ≤ wr.heap.size := hbel.size
      have hXl : wr.heap.size < w4.heap.size := hX4.lt
      have hrx : rk < wr.heap.size := HM.out.lt
      generalize hX : wr.heap.size = X at *
      clear hX
      have HX4 := Lib.hid hX4
      have HM4 := Lib.hid hM4
      obtain ⟨wb4, r4, S4, p4, kes4, clock4, T4, TB4, _, _, _, _⟩ := id HT4
      clear hX4 hM4 hNew hOa hO4
      refine (list_any TB4).mono ?_
      rintro e w5 ⟨v5, rfl, hrow5, hO5⟩
      obtain ⟨a5, cap5, hv5⟩ := own_shape hrow5
      subst hv5
      have HT5 := HT4.off hO5 fun _ _ k => k
      have hX5 := Lib.hid (hO5.blk HX4.out fun k => k)
      have hM5 := Lib.hid (HM4.out.off hO5 fun k => k)
      have hbel5 := below_off hbel4 hO5 (Nat.le_refl _) (fun _ _ k => k)
      have hok := HT.ok
      have hL48 : (L.length : Int) ≤ 48 := by have := hok.few; omega
      clear hrow5
      go_wp2_with (first | (refine wpList_ldf (by rfl) (.tmp 34) rfl X 4 rfl (flAt ns 4) (step_blk_fl hX5.out) ?_))
      refine (fadd_any (flAt ns 4) HT5).mono ?_
      rintro e w6 ⟨U6, rfl, HT6, hO6, hU6⟩
      have hc := addF_cases (flAt ns 4) hok
      unfold addV
      generalize (addF L (flAt ns 4)).1 = i1 at *
      generalize (addF L (flAt ns 4)).2.1 = gone at *
      generalize (addF L (flAt ns 4)).2.2.1 = e1 at *
      generalize (addF L (flAt ns 4)).2.2.2 = L1 at *
      have HC := Lib.hid hc
      have hX6 := Lib.hid (hO6.blk hX5.out (fun h => by have := hUlt.out X h; omega))
      have hM6 := Lib.hid (hM5.out.off hO6 hUr)
      have hbel6 := below_off hbel5 hO6 (Nat.le_refl _) (fun i hi k => by have := HU.out i k; omega)
      have hsz5 := hO5.size
      have hU6r : ¬ U6 rk := fun h => by
        rcases hU6 rk h with h | h
        · exact hUr h
        · omega
      have hU6X : ¬ U6 X := fun h => by
        rcases hU6 X h with h | h
        · have := hUlt.out X h; omega
        · omega
      have HU6 := Lib.hid (show ∀ i, U6 i → w.heap.size ≤ i from fun i hi => by
        rcases hU6 i hi with h | h
        · exact HU.out i h
        · omega)
      clear hc hU6 HT HT4 HT5 TB4 hO14 hO5 hO6 hbel hbel4 hbel5 HX4 HM4 hM5 hX5 hst
      go_upto_region 11 with fail
      go_cut [49] (fun s49 wx => s49 = .bool false ∧ Off (fun _ => False) w6 wx)
      case first =>
        rcases HC.out with ⟨he, h2⟩ | ⟨he, h2⟩ | ⟨he, h2, htk⟩
        · subst he
          clear h2
          go_wp2_with fail
          go_meet
          exact ⟨rfl, Off.refl _ _⟩
        · subst he
          clear h2
          go_wp2_with fail
          go_meet
          exact ⟨rfl, Off.refl _ _⟩
        · subst he
          obtain ⟨wb6, r6, S6, p6, kes6, clock6, T6, TB6, _, _, _, _⟩ := id HT6
          have ht := taken_any TB6 (flAt ns 4).opn
          rw [htk] at ht
          clear htk h2
          go_wp2_with (first | (refine wpList_ldk (by rfl) (.tmp 45) rfl X 5 rfl (flAt ns 4).opn (step_blk_opn hX6.out) ?_))
          refine ht.mono ?_
          rintro e w7 ⟨rfl, hO7⟩
          go_wp2_with fail
          go_meet
          exact ⟨rfl, hO7⟩
      case rest =>
        obtain ⟨hs49, hO7⟩ := hcut
        subst hs49
        obtain ⟨w7, hw7⟩ : ∃ w7, w7 = wc := ⟨_, rfl⟩
        subst hw7
        have HT7 := HT6.off hO7 fun _ _ k => k
        have hX7 := hO7.blk hX6.out fun k => k
        have hM7 := Lib.hid (hM6.out.off hO7 fun k => k)
        have hbel7 := below_off hbel6 hO7 (Nat.le_refl _) (fun _ _ k => k)
        have x0 : w7.cell? ⟨X, 0, none⟩ = some (.int .i64 (ns.getD 0 0)) := hX7.cell 0
        have x1 : w7.cell? ⟨X, 1, none⟩ = some (.int .i64 (ns.getD 1 0)) := hX7.cell 1
        have x3 : w7.cell? ⟨X, 3, none⟩ = some (.int .i64 (ns.getD 3 0)) := hX7.cell 3
        have HX7 := Lib.hid hX7
        generalize hkd : ns.getD 0 0 = kind at *
        generalize ns.getD 1 0 = kn at *
        generalize ns.getD 3 0 = kends at *
        have HKD := Lib.hid hkd
        clear hX7 hX6 hM6 hbel6 hO7 HT6 hkd
        go_upto_if 52 with fail
        go_cut [58] (fun _ wx => CapsMid w7 tb U6 L1 kind wx)
        case first =>
          by_cases hk1 : kind = 1
          · have hkb : (kind == 1) = true := by simpa using hk1
            have HK := Lib.hid hk1
            clear hk1
            go_wp2_with fail
            refine (fset_any kn 1 kends HT7).mono ?_
            rintro e w8 ⟨U8, b8, rfl, _, HT8, hO8, hU8⟩
            have HMid := Lib.hid (show CapsMid w7 tb U6 L1 kind w8 from ⟨U8, _, HT8, .inr HK.out, hO8, hU8⟩)
            go_wp2_with fail
            go_meet
            exact HMid.out
          · have hkb : (kind == 1) = false := by simpa using hk1
            have HMid := Lib.hid (show CapsMid w7 tb U6 L1 kind w7 from ⟨U6, L1, HT7, .inl rfl, Off.refl _ _, fun _ k => .inl k⟩)
            clear hk1
            go_wp2_with fail
            go_meet
            exact HMid.out
        case rest =>
          obtain ⟨U8, L2, HT8, hL2, hO8, hU8⟩ := hcut
          obtain ⟨w8, hw8⟩ : ∃ w8, w8 = wc := ⟨_, rfl⟩
          subst hw8
          obtain ⟨wb8, r8, S8, p8, kes8, clock8, T8, TB8, _, _, _, _⟩ := id HT8
          have hU8r : ¬ U8 rk := fun h => by
            rcases hU8 rk h with h | h
            · exact hU6r h
            · have := hM7.out.lt; omega
          have hX8 := Lib.hid (hO8.blk HX7.out hU6X)
          have hM8 := Lib.hid (hM7.out.off hO8 hU6r)
          have hbel8 := below_off hbel7 hO8 (Nat.le_refl _) (fun i hi k => by have := HU6.out i k; omega)
          have hok2 := HT8.ok
          have hsz8 : w.heap.size ≤ w7.heap.size := hbel7.size
          have HU8 := Lib.hid (show ∀ i, U8 i → w.heap.size ≤ i from fun i hi => by
            rcases hU8 i hi with h | h
            · exact HU6.out i h
            · omega)
          have HL2 := Lib.hid hL2
          clear hU8 hL2 x0 x1 x3 HT7 hO8 hbel7
          go_wp2_with fail
          refine (list_any TB8).mono ?_
          rintro e w9 ⟨v9, rfl, hrow9, hO9⟩
          obtain ⟨a9, cap9, hv9⟩ := own_shape hrow9
          subst hv9
          have HT9 := HT8.off hO9 fun _ _ k => k
          have hX9 := Lib.hid (hO9.blk hX8.out fun k => k)
          have hM9 := hM8.out.off hO9 fun k => k
          have hbel9 := below_off hbel8 hO9 (Nat.le_refl _) (fun _ _ k => k)
          have hrk8 : rk < w8.heap.size := hM8.out.lt
          have hcl := fun ty => run_clear (P := Try.prog) Try.underlying68 hM9 ty
          have hM10 := hM9.set (es' := ([] : List (KEnt FKey))) (clock' := clock)
          have hO10 : Off (· = rk) w9 (setBlock w9 rk (.map (([] : List (KEnt FKey)).map (KEnt.raw keyV)).toArray clock)) := (Off.refl _ _).setBlock _ fun _ => rfl
          generalize (Obj.map (([] : List (KEnt FKey)).map (KEnt.raw keyV)).toArray clock) = Oc at *
          have hL2n : (L2.length : Int) ≤ 48 := by have := hok2.few; omega
          have hL2N : L2.length ≤ 48 := hok2.few
          have HROW := Lib.hid hrow9
          have hXr := Lib.hid (hM9.not_blk hX9.out)
          clear hrow9 hM9
          go_upto_region 17 with fail
          clear hcl
          generalize setBlock w9 rk Oc = w10 at *
          have HT10 := HT9.off hO10 (fun i hi e => hU8r (e ▸ hi))
          go_wp2_with fail
          go_loopw [12, 13] (CapsIn w10 rk L2) (fun _ j _ => L2.length - (intOf j).toNat)
          case atStart => exact ⟨0, [], clock, Nat.zero_le _, rfl, rfl, hM10, rfl, (fun e he => by cases he), Off.refl _ _⟩
          case round =>
            obtain ⟨j, es2, c2, hj, rfl, rfl, hM2, hks, hbn, hO2⟩ := hrel
            obtain ⟨wr2, hwr2⟩ : ∃ wr2, wr2 = wr := ⟨_, rfl⟩
            subst hwr2
            have p0 : (0 : Int) ≤ (j : Int) := by omega
            have HKS := Lib.hid hks
            have HBN := Lib.hid hbn
            clear hks hbn
            by_cases hjl : j < L2.length
            · have p1 : (j : Int) < (L2.length : Int) := by omega
              obtain ⟨f, hf⟩ : ∃ f, L2[j]? = some f := ⟨L2[j], List.getElem?_eq_getElem hjl⟩
              obtain ⟨g9, cap', hv9', hgb, hgl, hrg9⟩ := row_at HROW.out hf
              simp only [Value.slice.injEq] at hv9'
              obtain ⟨rfl, _, rfl⟩ := hv9'
              have hg9r : g9 ≠ rk := by omega
              have hO92 : Off (· = rk) w9 wr2 := hO10.trans hO2
              have hg9l : g9 < wr2.heap.size := Nat.lt_of_lt_of_le hgl hO92.size
              have HRG := Lib.hid (show wr2.rangeAt g9 (j * 20) (flL f) from fun i v hv => (hO92.cell (p := ⟨g9, j * 20 + i, none⟩) hgl hg9r).trans (hrg9 i v hv))
              have HF := Lib.hid hf
              have k1 : klook f.opn es2 = none := klook_absent (by rw [HKS.out]; exact fresh_opn hok2 hf)
              clear hrg9 hf hgb
              have hkk := fun w' (h : Off (· = rk) wr2 w') => keyc (range_opn (o := j * 20) (show w'.rangeAt g9 (j * 20) (flL f) from fun i v hv => (h.cell (p := ⟨g9, j * 20 + i, none⟩) hg9l hg9r).trans (HRG.out i v hv)))
              have x0 := fun w' h => (hkk w' h).1
              have x1 := fun w' h => (hkk w' h).2.1
              have x2 := fun w' h => (hkk w' h).2.2.1
              have x3 := fun w' h => (hkk w' h).2.2.2.1
              have x4 := fun w' h => (hkk w' h).2.2.2.2.1
              have x5 := fun w' h => (hkk w' h).2.2.2.2.2.1
              have x6 := fun w' h => (hkk w' h).2.2.2.2.2.2
              clear hkk

              have hlk := run_lookup1 (P := Try.prog) key_key Try.underlying68 zero3 hM2.drew f.opn
              rw [k1] at hlk
              have r1 := run_mapEntry_new (P := Try.prog) key_key Try.underlying68 zero3 hM2.drew f.opn k1
              have m1 := hM2.drew.set (es' := es2 ++ [(⟨f.opn, .int .i64 0, c2⟩ : KEnt FKey)]) (clock' := c2 + 1)
              have r2 := run_entryStore_last (P := Try.prog) (T := 68) m1 HBN.out (.int .i64 1)
              have m2 := m1.set (es' := es2 ++ [(⟨f.opn, .int .i64 1, c2⟩ : KEnt FKey)]) (clock' := c2 + 1)
              have hlk2 := run_lookup1 (P := Try.prog) key_key Try.underlying68 zero3 m1 f.opn
              rw [klook_add _ _ _ _ _ k1, if_pos rfl] at hlk2
              simp only [← keyW_eq, Option.getD_none, Option.getD_some] at hlk hlk2 r1
              generalize (Obj.map ((es2 ++ [(⟨f.opn, .int .i64 0, c2⟩ : KEnt FKey)]).map (KEnt.raw keyV)).toArray (c2 + 1)) = O1 at *
              generalize (Obj.map ((es2 ++ [(⟨f.opn, .int .i64 1, c2⟩ : KEnt FKey)]).map (KEnt.raw keyV)).toArray (c2 + 1)) = O2 at *
              have HK1 := Lib.hid k1
              have hwr : IntKind.i64.wrap 1 = 1 := by rfl
              clear k1 m1
              have hO21 : Off (· = rk) wr2 (setBlock (setBlock wr2.drew rk O1) rk O2) := by repeat (first | exact Off.refl _ _ | apply Off.drew | (refine Off.setBlock ?_ _ (fun _ => rfl)))
              go_upto_region 21 with fail
              go_cut [77] (fun _ wx => setBlock (setBlock wr2.drew rk O1) rk O2 = wx)
              case first =>
                go_region_held3 (fun w' => Off (· = rk) wr2 w') (first | (repeat (first | exact Off.refl _ _ | assumption | apply Off.drew | (refine Off.setBlock ?_ _ (fun _ => rfl))))) (first | fail)
                all_goals (go_wp2_with fail; go_meet; exact rfl)
              case rest =>
                subst hcut
                clear r1 r2 hlk hlk2 x0 x1 x2 x3 x4 x5 x6
                generalize setBlock (setBlock wr2.drew rk O1) rk O2 = w21 at *
                have k2 : klook f.bck (es2 ++ [(⟨f.opn, .int .i64 1, c2⟩ : KEnt FKey)]) = none := klook_absent (by rw [List.map_append, HKS.out]; exact fresh_bck hok2 HF.out)
                have HBN1 := Lib.hid (show ∀ e ∈ es2 ++ [(⟨f.opn, .int .i64 1, c2⟩ : KEnt FKey)], e.born < c2 + 1 from fun e he => by
                  rcases List.mem_append.1 he with he | he
                  · have := HBN.out e he; omega
                  · rw [List.mem_singleton.1 he]; exact Nat.lt_succ_self _)
                have HKS1 := Lib.hid (show (es2 ++ [(⟨f.opn, .int .i64 1, c2⟩ : KEnt FKey)]).map (·.key) = keysOf (L2.take j) ++ [f.opn] by rw [List.map_append, HKS.out]; rfl)
                generalize es2 ++ [(⟨f.opn, .int .i64 1, c2⟩ : KEnt FKey)] = es3 at *
                generalize c2 + 1 = c3 at *
                have hg9l1 : g9 < w21.heap.size := Nat.lt_of_lt_of_le hg9l hO21.size
                have HRG1 := Lib.hid (show w21.rangeAt g9 (j * 20) (flL f) from fun i v hv => (hO21.cell (p := ⟨g9, j * 20 + i, none⟩) hg9l hg9r).trans (HRG.out i v hv))
                have hkk := fun w' (h : Off (· = rk) w21 w') => keyc (range_bck (o := j * 20) (show w'.rangeAt g9 (j * 20) (flL f) from fun i v hv => (h.cell (p := ⟨g9, j * 20 + i, none⟩) hg9l1 hg9r).trans (HRG1.out i v hv)))
                have y0 := fun w' h => (hkk w' h).1
                have y1 := fun w' h => (hkk w' h).2.1
                have y2 := fun w' h => (hkk w' h).2.2.1
                have y3 := fun w' h => (hkk w' h).2.2.2.1
                have y4 := fun w' h => (hkk w' h).2.2.2.2.1
                have y5 := fun w' h => (hkk w' h).2.2.2.2.2.1
                have y6 := fun w' h => (hkk w' h).2.2.2.2.2.2
                clear hkk
                have hlk := run_lookup1 (P := Try.prog) key_key Try.underlying68 zero3 m2.drew f.bck
                rw [k2] at hlk
                have r1 := run_mapEntry_new (P := Try.prog) key_key Try.underlying68 zero3 m2.drew f.bck k2
                have m3 := m2.drew.set (es' := es3 ++ [(⟨f.bck, .int .i64 0, c3⟩ : KEnt FKey)]) (clock' := c3 + 1)
                have r2 := run_entryStore_last (P := Try.prog) (T := 68) m3 HBN1.out (.int .i64 1)
                have m4 := m3.set (es' := es3 ++ [(⟨f.bck, .int .i64 1, c3⟩ : KEnt FKey)]) (clock' := c3 + 1)
                have hlk2 := run_lookup1 (P := Try.prog) key_key Try.underlying68 zero3 m3 f.bck
                rw [klook_add _ _ _ _ _ k2, if_pos rfl] at hlk2
                simp only [← keyW_eq, Option.getD_none, Option.getD_some] at hlk hlk2 r1
                generalize (Obj.map ((es3 ++ [(⟨f.bck, .int .i64 0, c3⟩ : KEnt FKey)]).map (KEnt.raw keyV)).toArray (c3 + 1)) = O3 at *
                generalize (Obj.map ((es3 ++ [(⟨f.bck, .int .i64 1, c3⟩ : KEnt FKey)]).map (KEnt.raw keyV)).toArray (c3 + 1)) = O4 at *
                have HK2 := Lib.hid k2
                clear k2 m3 m2 hM2
                have hO22 : Off (· = rk) w21 (setBlock (setBlock w21.drew rk O3) rk O4) := by repeat (first | exact Off.refl _ _ | apply Off.drew | (refine Off.setBlock ?_ _ (fun _ => rfl)))
                go_upto_region 22 with fail
                go_cut [87] (fun _ wx => setBlock (setBlock w21.drew rk O3) rk O4 = wx)
                case first =>
                  go_region_held3 (fun w' => Off (· = rk) w21 w') (first | (repeat (first | exact Off.refl _ _ | assumption | apply Off.drew | (refine Off.setBlock ?_ _ (fun _ => rfl))))) (first | fail)
                  all_goals (go_wp2_with fail; go_meet; exact rfl)
                case rest =>
                  subst hcut
                  clear r1 r2 hlk hlk2 y0 y1 y2 y3 y4 y5 y6
                  generalize setBlock (setBlock w21.drew rk O3) rk O4 = w22 at *
                  have z18 : w22.cell? ⟨g9, j * 20 + 18, none⟩ = some (.int .i64 f.state) := (hO22.cell (p := ⟨g9, j * 20 + 18, none⟩) hg9l1 hg9r).trans (HRG1.out 18 _ rfl)
                  have hsn : L2.take (j + 1) = L2.take j ++ [f] := by rw [List.take_add_one, HF.out]; rfl
                  have hwk : (weakN (L2.take j) : Int) ≤ 48 := by have := weakN_le (L2.take j); rw [List.length_take] at this; omega
                  have hwk0 : (0 : Int) ≤ (weakN (L2.take j) : Int) := by omega
                  have HFin := Lib.hid (show ∀ ov : Value, ov = .int .i64 (weakN (L2.take (j + 1)) : Int) → CapsIn w10 rk L2 ov (.int .i64 ((j + 1 : Nat) : Int)) w22 from fun ov hov =>
                    ⟨j + 1, _, _, hjl, rfl, hov, m4, by rw [List.map_append, HKS1.out, hsn, keysOf_snoc]; rfl, fun e he => by
                      rcases List.mem_append.1 he with he | he
                      · have := HBN1.out e he; omega
                      · rw [List.mem_singleton.1 he]; exact Nat.lt_succ_self _, (hO2.trans hO21).trans hO22⟩)
                  have HSN := Lib.hid (show weakN (L2.take (j + 1)) = weakN (L2.take j) + if f.weak then 1 else 0 by rw [hsn, weakN_snoc])
                  clear hsn m4
                  generalize weakN (L2.take j) = wn at *
                  by_cases hs0 : f.state = 0
                  · have HS := Lib.hid hs0
                    rw [hs0] at z18
                    clear hs0
                    go_wp2_with fail
                    exact ⟨by simpa using HFin.out _ (by rw [HSN.out, if_pos (.inl HS.out)]; go_num), by simp [intOf]; omega⟩
                  · have hb0 : (f.state == 0) = false := by simpa using hs0
                    by_cases hs2 : f.state = 2
                    · have HS := Lib.hid hs2
                      rw [hs2] at z18
                      clear hs0 hs2 hb0
                      go_wp2_with fail
                      exact ⟨by simpa using HFin.out _ (by rw [HSN.out, if_pos (.inr HS.out)]; go_num), by simp [intOf]; omega⟩
                    · have hb2 : (f.state == 2) = false := by simpa using hs2
                      have HS := Lib.hid (show ¬ f.weak from fun h => by rcases h with h | h <;> contradiction)
                      clear hs0 hs2
                      go_wp2_with fail
                      exact ⟨by simpa using HFin.out _ (by rw [HSN.out, if_neg HS.out]; simp), by simp [intOf]; omega⟩
            · have p1 : ¬ (j : Int) < (L2.length : Int) := by omega
              have hjL : L2.take j = L2 := List.take_of_length_le (by omega)
              have hcnt : es2.length = 2 * L2.length := by
                have h := congrArg List.length HKS.out
                rw [hjL, keysOf_len, List.length_map] at h; exact h
              have HWN := Lib.hid (show weakN (L2.take j) = weakN L2 by rw [hjL])
              have hO92 : Off (· = rk) w9 wr2 := hO10.trans hO2
              have hX2 := hO92.blk hX9.out (fun e => hXr.out e)
              have x0 : wr2.cell? ⟨X, 0, none⟩ = some (.int .i64 kind) := by rw [← HKD.out]; exact hX2.cell 0
              have HX2 := Lib.hid hX2
              have hln := fun ty => run_length (P := Try.prog) Try.underlying68 hM2 ty
              rw [hcnt] at hln
              simp only [Int.natCast_mul] at hln
              have HM2 := Lib.hid hM2
              clear hX2 hjL hcnt hM2
              generalize weakN (L2.take j) = wn at *
              have hm2 : (2 : Int) * (L2.length : Int) ≤ 96 := by omega
              have hL0 : (0 : Int) ≤ (L2.length : Int) := by omega
              go_upto_region 25 with fail
              go_cut [7, 12, 144] (fun s7 s12 s144 wx => s7 = .int .i64 (L.length : Int) ∧ s12 = .int .i64 (wn : Int) ∧ s144 = .bool false ∧ wr2 = wx)
              case first =>
                rcases HC.out with ⟨he, h2⟩ | ⟨he, h2, h3, h4⟩ | ⟨he, h2, htk⟩
                · subst he
                  clear h2
                  go_wp2_with fail
                  go_meet
                  exact ⟨rfl, rfl, congrArg Value.bool (decide_eq_false (by omega)), rfl⟩
                · subst he
                  have h48 : (L.length : Int) = 48 := by omega
                  rw [h48]
                  by_cases hw0 : wn = 0
                  · subst hw0
                    clear h2 h3 h4
                    go_wp2_with fail
                    go_meet
                    exact ⟨by rw [h48], rfl, by first | rfl | exact congrArg Value.bool (decide_eq_false (by omega)), rfl⟩
                  · have hk1 : kind = 1 := by
                      rcases HL2.out with h | h
                      · rw [h, h4] at HWN
                        have := HWN.out
                        rw [weakN_zero h3] at this
                        exact absurd this hw0
                      · exact h
                    rw [hk1] at x0
                    have hwb : ((wn : Int) == 0) = false := by simp; omega
                    clear h2 h3 h4
                    go_wp2_with fail
                    go_meet
                    exact ⟨by rw [h48], rfl, by first | rfl | exact congrArg Value.bool (decide_eq_false (by omega)), rfl⟩
                · subst he
                  have HNE := Lib.hid h2
                  clear h2 htk
                  go_wp2_with (first
                    | (refine wpList_ldk (by rfl) (.tmp 137) rfl X 5 rfl (flAt ns 4).opn (step_blk_opn HX2.out) ?_)
                    | (refine wpList_ldk (by rfl) (.tmp 140) rfl X 12 rfl (flAt ns 4).bck (step_blk_bck HX2.out) ?_)
                    | (refine wpList_key_eql (by rfl) (.tmp 138) (.tmp 141) (flAt ns 4).opn (flAt ns 4).bck rfl rfl rfl false (decide_eq_false HNE.out) ?_))
                  go_meet
                  exact ⟨rfl, rfl, congrArg Value.bool (decide_eq_false (by omega)), rfl⟩
              case rest =>
                obtain ⟨hs7, hs12, hs144, hwc⟩ := hcut
                subst hs7 hs12 hs144 hwc
                clear hln x0
                go_wp2_with fail
                refine ⟨⟨k + 1, U8, L2, es2, c2, by omega, by go_num, HT10.off hO2 (fun i hi e => hU8r (e ▸ hi)), HU8.out, hU8r, HM2.out, hrk, below_off hbel9 hO92 (Nat.le_refl _) (fun i hi e => by have : i = rk := e; omega)⟩, by simp [intOf]; omega⟩
    · have q1 : ¬ (k : Int) < (len : Int) := by omega
      go_wp2_with fail
      go_ret
      exact ⟨rfl, hbel⟩
theorem flowCaps_walk (a : Option Addr) (len cap : Nat) (F : Nat → List Int) (w : World) (hin : Elems stepKs w a len F) (hm : len ≤ maxLen) :
    Calls Try.prog 9 #[.slice a len cap] w fun e w' => e = .returned (.bool true) ∧ Below w.heap.size w w' :=
  caps_walk a len cap F w hin (by unfold maxLen at hm; omega)
end Go.Proofs.Ytbkgjghbmafoeaa
