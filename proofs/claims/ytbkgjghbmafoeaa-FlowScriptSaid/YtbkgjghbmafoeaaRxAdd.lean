/- The walk over the Add of the document's table: the plain law; what is refused for its keys. Conditions: the table lies whole in memory. · The walk over the Add of the document's table, where the flow comes in. Conditions: the table lies whole in memory. -/
import Derived.Test.YtbkgjghbmafoeaaRxFind
import Derived.Test.YtbkgjghbmafoeaaRxRow
import Derived.Deep.CutBlock
import Derived.Deep.DeepCutAuto
import Derived.Deep.LoopGhost
namespace Go.Proofs.Ytbkgjghbmafoeaa
open Go.RowKit

theorem insF_at {f : Fl} : ∀ {L : List Fl} {k : Nat} {n : Int}, (∀ j g, j < k → L[j]? = some g → g.id = n + j) → (∀ g, L[k]? = some g → g.id ≠ n + k) → k ≤ L.length →
    free n L = n + k ∧ insF f n L = L.take k ++ { f with id := n + k } :: L.drop k
  | [], k, n, _, _, hk => by
    obtain rfl : k = 0 := by simpa using hk
    simp [free, insF]
  | x :: L, 0, n, _, h, _ => by
    have := h x rfl
    simp only [Int.natCast_zero, Int.add_zero] at this
    simp [free, insF, this]
  | x :: L, k + 1, n, h1, h2, hk => by
    have hx := h1 0 x (by omega) rfl
    simp only [Int.natCast_zero, Int.add_zero] at hx
    obtain ⟨e1, e2⟩ := insF_at (f := f) (L := L) (k := k) (n := n + 1) (fun j g hj hg => by have := h1 (j + 1) g (by omega) (by simpa using hg); omega) (fun g hg => by have := h2 g (by simpa using hg); omega) (by simpa using hk)
    have e : n + 1 + (k : Int) = n + ((k + 1 : Nat) : Int) := by omega
    rw [e] at e1 e2
    simp only [free, insF, hx, if_true, List.take_succ_cons, List.drop_succ_cons, List.cons_append]
    exact ⟨e1, by rw [e2]⟩

/-- Where the one stands who goes, of the first i. -/
def VicAt (L : List Fl) (i : Nat) (kv : Value) : Prop :=
  (kv = .int .i64 (-1) ∧ vic (L.take i) = none) ∨ ∃ (n : Nat) (x : Fl), kv = .int .i64 n ∧ L[n]? = some x ∧ vic (L.take i) = some x

theorem vic_snoc {L : List Fl} {i : Nat} {x : Fl} (h : L[i]? = some x) : vic (L.take (i + 1)) = vic1 (vic (L.take i)) x := by
  rw [List.take_add_one, h]; simp [vic]

theorem vic1_true {b : Option Fl} {x : Fl} (h : decide (x.weak ∧ beats x b = true) = true) : vic1 b x = some x := by
  unfold vic1; rw [if_pos (of_decide_eq_true h)]
theorem vic1_false {b : Option Fl} {x : Fl} (h : decide (x.weak ∧ beats x b = true) = false) : vic1 b x = b := by
  unfold vic1; rw [if_neg (of_decide_eq_false h)]

def XAdd (rb : Nat) (g : Option Nat) (L : List Fl) (f : Fl) (w : World) (e : Ending) (w' : World) : Prop :=
  ∃ v' g', e = .returned (addV (addF L f)) ∧ RxAt w' rb v' g' (addF L f).2.2.2 ∧ Off (· = rb) w w' ∧ (g' = g ∨ ∀ i, g' = some i → w.heap.size ≤ i)

theorem xadd_fail {w w2 : World} {rb : Nat} {v : Value} {g : Option Nat} {L : List Fl} {f : Fl} (H : RxAt w rb v g L) (hf : tkn L f.opn = true ∨ tkn L f.bck = true ∨ f.opn = f.bck) (hO : Off (fun _ => False) w w2) :
    XAdd rb g L f w (.returned (.tuple #[.int .i64 0, .int .i64 0, .int .i64 63])) w2 := by
  have ha : addF L f = (0, 0, 63, L) := by unfold addF; rw [if_pos hf]
  refine ⟨v, g, by rw [ha]; rfl, ?_, hO.mono fun _ _ k => k.elim, .inl rfl⟩
  rw [ha]; exact H.off hO (fun _ _ k => k)

theorem box42_opn {w : World} {N : Nat} {f : Fl} (h : Blk w N 42 (flL f).toArray) : w.rangeAt N 1 (keyL f.opn) := range_opn (o := 0) (range_blk h 0 (flL f) (fun j v hj => by simpa using hj))
theorem box42_bck {w : World} {N : Nat} {f : Fl} (h : Blk w N 42 (flL f).toArray) : w.rangeAt N 8 (keyL f.bck) := range_bck (o := 0) (range_blk h 0 (flL f) (fun j v hj => by simpa using hj))
theorem box42_fl {w : World} {N : Nat} {f : Fl} (h : Blk w N 42 (flL f).toArray) : w.rangeAt N 0 (flL f) := range_blk h 0 (flL f) (fun j v hj => by simpa using hj)

set_option maxRecDepth 100000 in
set_option maxHeartbeats 4000000 in
theorem xadd_t1 {w : World} {rb : Nat} {v : Value} {g : Option Nat} {L : List Fl} (f : Fl) (H : RxAt w rb v g L) (t1 : tkn L f.opn = true) :
    Calls Try.prog 13 #[.pointer (some ⟨rb, 0, none⟩), flV f] w (XAdd rb g L f w) := by
  have hO1 : Off (fun _ => False) w (w.alloc (.cells (flL f).toArray 42)) := (Off.refl _ _).alloc _
  have hB1 := Lib.hid (Blk.new w 42 (flL f).toArray)
  have ht := xtaken_any f.opn (H.off hO1 (fun _ _ k => k))
  have HH := Lib.hid H
  clear H
  go_enter Try.func13, Try.ntmps13
  go_wp2_with (first | (refine wpList_ldk (by rfl) (.tmp 14) rfl w.heap.size 1 rfl f.opn (box42_opn hB1.out) ?_))
  refine ht.mono ?_
  rintro e w2 ⟨rfl, hO2⟩
  rw [t1]
  have HF := Lib.hid (xadd_fail HH.out (.inl t1) (hO1.step hO2 fun _ _ k => k))
  clear t1 ht
  go_wp2_with fail
  go_ret3
  exact HF.out

set_option maxRecDepth 100000 in
set_option maxHeartbeats 4000000 in
theorem xadd_t2 {w : World} {rb : Nat} {v : Value} {g : Option Nat} {L : List Fl} (f : Fl) (H : RxAt w rb v g L) (t1 : tkn L f.opn = false) (t2 : tkn L f.bck = true) :
    Calls Try.prog 13 #[.pointer (some ⟨rb, 0, none⟩), flV f] w (XAdd rb g L f w) := by
  have hO1 : Off (fun _ => False) w (w.alloc (.cells (flL f).toArray 42)) := (Off.refl _ _).alloc _
  have hB1 := Lib.hid (Blk.new w 42 (flL f).toArray)
  have H1 := Lib.hid (H.off hO1 (fun _ _ k => k))
  have ht := xtaken_any f.opn H1.out
  have HH := Lib.hid H
  clear H
  go_enter Try.func13, Try.ntmps13
  go_wp2_with (first | (refine wpList_ldk (by rfl) (.tmp 14) rfl w.heap.size 1 rfl f.opn (box42_opn hB1.out) ?_))
  refine ht.mono ?_
  rintro e w2 ⟨rfl, hO2⟩
  rw [t1]
  have hB2 := Lib.hid (hO2.blk hB1.out (fun k => k))
  have ht2 := xtaken_any f.bck (H1.out.off hO2 (fun _ _ k => k))
  clear ht
  go_wp2_with (first | (refine wpList_ldk (by rfl) (.tmp 19) rfl w.heap.size 8 rfl f.bck (box42_bck hB2.out) ?_))
  refine ht2.mono ?_
  rintro e w3 ⟨rfl, hO3⟩
  rw [t2]
  have HF := Lib.hid (xadd_fail HH.out (.inr (.inl t2)) ((hO1.step hO2 fun _ _ k => k).step hO3 fun _ _ k => k))
  clear t1 t2 ht2
  go_wp2_with fail
  go_ret3
  exact HF.out

set_option maxRecDepth 100000 in
set_option maxHeartbeats 4000000 in
theorem xadd_t3 {w : World} {rb : Nat} {v : Value} {g : Option Nat} {L : List Fl} (f : Fl) (H : RxAt w rb v g L) (t1 : tkn L f.opn = false) (t2 : tkn L f.bck = false) (t3 : f.opn = f.bck) :
    Calls Try.prog 13 #[.pointer (some ⟨rb, 0, none⟩), flV f] w (XAdd rb g L f w) := by
  have T3 := Lib.hid t3
  clear t3
  have hO1 : Off (fun _ => False) w (w.alloc (.cells (flL f).toArray 42)) := (Off.refl _ _).alloc _
  have hB1 := Lib.hid (Blk.new w 42 (flL f).toArray)
  have H1 := Lib.hid (H.off hO1 (fun _ _ k => k))
  have ht := xtaken_any f.opn H1.out
  have HH := Lib.hid H
  clear H
  go_enter Try.func13, Try.ntmps13
  go_wp2_with (first | (refine wpList_ldk (by rfl) (.tmp 14) rfl w.heap.size 1 rfl f.opn (box42_opn hB1.out) ?_))
  refine ht.mono ?_
  rintro e w2 ⟨rfl, hO2⟩
  rw [t1]
  have hB2 := Lib.hid (hO2.blk hB1.out (fun k => k))
  have ht2 := xtaken_any f.bck (H1.out.off hO2 (fun _ _ k => k))
  clear ht
  go_wp2_with (first | (refine wpList_ldk (by rfl) (.tmp 19) rfl w.heap.size 8 rfl f.bck (box42_bck hB2.out) ?_))
  refine ht2.mono ?_
  rintro e w3 ⟨rfl, hO3⟩
  rw [t2]
  have HF := Lib.hid (xadd_fail HH.out (.inr (.inr T3.out)) ((hO1.step hO2 fun _ _ k => k).step hO3 fun _ _ k => k))
  have hB3 := Lib.hid (hO3.blk hB2.out (fun k => k))
  clear t1 t2 ht2
  go_wp2_with (first | (refine wpList_ldk (by rfl) (.tmp 24) rfl w.heap.size 1 rfl f.opn (box42_opn hB3.out) ?_) | (refine wpList_ldk (by rfl) (.tmp 26) rfl w.heap.size 8 rfl f.bck (box42_bck hB3.out) ?_) | (refine wpList_key_eql (by rfl) (.tmp 25) (.tmp 27) f.opn f.bck rfl rfl rfl true (decide_eq_true T3.out) ?_))
  go_ret3
  exact HF.out
end Go.Proofs.Ytbkgjghbmafoeaa
namespace Go.Proofs.Ytbkgjghbmafoeaa
open Go.RowKit

/-- There is room: what is there, who went. -/
def XAddMid (W : World) (rb : Nat) (g0 : Option Nat) (L : List Fl) (s7 : Value) (wx : World) : Prop :=
  ∃ M v1 g1 gone, s7 = .int .i64 gone ∧ RxAt wx rb v1 g1 M ∧ (L.length ≠ 48 ∧ M = L ∧ gone = 0 ∨ L.length = 48 ∧ ∃ x, vic L = some x ∧ M = dropF x.id L ∧ gone = x.id) ∧ Off (· = rb) W wx ∧ (g1 = g0 ∨ ∀ i, g1 = some i → W.heap.size ≤ i)

theorem XAddMid.few {L M : List Fl} {gone : Int} (h : L.length ≠ 48 ∧ M = L ∧ gone = 0 ∨ L.length = 48 ∧ ∃ g, vic L = some g ∧ M = dropF g.id L ∧ gone = g.id) (ok : FOk L) : M.length < 48 ∧ FOk M := by
  have := ok.few
  rcases h with ⟨h1, rfl, _⟩ | ⟨h1, g, hg, rfl, _⟩
  · exact ⟨by omega, ok⟩
  · have := dropF_length ok.ids (vic_mem hg).1; exact ⟨by omega, ok.drop _⟩

theorem addF_room {L M : List Fl} {f : Fl} {gone : Int} (h : L.length ≠ 48 ∧ M = L ∧ gone = 0 ∨ L.length = 48 ∧ ∃ x, vic L = some x ∧ M = dropF x.id L ∧ gone = x.id) (t1 : tkn L f.opn = false) (t2 : tkn L f.bck = false) (t3 : f.opn ≠ f.bck) :
    addF L f = (free 1 M, gone, 0, insF f 1 M) := by
  unfold addF
  rw [if_neg (by rw [t1, t2]; simp; exact t3)]
  rcases h with ⟨h1, rfl, rfl⟩ | ⟨h1, x, hx, rfl, rfl⟩
  · rw [if_neg h1]
  · rw [if_pos h1, hx]

def XVicRel (W : World) (L : List Fl) (kv iv : Value) (wr : World) : Prop :=
  ∃ i : Nat, i ≤ L.length ∧ iv = .int .i64 i ∧ VicAt L i kv ∧ Off (fun _ => False) W wr

def XFreeRel (W : World) (N : Nat) (f : Fl) (M : List Fl) (iv : Value) (wr : World) : Prop :=
  ∃ k : Nat, k ≤ M.length ∧ iv = .int .i64 k ∧ Blk wr N 42 (flL { f with id := 1 + k }).toArray ∧ Off (· = N) W wr ∧ ∀ j x, j < k → M[j]? = some x → x.id = 1 + j

def XFreeMid (W : World) (N : Nat) (f : Fl) (M : List Fl) (iv : Value) (wr : World) : Prop :=
  ∃ k : Nat, k ≤ M.length ∧ iv = .int .i64 k ∧ Blk wr N 42 (flL { f with id := 1 + k }).toArray ∧ Off (· = N) W wr ∧ free 1 M = 1 + k ∧ insF f 1 M = M.take k ++ { f with id := 1 + k } :: M.drop k

set_option maxRecDepth 100000 in
set_option maxHeartbeats 4000000 in
theorem xadd_go {w : World} {rb : Nat} {v : Value} {g : Option Nat} {L : List Fl} (f : Fl) (H : RxAt w rb v g L) (ok : FOk L) (t1 : tkn L f.opn = false) (t2 : tkn L f.bck = false) (t3 : f.opn ≠ f.bck) :
    Calls Try.prog 13 #[.pointer (some ⟨rb, 0, none⟩), flV f] w (XAdd rb g L f w) := by
  have T3 := Lib.hid t3
  clear t3
  have hO1 : Off (fun _ => False) w (w.alloc (.cells (flL f).toArray 42)) := (Off.refl _ _).alloc _
  have hB1 := Lib.hid (Blk.new w 42 (flL f).toArray)
  have H1 := Lib.hid (H.off hO1 (fun _ _ k => k))
  have ht := xtaken_any f.opn H1.out
  have HH := Lib.hid H
  clear H
  go_enter Try.func13, Try.ntmps13
  go_wp2_with (first | (refine wpList_ldk (by rfl) (.tmp 14) rfl w.heap.size 1 rfl f.opn (box42_opn hB1.out) ?_))
  refine ht.mono ?_
  rintro e w2 ⟨rfl, hO2⟩
  rw [t1]
  have hB2 := Lib.hid (hO2.blk hB1.out (fun k => k))
  have H2 := Lib.hid (H1.out.off hO2 (fun _ _ k => k))
  have ht2 := xtaken_any f.bck H2.out
  clear ht
  go_wp2_with (first | (refine wpList_ldk (by rfl) (.tmp 19) rfl w.heap.size 8 rfl f.bck (box42_bck hB2.out) ?_))
  refine ht2.mono ?_
  rintro e w3 ⟨rfl, hO3⟩
  rw [t2]
  have hB3 := Lib.hid (hO3.blk hB2.out (fun k => k))
  have H3 := Lib.hid (H2.out.off hO3 (fun _ _ k => k))
  have HO13 := Lib.hid ((hO1.step hO2 fun _ _ k => k).step hO3 fun _ _ k => k)
  have T1 := Lib.hid t1
  have T2 := Lib.hid t2
  obtain ⟨a, cap, hv, hcap, hcm, _⟩ := H3.out.row.form
  subst hv
  have hfew := H3.out.few
  have c3 : w3.cell? ⟨rb, 0, none⟩ = some (.slice a L.length cap) := H3.out.top.cell 0
  have hrb := H3.out.top.lt
  clear t1 t2 ht2 hO1 hO2 hO3
  go_upto_if 35 with (first | (refine wpList_ldk (by rfl) (.tmp 24) rfl w.heap.size 1 rfl f.opn (box42_opn hB3.out) ?_) | (refine wpList_ldk (by rfl) (.tmp 26) rfl w.heap.size 8 rfl f.bck (box42_bck hB3.out) ?_) | (refine wpList_key_eql (by rfl) (.tmp 25) (.tmp 27) f.opn f.bck rfl rfl rfl false (decide_eq_false T3.out) ?_))
  go_cut [7] (fun s7 wx => XAddMid w3 rb g L s7 wx)
  case first =>
    by_cases hl : L.length = 48
    · have HL := Lib.hid hl
      have hl2 : ((L.length : Int) == 48) = true := by simp; omega
      clear hl
      go_upto_block 0 with fail
      rw [hl2]
      go_cut [8] (fun s8 wx => VicAt L L.length s8 ∧ Off (fun _ => False) w3 wx)
      case first =>
        clear hl2 c3
        go_wp2_with fail
        go_loopw [8, 9] (XVicRel w3 L) (fun _ i _ => L.length - (intOf i).toNat)
        case atStart => exact ⟨0, Nat.zero_le _, rfl, .inl ⟨rfl, by simp [vic]⟩, Off.refl _ _⟩
        case round =>
          obtain ⟨i, hi, rfl, hva, hO4⟩ := hrel
          have HVA := Lib.hid hva
          have HO4 := Lib.hid hO4
          have H4 := Lib.hid (H3.out.off hO4 (fun _ _ k => k))
          have c4 : wr.cell? ⟨rb, 0, none⟩ = some (.slice a L.length cap) := H4.out.top.cell 0
          have q0 : (0 : Int) ≤ (i : Int) := by omega
          clear hva hO4
          by_cases hlt : i < L.length
          · obtain ⟨x, hx⟩ : ∃ x, L[i]? = some x := ⟨L[i], List.getElem?_eq_getElem hlt⟩
            have q1 : (i : Int) < (L.length : Int) := by omega
            obtain ⟨b, off, rfl, hg, hrg⟩ := H4.out.row.at hx
            have hgl := H4.out.lt (.inr hg)
            have hrbl := H4.out.top.lt
            have HX := Lib.hid hx
            have HRG := Lib.hid hrg
            have HNew := Lib.hid (Blk.new wr 42 (flL fl0).toArray)
            have HOa := Lib.hid ((Off.refl (fun _ => False) wr).alloc (.cells (flL fl0).toArray 42))
            have HRa := Lib.hid (show (wr.alloc (.cells (flL fl0).toArray 42)).rangeAt b (off + i * 20) (flL x) from fun j v hj => (HOa.out.cell (p := ⟨b, off + i * 20 + j, none⟩) hgl (fun k => k)).trans (HRG.out j v hj))
            obtain ⟨bb, hbb⟩ : ∃ bb, decide (x.weak ∧ beats x (vic (L.take i)) = true) = bb := ⟨_, rfl⟩
            have HBB := Lib.hid hbb
            clear hx hrg hbb
            go_upto_region 10 with (first
              | (refine wpList_ldr (by rfl) (.tmp 50) rfl b (off + i * 20) rfl x HRG.out ?_)
              | (refine wpList_ldr (by rfl) (.tmp 50) rfl b (off + i * 20) rfl x HRa.out ?_)
              | (refine wpList_store_blk rfl 42 (.tmp 10) (.tmp 51) rfl wr.heap.size 42 (flL fl0).toArray (flL x).toArray HNew.out rfl rfl (by kernel_rfl) rfl (flL_one x) ?_; intro w5 hO5 hb5))
            have HO5 := Lib.hid ((HOa.out.mono (S' := (· = wr.heap.size)) fun _ _ k => k.elim).step hO5 fun _ _ e => e)
            have HO35 := Lib.hid (HO4.out.step HO5.out (fun j hj e => by have := HO4.out.size; omega))
            have H5 := Lib.hid (H4.out.off HO5.out (fun j hj e => by have := H4.out.lt hj; omega))
            have hXg : b ≠ wr.heap.size := by omega
            have HB5 := Lib.hid hb5
            generalize wr.heap.size = X at *
            clear hO5 hb5 HNew HOa HRa c4 HRG
            have hX5 := HB5.out.lt
            have c5 : w5.cell? ⟨rb, 0, none⟩ = some (.slice (some ⟨b, off, none⟩) L.length cap) := H5.out.top.cell 0
            have d19 : w5.cell? ⟨X, 19, none⟩ = some (.int .i64 x.ends) := HB5.out.cell 19
            have d18 : w5.cell? ⟨X, 18, none⟩ = some (.int .i64 x.state) := HB5.out.cell 18
            simp only [Act.put]
            go_cut [76] (fun s76 wx => s76 = .bool bb ∧ Off (fun _ => False) w5 wx)
            case first =>
              by_cases hw : x.weak
              · have hst : x.state = 0 ∨ x.state = 2 := hw
                rcases HVA.out with ⟨hu8, hvn⟩ | ⟨n, y, hu8, hy, hvy⟩
                · subst hu8
                  have hb : bb = true := by rw [← HBB.out, hvn]; simp [hw, beats]
                  subst hb
                  clear hvn hw
                  rcases hst with hs | hs <;> rw [hs] at d18 <;> clear hs
                  · go_quiet (fail)
                    go_wp2_with fail
                    go_meet
                    exact ⟨rfl, (Off.refl _ _).drewN _⟩
                  · go_quiet (fail)
                    go_wp2_with fail
                    go_meet
                    exact ⟨rfl, (Off.refl _ _).drewN _⟩
                · subst hu8
                  obtain ⟨b', off', hbo, _, hry⟩ := H5.out.row.at hy
                  simp only [Option.some.injEq, Addr.mk.injEq, and_true] at hbo
                  obtain ⟨rfl, rfl⟩ := hbo
                  have e19 : w5.cell? ⟨b, off + n * 20 + 19, none⟩ = some (.int .i64 y.ends) := hry 19 _ rfl
                  have hnl : n < L.length := by
                    rcases Nat.lt_or_ge n L.length with h' | h'
                    · exact h'
                    · rw [List.getElem?_eq_none h'] at hy; cases hy
                  have p0 : (0 : Int) ≤ (n : Int) := by omega
                  have p1 : (n : Int) < (L.length : Int) := by omega
                  have hb : decide (x.ends < y.ends) = bb := by rw [← HBB.out, hvy]; simp [hw, beats]
                  have HB := Lib.hid hb
                  clear hb hw hvy hy hry
                  rcases hst with hs | hs <;> rw [hs] at d18 <;> clear hs
                  · go_quiet (fail)
                    go_wp2_with fail
                    go_meet
                    exact ⟨by rw [HB.out, show decide ((n : Int) < 0) = false from decide_eq_false (by omega)]; rfl, (Off.refl _ _).drewN _⟩
                  · go_quiet (fail)
                    go_wp2_with fail
                    go_meet
                    exact ⟨by rw [HB.out, show decide ((n : Int) < 0) = false from decide_eq_false (by omega)]; rfl, (Off.refl _ _).drewN _⟩
              · have hb : bb = false := by rw [← HBB.out]; simp [hw]
                subst hb
                have hs0 : (x.state == 0) = false := by
                  have : ¬ x.state = 0 := fun h => hw (.inl h)
                  simpa using this
                have hs2 : (x.state == 2) = false := by
                  have : ¬ x.state = 2 := fun h => hw (.inr h)
                  simpa using this
                clear hw
                go_quiet (fail)
                go_wp2_with fail
                go_meet
                exact ⟨rfl, (Off.refl _ _).drewN _⟩
            case rest =>
              obtain ⟨hs76, hO6⟩ := hcut
              subst hs76
              have HO6 := Lib.hid (HO35.out.step hO6 (fun _ _ k => k))
              clear hO6 c5 d18 d19
              have hvs := vic_snoc HX.out
              cases bb with
              | true =>
                have HV := Lib.hid (hvs.trans (vic1_true HBB.out))
                clear hvs
                go_wp2_with fail
                exact ⟨⟨i + 1, hlt, by go_num, .inr ⟨i, x, rfl, HX.out, HV.out⟩, HO6.out⟩, by simp [intOf]; omega⟩
              | false =>
                have HV := Lib.hid (hvs.trans (vic1_false HBB.out))
                clear hvs
                go_wp2_with fail
                refine ⟨⟨i + 1, hlt, by go_num, ?_, HO6.out⟩, by simp [intOf]; omega⟩
                unfold VicAt
                rw [HV.out]
                exact HVA.out
          · have q1 : ¬ (i : Int) < (L.length : Int) := by omega
            have hiL : i = L.length := by omega
            have HFin := Lib.hid (show VicAt L L.length u8 ∧ Off (fun _ => False) w3 wr from ⟨by rw [← hiL]; exact HVA.out, HO4.out⟩)
            clear hiL
            go_wp2_with fail
            go_meet
            exact HFin.out
      case rest =>
        obtain ⟨hva, hO4⟩ := hcut
        obtain ⟨w4, hw4⟩ : ∃ w4, w4 = wc := ⟨_, rfl⟩
        subst hw4
        have H4 := Lib.hid (H3.out.off hO4 (fun _ _ k => k))
        have c4 : w4.cell? ⟨rb, 0, none⟩ = some (.slice a L.length cap) := H4.out.top.cell 0
        have HO4 := Lib.hid hO4
        clear hO4 c3
        rcases hva with ⟨hu8, hvn⟩ | ⟨n, x, hu8, hx, hvx⟩
        · subst hu8
          have ha : addF L f = (0, 0, 120, L) := by
            unfold addF
            rw [if_neg (by rw [T1.out, T2.out]; simp; exact T3.out), if_pos HL.out, ← List.take_length (l := L), hvn]
          have HF := Lib.hid (show XAdd rb g L f w (.returned (.tuple #[.int .i64 0, .int .i64 0, .int .i64 120])) w4 from
            ⟨_, g, by rw [ha]; rfl, by rw [ha]; exact H4.out, (HO13.out.step HO4.out fun _ _ k => k).mono fun _ _ k => k.elim, .inl rfl⟩)
          clear hvn ha
          go_wp2_with fail
          go_ret3
          exact HF.out
        · subst hu8
          rw [List.take_length] at hvx
          obtain ⟨b, off, rfl, hg, hry⟩ := H4.out.row.at hx
          have e0 : w4.cell? ⟨b, off + n * 20, none⟩ = some (.int .i64 x.id) := hry 0 _ rfl
          have hnl : n < L.length := by
            rcases Nat.lt_or_ge n L.length with h' | h'
            · exact h'
            · rw [List.getElem?_eq_none h'] at hx; cases hx
          have p0 : (0 : Int) ≤ (n : Int) := by omega
          have p1 : (n : Int) < (L.length : Int) := by omega
          have p2 : ¬ (n : Int) < 0 := by omega
          have HV := Lib.hid hvx
          clear hvx hx hry hg
          go_wp2_with fail
          refine (xdrop_any x.id H4.out ok).mono ?_
          rintro e w5 ⟨v5, g5, b5, rfl, _, H5, hO5, hg5⟩
          have HM := Lib.hid (show XAddMid w3 rb g L (.int .i64 x.id) w5 from ⟨_, v5, g5, x.id, rfl, H5, .inr ⟨HL.out, x, HV.out, rfl, rfl⟩, (HO4.out.mono fun _ _ k => k.elim).step hO5 fun _ _ k => k, hg5.imp id fun h i hi => Nat.le_trans HO4.out.size (h i hi)⟩)
          clear H5 hO5 hg5
          go_wp2_with fail
          go_meet
          exact HM.out
    · have hl2 : ((L.length : Int) == 48) = false := by simp; omega
      have HM := Lib.hid (show XAddMid w3 rb g L (.int .i64 0) w3 from ⟨L, _, g, 0, rfl, H3.out, .inl ⟨hl, rfl, rfl⟩, Off.refl _ _, .inl rfl⟩)
      clear hl
      go_wp2_with fail
      go_meet
      exact HM.out
  case rest =>
    obtain ⟨M, v4, g4, gone, hs7, H4, hcase, hO4, hg4⟩ := hcut
    subst hs7
    obtain ⟨w4, hw4⟩ : ∃ w4, w4 = wc := ⟨_, rfl⟩
    subst hw4
    obtain ⟨hM, okM⟩ := XAddMid.few hcase ok
    have hrbN : rb < w.heap.size := HH.out.top.lt
    have hBc := hO4.blk hB3.out (by omega)
    have hg4N : ∀ i, g4 = some i → i ≠ w.heap.size := fun i hi e => by
      rcases hg4 with h | h
      · have := HH.out.lt (.inr (h ▸ hi)); omega
      · have := h i hi; have := hB3.out.lt; omega
    have HG4 := Lib.hid (show g4 = g ∨ ∀ i, g4 = some i → w.heap.size ≤ i from hg4.imp id fun h i hi => Nat.le_trans (Nat.le_of_lt hB3.out.lt) (h i hi))
    have HO04 := Lib.hid ((HO13.out.mono (S' := (· = rb)) fun _ _ k => k.elim).trans hO4)
    have HA := Lib.hid hcase
    have d0 : w4.cell? ⟨w.heap.size, 0, none⟩ = some (.int .i64 f.id) := hBc.cell 0
    have fz : w4.frozen? ⟨w.heap.size, 0, none⟩ = false := hBc.free 0
    have hO5 : Off (· = w.heap.size) w4 (w4.setCell ⟨w.heap.size, 0, none⟩ (.int .i64 1)) := (Off.refl _ _).setAt 0 _
    have hB5 : Blk (w4.setCell ⟨w.heap.size, 0, none⟩ (.int .i64 1)) w.heap.size 42 (flL { f with id := 1 }).toArray := by
      have := hBc.setCell 0 (.int .i64 1)
      rw [List.setIfInBounds_toArray] at this
      exact this
    have H5 := H4.off hO5 (by
      rintro i (rfl | hi) e
      · omega
      · exact hg4N i hi e)
    go_upto_block 2 with fail
    clear d0 fz hcase hg4 hO4 H4 hBc c3
    generalize w4.setCell ⟨w.heap.size, 0, none⟩ (.int .i64 1) = w5 at *
    generalize hN : w.heap.size = N at *
    have HN := Lib.hid hN
    clear hN
    obtain ⟨a4, cap4, hv4, hcap4, hcm4, _⟩ := H5.row.form
    subst hv4
    have HB5 := Lib.hid hB5
    have HH5 := Lib.hid H5
    have HO5 := Lib.hid hO5
    have HGN := Lib.hid hg4N
    clear hB5 H5 hO5 hg4N hB1 hB2 hB3
    go_cut [11] (fun s11 wx => XFreeMid w5 N f M s11 wx)
    case first =>
      go_wp2_with fail
      go_loopw [11] (XFreeRel w5 N f M) (fun i _ => M.length - (intOf i).toNat)
      case atStart => exact ⟨0, Nat.zero_le _, rfl, HB5.out, Off.refl _ _, fun j x hj => absurd hj (Nat.not_lt_zero _)⟩
      case round =>
        obtain ⟨k, hk, rfl, hB6, hO6, hids⟩ := hrel
        have HB6 := Lib.hid hB6
        have HO6 := Lib.hid hO6
        have HIds := Lib.hid hids
        have H6 := Lib.hid (HH5.out.off hO6 (by
          rintro i (rfl | hi) e
          · omega
          · exact HGN.out i hi e))
        have c6 : wr.cell? ⟨rb, 0, none⟩ = some (.slice a4 M.length cap4) := H6.out.top.cell 0
        have n0 : wr.cell? ⟨N, 0, none⟩ = some (.int .i64 (1 + k)) := hB6.cell 0
        have nf : wr.frozen? ⟨N, 0, none⟩ = false := hB6.free 0
        have q0 : (0 : Int) ≤ (k : Int) := by omega
        have q48 : (k : Int) ≤ 48 := by omega
        clear hB6 hO6 hids
        by_cases hlt : k < M.length
        · obtain ⟨y, hy⟩ : ∃ y, M[k]? = some y := ⟨M[k], List.getElem?_eq_getElem hlt⟩
          have q1 : (k : Int) < (M.length : Int) := by omega
          obtain ⟨b, off, rfl, hg, hry⟩ := H6.out.row.at hy
          have e0 : wr.cell? ⟨b, off + k * 20, none⟩ = some (.int .i64 y.id) := hry 0 _ rfl
          have HY := Lib.hid hy
          clear hy hry hg
          by_cases hyi : y.id = 1 + k
          · have HYI := Lib.hid hyi
            rw [hyi] at e0
            clear hyi
            go_wp2_with fail
            go_quiet (fail)
            go_wp2_with fail
            refine ⟨⟨k + 1, hlt, by go_num, ?_, ((HO6.out.drewN _).setAt 0 _), fun j z hj hz => ?_⟩, by simp [intOf]; omega⟩
            · have := (HB6.out.drewN nq).setCell 0 (.int .i64 (1 + ((k + 1 : Nat) : Int)))
              rw [List.setIfInBounds_toArray] at this
              rw [show (1 : Int) + ((k + 1 : Nat) : Int) = 1 + (k : Int) + 1 by omega] at this ⊢
              exact this
            · by_cases hjk : j = k
              · subst hjk; rw [HY.out] at hz; cases hz; exact HYI.out
              · exact HIds.out j z (by omega) hz
          · have hyb : (y.id == 1 + (k : Int)) = false := by simpa using hyi
            obtain ⟨i1, i2⟩ := insF_at (f := f) (L := M) (k := k) (n := 1) HIds.out (fun z hz => by rw [HY.out] at hz; cases hz; exact hyi) hk
            have HI := Lib.hid (And.intro i1 i2)
            clear i1 i2 hyi
            go_wp2_with fail
            go_quiet (fail)
            go_wp2_with fail
            go_meet
            exact ⟨k, hk, rfl, HB6.out.drewN _, HO6.out.drewN _, HI.out.1, HI.out.2⟩
        · have q1 : ¬ (k : Int) < (M.length : Int) := by omega
          obtain ⟨i1, i2⟩ := insF_at (f := f) (L := M) (k := k) (n := 1) HIds.out (fun z hz => by rw [List.getElem?_eq_none (by omega)] at hz; cases hz) hk
          have HI := Lib.hid (And.intro i1 i2)
          clear i1 i2
          go_wp2_with fail
          go_quiet (fail)
          go_wp2_with fail
          go_meet
          exact ⟨k, hk, rfl, HB6.out.drewN _, HO6.out.drewN _, HI.out.1, HI.out.2⟩
    case rest =>
      obtain ⟨k, hk, hs11, hB6, hO6, hfr, hin⟩ := hcut
      subst hs11
      obtain ⟨w6, hw6⟩ : ∃ w6, w6 = wc := ⟨_, rfl⟩
      subst hw6
      have HB6 := Lib.hid hB6
      have HO6 := Lib.hid hO6
      have HIn := Lib.hid (And.intro hfr hin)
      have H6 := Lib.hid (HH5.out.off hO6 (by
        rintro i (rfl | hi) e
        · omega
        · exact HGN.out i hi e))
      have hN6 : N < w6.heap.size := hB6.lt
      have hrb6 : rb < w6.heap.size := H6.out.top.lt
      have hNrb : ¬ N = rb := by omega
      clear hB6 hO6 hfr hin
      have hO7 := (Off.refl (fun i => w6.heap.size ≤ i) w6).alloc (.cells #[] 42)
      have HO7 := Lib.hid hO7
      have H7 := Lib.hid (H6.out.off hO7 (fun i hi h => by have := H6.out.lt hi; omega))
      have c7 : (w6.alloc (.cells #[] 42)).cell? ⟨rb, 0, none⟩ = some (.slice a4 M.length cap4) := H7.out.top.cell 0
      have hk0 : (0 : Int) ≤ (k : Int) := by omega
      clear hO7
      go_wp2_with (first
        | (refine wpList_slice_lo rfl (.tmp 123) (.tmp 124) rfl (.slice a4 M.length cap4) rfl k rfl H7.out.row hk ?_; intro v1 hs1)
        | (at_builtin; refine wpList_appx rfl (.tmp 119) (.tmp 125) rfl w6.heap.size (.slice (some ⟨w6.heap.size, 0, none⟩) 0 0) [] rfl (XOwn.made w6) v1 (M.take k) rfl hs1 (by simp; omega) (by simp) ?_; intro v2 w8 hown2 hO8; have HO8 := Lib.hid (HO7.out.trans hO8); have HB8 := Lib.hid (HO8.out.blk HB6.out (Nat.not_le_of_lt hN6)); have HOwn2 := Lib.hid hown2; clear hown2 hO8 hs1)
        | (refine wpList_ldr (by rfl) (.tmp 3) rfl N 0 rfl { f with id := 1 + k } (box42_fl HB8.out) ?_)
        | (refine wpList_one42 rfl (.tmp 128) { f with id := 1 + k } rfl rfl ?_)
        | (at_builtin; refine wpList_appx rfl (.tmp 127) (.tmp 129) rfl w6.heap.size v2 ([] ++ M.take k) rfl (HOwn2.out.alloc _) (.slice (some ⟨w8.heap.size, 0, none⟩) 1 1) [{ f with id := 1 + k }] rfl (.inr ⟨⟨w8.heap.size, 0, none⟩, 1, rfl, fun j u hu => by rw [Go.WideShapes.add_plain, Nat.zero_add, (Blk.new w8 42 _).cell]; simpa using hu⟩) (by simp; omega) (by have := HO8.out.size; simp; omega) ?_; intro v3 w9 hown3 hO9; have HO9 := Lib.hid ((HO8.out.alloc _).trans hO9); have H9 := Lib.hid (H6.out.off HO9.out (fun i hi h => by have := H6.out.lt hi; omega)); have c9 : w9.cell? ⟨rb, 0, none⟩ = some (.slice a4 M.length cap4) := H9.out.top.cell 0; have HOwn3 := Lib.hid hown3; clear hown3 hO9)
        | (refine wpList_slice_hi rfl (.tmp 136) (.tmp 137) rfl (.slice a4 M.length cap4) rfl k rfl H9.out.row hk ?_; intro v4 hs4)
        | (at_builtin; refine wpList_appx rfl (.tmp 132) (.tmp 138) rfl w6.heap.size v3 (([] ++ M.take k) ++ [{ f with id := 1 + k }]) rfl HOwn3.out v4 (M.drop k) rfl hs4 (by simp; omega) HO9.out.size ?_; intro v5 w10 hown5 hO10; have HO10 := Lib.hid (HO9.out.trans hO10); have hT10 := (H6.out.off HO10.out (fun i hi h => by have := H6.out.lt hi; omega)).top; have hB10 := HO10.out.blk HB6.out (Nat.not_le_of_lt hN6); obtain ⟨a5, cap5, hv5⟩ := hown5.shape; subst hv5; have c10 : w10.cell? ⟨rb, 0, none⟩ = some (.slice a4 M.length cap4) := hT10.cell 0; have cf10 : w10.frozen? ⟨rb, 0, none⟩ = false := hT10.free 0; have n10 : w10.cell? ⟨N, 0, none⟩ = some (.int .i64 (1 + k)) := hB10.cell 0; have HT10 := Lib.hid hT10; have HOwn5 := Lib.hid hown5; clear hT10 hB10 hown5 hO10))
      go_ret3
      have hA := addF_room HA.out T1.out T2.out T3.out
      rw [HIn.out.1, HIn.out.2] at hA
      have hl : k + (M.length - k + 1) = (M.take k ++ { f with id := 1 + (k : Int) } :: M.drop k).length := by simp; omega
      rw [hl]
      have hown : XOwn w10 w6.heap.size (.slice a5 (M.take k ++ { f with id := 1 + (k : Int) } :: M.drop k).length cap5) (M.take k ++ { f with id := 1 + (k : Int) } :: M.drop k) := by
        have := HOwn5.out
        simp only [List.nil_append, List.append_assoc, List.singleton_append] at this
        exact this
      obtain ⟨q1, q2, q3⟩ := RxAt.put HO10.out HT10.out hown (by rw [← hl]; omega) hrb6
      exact ⟨_, _, by rw [hA]; rfl, by rw [hA]; exact q1, ((HO04.out.step HO5.out (fun i hi e => by have := HN.out; omega)).step HO6.out (fun i hi e => by have := HN.out; omega)).trans q2, .inr fun i hi => by have := q3 i hi; have := HN.out; omega⟩

theorem xadd_any {w : World} {rb : Nat} {v : Value} {g : Option Nat} {L : List Fl} (f : Fl) (H : RxAt w rb v g L) (ok : FOk L) :
    Calls Try.prog 13 #[.pointer (some ⟨rb, 0, none⟩), flV f] w (XAdd rb g L f w) := by
  cases t1 : tkn L f.opn with
  | true => exact xadd_t1 f H t1
  | false =>
    cases t2 : tkn L f.bck with
    | true => exact xadd_t2 f H t1 t2
    | false =>
      by_cases t3 : f.opn = f.bck
      · exact xadd_t3 f H t1 t2 t3
      · exact xadd_go f H ok t1 t2 t3
end Go.Proofs.Ytbkgjghbmafoeaa
