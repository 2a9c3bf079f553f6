/- The walk over a table's Drop. Conditions: the table lies whole in memory. · The walk over a table's Set. Conditions: the table lies whole in memory. · The walks over a table's Get and Due. Conditions: the table lies whole in memory. -/
import Derived.Test.YtbkgjghbmafoeaaFlNew
import Derived.Test.YtbkgjghbmafoeaaFlGone
namespace Go.Proofs.Ytbkgjghbmafoeaa
open Go.RowKit

def FGetP (o : Option Addr) (w : World) (e : Ending) (w' : World) : Prop := e = .returned (.pointer o) ∧ w = w'

theorem get_no {w : World} {tb wb r : Nat} {p : Nat → Option Nat} {kes : List (KEnt FKey)} {clock : Nat} {L : List Fl} (H : TB w tb wb r p kes clock L) (id : Int) (hno : ∀ f ∈ L, f.id ≠ id) :
    Calls Try.prog 39 #[.pointer (some ⟨tb, 0, none⟩), .int .i64 id] w (FGetP none w) := by
  by_cases h : id < 1 ∨ 49 ≤ id
  · exact get_out tb id h
  · obtain ⟨i, rfl⟩ : ∃ i : Nat, id = i := ⟨id.toNat, by omega⟩
    have := get_at H (i := i) (by omega) (by omega)
    rw [H.off_ i (by omega) hno] at this
    exact this

theorem get_yes {w : World} {tb wb r o : Nat} {p : Nat → Option Nat} {kes : List (KEnt FKey)} {clock : Nat} {L : List Fl} (H : TB w tb wb r p kes clock L) {f : Fl} (hf : f ∈ L) (ho : p f.id.toNat = some o) :
    Calls Try.prog 39 #[.pointer (some ⟨tb, 0, none⟩), .int .i64 f.id] w (FGetP (some ⟨o, 0, none⟩) w) := by
  have hrng := H.ok.rng f hf
  obtain ⟨i, hi⟩ : ∃ i : Nat, f.id = i := ⟨f.id.toNat, by omega⟩
  have hget := get_at H (i := i) (by omega) (by omega)
  rw [show f.id.toNat = i by omega] at ho
  rw [ho, ← hi] at hget
  exact hget

def FDrop (tb : Nat) (U : Nat → Prop) (L : List Fl) (id : Int) (w : World) (e : Ending) (w' : World) : Prop :=
  ∃ U' b, e = .returned (.bool b) ∧ (b = true ∧ (∃ f ∈ L, f.id = id) ∨ b = false ∧ ∀ f ∈ L, f.id ≠ id) ∧ Tbl w' tb U' (dropF id L) ∧ Off U w w' ∧ ∀ i, U' i → U i

theorem perm_dropF {T : List Tm} {L : List Fl} (h : T.Perm (L.map ft)) (id : Int) : (del id T).Perm ((dropF id L).map ft) := by
  rw [ft_dropF]; exact h.filter _

set_option maxRecDepth 100000 in
set_option maxHeartbeats 2000000 in
theorem fdrop_none {w : World} {tb : Nat} {U : Nat → Prop} {L : List Fl} (id : Int) (H : Tbl w tb U L) (hno : ∀ f ∈ L, f.id ≠ id) :
    Calls Try.prog 20 #[.pointer (some ⟨tb, 0, none⟩), .int .i64 id] w (FDrop tb U L id w) := by
  have hfin : FDrop tb U L id w (.returned (.bool false)) w := ⟨U, false, rfl, .inr ⟨rfl, hno⟩, by rw [dropF_none hno]; exact H, Off.refl _ _, fun _ k => k⟩
  have hget : Calls Try.prog 39 #[.pointer (some ⟨tb, 0, none⟩), .int .i64 id] w (FGetP none w) := by
    obtain ⟨wb, r, S, p, kes, clock, T, H, W, hT, hr, hU⟩ := H
    exact get_no H id hno
  have HF := Lib.hid hfin
  clear hfin hno H
  go_enter Try.func20, Try.ntmps20
  go_wp2_with fail
  refine hget.mono ?_
  rintro e w1 ⟨rfl, rfl⟩
  clear hget
  go_wp2_with fail
  go_ret
  exact HF.out

set_option maxRecDepth 100000 in
set_option maxHeartbeats 2000000 in
theorem fdrop_some {w : World} {tb : Nat} {U : Nat → Prop} {L : List Fl} (f : Fl) (hf : f ∈ L) (H : Tbl w tb U L) :
    Calls Try.prog 20 #[.pointer (some ⟨tb, 0, none⟩), .int .i64 f.id] w (FDrop tb U L f.id w) := by
  obtain ⟨wb, r, S, p, kes, clock, T, H, W, hT, hr, hU⟩ := H
  obtain ⟨o, ho, hB⟩ := H.one f hf
  have hget := get_yes H hf ho
  have c0 : w.cell? ⟨tb, 0, none⟩ = some (.pointer (some ⟨wb, 0, none⟩)) := H.top.cell 0
  have HP := Lib.hid ho
  clear ho
  go_enter Try.func20, Try.ntmps20
  go_wp2_with fail
  refine hget.mono ?_
  rintro e w1 ⟨rfl, rfl⟩
  clear hget
  go_wp2_with fail
  refine (wdrop_any f.id W).mono ?_
  rintro e w2 ⟨S', T', b, rfl, ⟨rfl, _⟩, hW2, hO2, hS2⟩
  have hap := H.apart W hr
  have H2 := H.off hO2 hap
  clear c0
  go_wp2_with fail
  refine (gone_any H2 hf HP.out).mono ?_
  rintro e w3 ⟨rfl, H3, hO3⟩
  go_wp2_with fail
  go_ret
  have hap2 : ∀ i, S' i → ¬ (i = tb ∨ i = r) := fun i hi e => by
    rcases e with e | e
    · exact hap i (.inl e) (hS2 i hi)
    · exact hr (by rw [← e]; exact hS2 i hi)
  refine ⟨_, true, rfl, .inl ⟨rfl, f, hf, rfl⟩, ⟨wb, r, S', _, _, clock, _, H3, hW2.off hO3 hap2, perm_dropF hT _, fun h => hr (hS2 _ h), fun _ => Iff.rfl⟩, ?_, ?_⟩
  · refine (hO2.mono (S' := U) fun i _ h => (hU i).2 (.inr h)).step hO3 fun i hi e => (hU i).2 (.inl ?_)
    rcases e with e | e
    · exact .inl e
    · exact .inr (.inl e)
  · rintro i ((e | e | ⟨j, o', hj, ho', e⟩) | h)
    · exact (hU i).2 (.inl (.inl e))
    · exact (hU i).2 (.inl (.inr (.inl e)))
    · refine (hU i).2 (.inl (.inr (.inr ⟨j, o', hj, ?_, e⟩)))
      unfold upd at ho'
      split at ho'
      · cases ho'
      · exact ho'
    · exact (hU i).2 (.inr (hS2 i h))

theorem fdrop_any {w : World} {tb : Nat} {U : Nat → Prop} {L : List Fl} (id : Int) (H : Tbl w tb U L) :
    Calls Try.prog 20 #[.pointer (some ⟨tb, 0, none⟩), .int .i64 id] w (FDrop tb U L id w) := by
  by_cases h : ∃ f ∈ L, f.id = id
  · obtain ⟨f, hf, rfl⟩ := h
    exact fdrop_some f hf H
  · exact fdrop_none id H fun f hf e => h ⟨f, hf, e⟩
end Go.Proofs.Ytbkgjghbmafoeaa
namespace Go.Proofs.Ytbkgjghbmafoeaa
open Go.RowKit

def FSet (tb : Nat) (U : Nat → Prop) (L : List Fl) (id st en : Int) (w : World) (e : Ending) (w' : World) : Prop :=
  ∃ U' b, e = .returned (.bool b) ∧ (b = true ∧ (∃ f ∈ L, f.id = id) ∨ b = false ∧ ∀ f ∈ L, f.id ≠ id) ∧ Tbl w' tb U' (setF id st en L) ∧ Off U w w' ∧ ∀ i, U' i → U i ∨ w.heap.size ≤ i

theorem perm_set {st en : Int} {f : Fl} : ∀ {L : List Fl}, L.Pairwise (fun a b => a.id < b.id) → f ∈ L → ((f.id, en) :: del f.id (L.map ft)).Perm ((setF f.id st en L).map ft)
  | [], _, hf => by cases hf
  | x :: L, h, hf => by
    have hp := List.pairwise_cons.1 h
    rcases List.mem_cons.1 hf with rfl | hf
    · have h1 : ∀ g ∈ L, g.id ≠ f.id := fun g hg => by have := hp.1 g hg; omega
      have h2 : del f.id (L.map ft) = L.map ft := del_none fun y hy => by
        obtain ⟨g, hg, rfl⟩ := List.mem_map.1 hy; exact h1 g hg
      have h3 : del f.id ((f :: L).map ft) = del f.id (L.map ft) := by simp [del, ft]
      rw [h3, h2]
      simp only [setF, List.map_cons]
      rw [show L.map (turnF f.id st en) = L from setF_none h1]
      simp [turnF, ft]
    · have hne : x.id ≠ f.id := by have := hp.1 f hf; omega
      have h3 : del f.id ((x :: L).map ft) = ft x :: del f.id (L.map ft) := by simp [del, ft, hne]
      rw [h3]
      have ih := perm_set (st := st) (en := en) hp.2 hf
      have h4 : (setF f.id st en (x :: L)).map ft = ft x :: (setF f.id st en L).map ft := by simp [setF, turnF, hne]
      rw [h4]
      exact (List.Perm.swap _ _ _).trans (ih.cons _)

theorem perm_ins {x : Tm} {T T' : List Tm} (h : T.Perm T') : (ins x T).Perm (x :: T') := ins_perm.trans (h.cons x)

theorem flL_turn (f : Fl) (st en : Int) : ((flL f).set 18 (.int .i64 st)).set 19 (.int .i64 en) = flL { f with state := st, ends := en } := rfl

theorem turnF_self (f : Fl) (st en : Int) : turnF f.id st en f = { f with state := st, ends := en } := by simp [turnF]
theorem turnF_other {f : Fl} {id : Int} (st en : Int) (h : f.id ≠ id) : turnF id st en f = f := by simp [turnF, h]

theorem wt_few {T : List Tm} {L : List Fl} (hT : T.Perm (L.map ft)) (h : FOk L) : T.length ≤ 48 := by
  rw [hT.length_eq, List.length_map]; exact h.few

set_option maxRecDepth 100000 in
set_option maxHeartbeats 2000000 in
theorem fset_none {w : World} {tb : Nat} {U : Nat → Prop} {L : List Fl} (id st en : Int) (H : Tbl w tb U L) (hno : ∀ f ∈ L, f.id ≠ id) :
    Calls Try.prog 18 #[.pointer (some ⟨tb, 0, none⟩), .int .i64 id, .int .i64 st, .int .i64 en] w (FSet tb U L id st en w) := by
  have hfin : FSet tb U L id st en w (.returned (.bool false)) w := ⟨U, false, rfl, .inr ⟨rfl, hno⟩, by rw [setF_none hno]; exact H, Off.refl _ _, fun _ k => .inl k⟩
  have hget : Calls Try.prog 39 #[.pointer (some ⟨tb, 0, none⟩), .int .i64 id] w (FGetP none w) := by
    obtain ⟨wb, r, S, p, kes, clock, T, H, W, hT, hr, hU⟩ := H
    exact get_no H id hno
  have HF := Lib.hid hfin
  clear hfin hno H
  go_enter Try.func18, Try.ntmps18
  go_wp2_with fail
  refine hget.mono ?_
  rintro e w1 ⟨rfl, rfl⟩
  clear hget
  go_wp2_with fail
  go_ret
  exact HF.out

set_option maxRecDepth 100000 in
set_option maxHeartbeats 2000000 in
theorem fset_some {w : World} {tb : Nat} {U : Nat → Prop} {L : List Fl} (f : Fl) (st en : Int) (hf : f ∈ L) (H : Tbl w tb U L) :
    Calls Try.prog 18 #[.pointer (some ⟨tb, 0, none⟩), .int .i64 f.id, .int .i64 st, .int .i64 en] w (FSet tb U L f.id st en w) := by
  obtain ⟨wb, r, S, p, kes, clock, T, H, W, hT, hr, hU⟩ := H
  obtain ⟨o, ho, hB⟩ := H.one f hf
  have hget := get_yes H hf ho
  have d6 : w.cell? ⟨o, 18, none⟩ = some (.int .i64 f.state) := hB.cell 18
  have d7 : w.cell? ⟨o, 19, none⟩ = some (.int .i64 f.ends) := hB.cell 19
  have fz : ∀ j, w.frozen? ⟨o, j, none⟩ = false := fun j => hB.free j
  have hO1 : Off (· = o) w ((w.setCell ⟨o, 18, none⟩ (.int .i64 st)).setCell ⟨o, 19, none⟩ (.int .i64 en)) := ((Off.refl _ _).setAt 18 _).setAt 19 _
  have hB1 : Blk ((w.setCell ⟨o, 18, none⟩ (.int .i64 st)).setCell ⟨o, 19, none⟩ (.int .i64 en)) o 38 (flL { f with state := st, ends := en }).toArray := by
    have := (hB.setCell 18 (.int .i64 st)).setCell 19 (.int .i64 en)
    rw [List.setIfInBounds_toArray, List.setIfInBounds_toArray, flL_turn] at this
    exact this
  have HP := Lib.hid ho
  clear ho
  go_enter Try.func18, Try.ntmps18
  go_wp2_with fail
  refine hget.mono ?_
  rintro e w1 ⟨rfl, rfl⟩
  clear hget
  have hto : tb ≠ o := blk_ne H.top hB (by decide)
  have c0 : ((w.setCell ⟨o, 18, none⟩ (.int .i64 st)).setCell ⟨o, 19, none⟩ (.int .i64 en)).cell? ⟨tb, 0, none⟩ = some (.pointer (some ⟨wb, 0, none⟩)) := (hO1.blk H.top hto).cell 0
  have HT := Lib.hid hto
  clear hto
  go_wp2_with fail
  clear d6 d7 fz c0
  generalize (w.setCell ⟨o, 18, none⟩ (.int .i64 st)).setCell ⟨o, 19, none⟩ (.int .i64 en) = w1 at *
  have hoS : ¬ S o := W.not_blk hB (by decide) (by decide) (by decide)
  have W1 := W.off hO1 (fun i hi e => hoS (by rw [← e]; exact hi))
  refine (wset_any f.id en W1).mono ?_
  rintro e w2 ⟨S', T', er, rfl, hSR, hW2, hO2, hS2⟩
  go_wp2_with fail
  go_ret
  have hTl := wt_few hT H.ok
  have hT' : T' = ins (f.id, en) (del f.id T) := by
    rcases hSR with ⟨_, h, _⟩ | ⟨_, h, _⟩
    · exact h
    · omega
  have hap := H.apart W hr
  have hpl : ∀ {i : Nat}, TBOwn tb r p i → i < w.heap.size := fun hi => H.lt hi
  have hsz1 := hO1.size
  have hnS : ∀ i, TBOwn tb r p i → ¬ S' i := fun i hi k => by
    rcases hS2 i k with h | h
    · exact hap i hi h
    · have := hpl hi; omega
  have hO12 : Off (fun i => i = o ∨ S i) w w2 := (hO1.mono (S' := fun i => i = o ∨ S i) (fun _ _ e => .inl e)).step hO2 (fun _ _ e => .inr e)
  have hfr := H.ok.rng f hf
  have hoOwn : TBOwn tb r p o := .inr (.inr ⟨f.id.toNat, o, by omega, HP.out, rfl⟩)
  have hnot : ∀ {b T : Nat} {cs : Array Value}, Blk w b T cs → T ≠ 38 → TBOwn tb r p b → ¬ (b = o ∨ S b) := fun hb hT' hown e => by
    rcases e with e | e
    · exact blk_ne hb hB hT' e
    · exact hap _ hown e
  have hB2 : Blk w2 o 38 (flL { f with state := st, ends := en }).toArray := hO2.blk hB1 hoS
  have hlen : (setF f.id st en L).length = L.length := by simp [setF]
  refine ⟨_, true, rfl, .inl ⟨rfl, f, hf, rfl⟩, ⟨wb, r, S', p, kes, clock, T', ⟨?_, fun g hg => ?_, fun j hj hno => ?_, ?_, H.nd, H.born, fun k => ?_, H.ok.set _ _ _⟩, hW2, ?_, fun k => hnS r (.inr (.inl rfl)) k, fun _ => Iff.rfl⟩, ?_, ?_⟩
  · rw [hlen]; exact hO12.blk H.top (hnot H.top (by decide) (.inl rfl))
  · obtain ⟨g, hg', rfl⟩ := List.mem_map.1 hg
    clear hg
    have hg := hg'
    by_cases he : g.id = f.id
    · obtain rfl := H.ok.inj hg hf he
      rw [turnF_id]
      exact ⟨o, HP.out, by rw [turnF_self]; exact hB2⟩
    · obtain ⟨og, hog, hgb⟩ := H.one g hg
      rw [turnF_id, turnF_other _ _ he]
      refine ⟨og, hog, hO12.blk hgb ?_⟩
      rintro (e | e)
      · rw [e] at hgb
        unfold Blk at hgb hB
        rw [hB] at hgb
        simp only [Option.some.injEq, Obj.cells.injEq] at hgb
        have h0 := congrArg (fun (a : Array Value) => a[0]?) hgb.1
        simp [flL] at h0
        exact he h0.symm
      · have := H.ok.rng g hg
        exact hap og (.inr (.inr ⟨g.id.toNat, og, by omega, hog, rfl⟩)) e
  · refine H.off_ j hj fun g hg e => ?_
    have := hno _ (List.mem_map_of_mem (f := turnF f.id st en) hg)
    rw [turnF_id] at this
    exact this e
  · refine H.map.off hO12 ?_
    rintro (e | e)
    · exact H.map.not_blk hB e.symm
    · exact hr e
  · rw [H.look, fnd_setF]
    cases fnd L k with
    | none => rfl
    | some x => simp [turnF_id]
  · rw [hT']
    have h1 : (del f.id T).Perm (del f.id (L.map ft)) := hT.filter _
    exact (perm_ins h1).trans (perm_set H.ok.ids hf)
  · exact hO12.mono fun i _ e => by
      rcases e with rfl | e
      · exact (hU _).2 (.inl hoOwn)
      · exact (hU i).2 (.inr e)
  · rintro i (h | h)
    · exact .inl ((hU i).2 (.inl h))
    · rcases hS2 i h with h | h
      · exact .inl ((hU i).2 (.inr h))
      · right; omega

theorem fset_any {w : World} {tb : Nat} {U : Nat → Prop} {L : List Fl} (id st en : Int) (H : Tbl w tb U L) :
    Calls Try.prog 18 #[.pointer (some ⟨tb, 0, none⟩), .int .i64 id, .int .i64 st, .int .i64 en] w (FSet tb U L id st en w) := by
  by_cases h : ∃ f ∈ L, f.id = id
  · obtain ⟨f, hf, rfl⟩ := h
    exact fset_some f st en hf H
  · exact fset_none id st en H fun f hf e => h ⟨f, hf, e⟩
end Go.Proofs.Ytbkgjghbmafoeaa
namespace Go.Proofs.Ytbkgjghbmafoeaa
open Go.RowKit

def getF (L : List Fl) (id : Int) : Option Fl := L.find? fun f => decide (f.id = id)
def getV (x : Option Fl) : Value := match x with
  | none => .tuple #[flV fl0, .bool false]
  | some f => .tuple #[flV f, .bool true]

theorem getF_none {L : List Fl} {id : Int} (h : ∀ f ∈ L, f.id ≠ id) : getF L id = none := List.find?_eq_none.2 fun f hf => by simpa using h f hf
theorem getF_some {L : List Fl} (h : FOk L) {f : Fl} (hf : f ∈ L) : getF L f.id = some f := by
  cases hq : getF L f.id with
  | none => have := List.find?_eq_none.1 hq f hf; simp at this
  | some g =>
    have h1 := List.find?_some hq
    have h2 := List.mem_of_find?_eq_some hq
    rw [h.inj h2 hf (by simpa using h1)]

def FGetF (x : Option Fl) (w : World) (e : Ending) (w' : World) : Prop := e = .returned (getV x) ∧ Off (fun _ => False) w w'

set_option maxRecDepth 100000 in
set_option maxHeartbeats 2000000 in
theorem fget_none {w : World} {tb wb r : Nat} {p : Nat → Option Nat} {kes : List (KEnt FKey)} {clock : Nat} {L : List Fl} (H : TB w tb wb r p kes clock L) (id : Int) (hno : ∀ f ∈ L, f.id ≠ id) :
    Calls Try.prog 36 #[.pointer (some ⟨tb, 0, none⟩), .int .i64 id] w (FGetF none w) := by
  have hO1 : Off (fun _ => False) w (w.alloc (.cells (flL fl0).toArray 38)) := (Off.refl _ _).alloc _
  have hget := get_no (H.off hO1 fun _ _ k => k) id hno
  have hb4 := Blk.new w 38 (flL fl0).toArray
  clear hno H
  go_enter Try.func36, Try.ntmps36
  go_wp2_with fail
  change Calls Try.prog 39 _ (w.alloc (.cells (flL fl0).toArray 38)) _
  generalize w.alloc (.cells (flL fl0).toArray 38) = w1 at *
  generalize hN : w.heap.size = N at *
  have HN := Lib.hid hN
  clear hN
  refine hget.mono ?_
  rintro e w2 ⟨rfl, rfl⟩
  clear hget
  have HO := Lib.hid hO1
  clear hO1
  go_wp2_with (first | (refine wpList_store_blk rfl 38 (.tmp 4) (.tmp 15) rfl N 38 (flL fl0).toArray (flL fl0).toArray hb4 rfl rfl (by kernel_rfl) rfl (flL_one fl0) ?_; intro w3 hO3 hb3; clear hb4))
  refine bodyPost_ret (res_fl2 (f := fl0) Try.results36' _ _ rfl (range_blk hb3 0 _ (fun j v hj => by simpa using hj)) rfl) rfl ⟨rfl, ?_⟩
  exact HO.out.step hO3 (fun i hi e => by have := HN.out; omega)

set_option maxRecDepth 100000 in
set_option maxHeartbeats 2000000 in
theorem fget_some {w : World} {tb wb r : Nat} {p : Nat → Option Nat} {kes : List (KEnt FKey)} {clock : Nat} {L : List Fl} (H : TB w tb wb r p kes clock L) (f : Fl) (hf : f ∈ L) :
    Calls Try.prog 36 #[.pointer (some ⟨tb, 0, none⟩), .int .i64 f.id] w (FGetF (some f) w) := by
  have hO1 : Off (fun _ => False) w (w.alloc (.cells (flL fl0).toArray 38)) := (Off.refl _ _).alloc _
  have H1 := H.off hO1 fun _ _ k => k
  obtain ⟨o, ho, hB⟩ := H1.one f hf
  have hget := get_yes H1 hf ho
  have hb4 := Blk.new w 38 (flL fl0).toArray
  have hrg : (w.alloc (.cells (flL fl0).toArray 38)).rangeAt o 0 (flL f) := range_blk hB 0 (flL f) (fun j v hj => by simpa using hj)
  clear H H1 hf ho hB
  go_enter Try.func36, Try.ntmps36
  go_wp2_with fail
  change Calls Try.prog 39 _ (w.alloc (.cells (flL fl0).toArray 38)) _
  generalize w.alloc (.cells (flL fl0).toArray 38) = w1 at *
  generalize hN : w.heap.size = N at *
  have HN := Lib.hid hN
  clear hN
  refine hget.mono ?_
  rintro e w2 ⟨rfl, rfl⟩
  clear hget
  have HO := Lib.hid hO1
  have HR := Lib.hid hrg
  clear hO1 hrg
  go_wp2_with (first
    | (refine wpList_load_mid rfl 38 (.tmp 13) rfl o 0 rfl (flL f) _ HR.out (show Try.prog.underlying 38 = some (.struct (Try.prog.fieldsOf 38)) by kernel_rfl) rfl (by kernel_rfl) ?_)
    | (refine wpList_store_blk rfl 38 (.tmp 4) (.tmp 14) rfl N 38 (flL fl0).toArray (flL f).toArray hb4 rfl rfl (by kernel_rfl) rfl (flL_one f) ?_; intro w3 hO3 hb3; clear hb4))
  refine bodyPost_ret (res_fl2 (f := f) Try.results36' _ _ rfl (range_blk hb3 0 _ (fun j v hj => by simpa using hj)) rfl) rfl ⟨rfl, ?_⟩
  exact HO.out.step hO3 (fun i hi e => by have := HN.out; omega)

theorem fget_any {w : World} {tb wb r : Nat} {p : Nat → Option Nat} {kes : List (KEnt FKey)} {clock : Nat} {L : List Fl} (H : TB w tb wb r p kes clock L) (id : Int) :
    Calls Try.prog 36 #[.pointer (some ⟨tb, 0, none⟩), .int .i64 id] w (FGetF (getF L id) w) := by
  by_cases h : ∃ f ∈ L, f.id = id
  · obtain ⟨f, hf, rfl⟩ := h
    rw [getF_some H.ok hf]; exact fget_some H f hf
  · have hno : ∀ f ∈ L, f.id ≠ id := fun f hf e => h ⟨f, hf, e⟩
    rw [getF_none hno]; exact fget_none H id hno
end Go.Proofs.Ytbkgjghbmafoeaa
