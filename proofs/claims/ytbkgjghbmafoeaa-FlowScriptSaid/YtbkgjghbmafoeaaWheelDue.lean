/- The walk over a wheel's Due. Conditions: the wheel lies whole in memory. -/
import Derived.Test.YtbkgjghbmafoeaaWheelDrop
import Derived.Lib.MinMax
namespace Go.Proofs.Ytbkgjghbmafoeaa
open Go.RowKit
open Go.ChangeMaps (setBlock)

theorem Try.info3 : (Try.prog.info? 3).map (fun i => (i.zero, i.size, i.bytes)) = some (some (.int .i64 0), 1, 8) := by kernel_rfl

def isDue (now : Int) (x : Tm) : Bool := decide (x.2 ≤ now)
/-- Who is due. -/
def dueIds (now : Int) (L : List Tm) : List Int := (L.takeWhile (isDue now)).map (·.1)
def dueRest (now : Int) (L : List Tm) : List Tm := L.dropWhile (isDue now)

def WDue (wb : Nat) (S : Nat → Prop) (L : List Tm) (now : Int) (w : World) (e : Ending) (w' : World) : Prop :=
  ∃ S' v, e = .returned v ∧ w'.ownsRow w.heap.size 3 1 v (dueIds now L).length ((dueIds now L).map ik) ∧ Whl w' wb S' (dueRest now L) ∧ Off S w w' ∧ ∀ i, S' i → S i

def DueRel (W : World) (wb : Nat) (S : Nat → Prop) (L : List Tm) (now : Int) (ov : Value) (wr : World) : Prop :=
  ∃ (pre L' : List Tm) (S' : Nat → Prop), L = pre ++ L' ∧ (∀ x ∈ pre, isDue now x = true) ∧ wr.ownsRow W.heap.size 3 1 ov (pre.map (·.1)).length ((pre.map (·.1)).map ik) ∧ Whl wr wb S' L' ∧ Off S W wr ∧ (∀ i, S' i → S i)

theorem due_split {now : Int} : ∀ {pre L' : List Tm}, (∀ x ∈ pre, isDue now x = true) → (∀ x M, L' = x :: M → isDue now x = false) → dueIds now (pre ++ L') = pre.map (·.1) ∧ dueRest now (pre ++ L') = L'
  | [], L', _, h => by
    cases L' with
    | nil => exact ⟨rfl, rfl⟩
    | cons x M => simp [dueIds, dueRest, h x M rfl]
  | x :: pre, L', hp, h => by
    have := due_split (pre := pre) (L' := L') (fun y hy => hp y (List.mem_cons_of_mem _ hy)) h
    have hx := hp x List.mem_cons_self
    unfold dueIds dueRest at *
    simp only [List.cons_append, List.takeWhile_cons, List.dropWhile_cons, hx, if_true, List.map_cons]
    exact ⟨by rw [this.1], this.2⟩

set_option maxRecDepth 100000 in
set_option maxHeartbeats 4000000 in
theorem wdue_any {w : World} {wb : Nat} {S : Nat → Prop} {L : List Tm} (now : Int) (H : Whl w wb S L) :
    Calls Try.prog 30 #[.pointer (some ⟨wb, 0, none⟩), .int .i64 now] w (WDue wb S L now w) := by
  obtain ⟨i0, hi0, hz0, hz1, hz2⟩ := info_parts Try.info3
  have hSlt : ∀ i, S i → i < w.heap.size := fun i hi => H.lt hi
  have hLl := H.few.1
  go_enter Try.func30, Try.ntmps30
  go_wp2_with fail
  go_loopw [5] (DueRel w wb S L now) (fun v _ => L.length - (match v with | .slice _ n _ => n | _ => 0))
  case atStart => exact ⟨[], L, S, rfl, (fun x hx => nomatch hx), World.ownsRow_nil _ _ _ _, H, Off.refl _ _, fun _ k => k⟩
  case round =>
    clear H
    obtain ⟨pre, L', S', hL, hpre, hrow, ⟨r, v, n, h, kes, clock, H, hS'⟩, hO, hSS⟩ := hrel
    have hpl : (pre.map (·.1)).length ≤ 256 := by rw [List.length_map]; rw [hL, List.length_append] at hLl; omega
    have HL := Lib.hid hL
    clear hL
    obtain ⟨a, cap, hv, _⟩ := ownsRow_form H.row.row
    have c0 : wr.cell? ⟨wb, 0, none⟩ = some v := H.row.top.cell 0
    cases L' with
    | nil =>
      have hn : n = 0 := by have := H.rep.len; simpa using this.symm
      rw [hv, hn] at c0
      have hfin := due_split (now := now) hpre (L' := []) (fun x M e => nomatch e)
      rw [← HL.out] at hfin
      have hend : WDue wb S L now w (.returned u5) wr := ⟨S', _, rfl, by rw [hfin.1]; exact hrow, by rw [hfin.2]; exact ⟨r, v, n, h, kes, clock, H, hS'⟩, hO, hSS⟩
      clear hv hfin HL H hrow
      go_wp2_with fail
      go_ret
      exact hend
    | cons x M =>
      obtain ⟨hn, h0⟩ := H.rep.first H.heap
      obtain ⟨m, rfl⟩ : ∃ m, n = m + 1 := ⟨n - 1, by omega⟩
      obtain ⟨g, cap', hv', HA⟩ := H.row.hat (by omega)
      have hLm : M.length = m := by have := H.rep.len; simpa using this
      subst hv'
      clear hv
      have cg := HA.cellAt (i := 0) (by omega)
      have hD := H.row.one 0 hn
      have d1 : wr.cell? ⟨(h 0).o, 1, none⟩ = some (.int .i64 (h 0).at_) := hD.cell 1
      have d0 : wr.cell? ⟨(h 0).o, 0, none⟩ = some (.int .i64 (h 0).id) := hD.cell 0
      have hmI : (0 : Int) < ((m + 1 : Nat) : Int) := by omega
      have hfew := H.few
      by_cases hle : (h 0).at_ ≤ now
      · go_wp2_with fail
        refine (hpop_any HA H.rea H.heap rfl (by omega)).mono ?_
        rintro e w2 ⟨h2, rfl, H2, hH2, R2, hl, hO2, hB2⟩
        have hown : ∀ k, (k = wb ∨ HOwn g (m + 1) h k) → WOwn wb (.slice (some ⟨g, 0, none⟩) (m + 1) cap') (m + 1) h k := by
          rintro k (e | e | ⟨j, hj, e⟩)
          · exact .inl e
          · exact .inr (.inl (by rw [e]; rfl))
          · exact .inr (.inr ⟨j, hj, e⟩)
        have hm2 : MapAt ik w2 r kes clock := H.map.off hO2 (fun e => H.not_r r (hown r e) rfl)
        have hdl := fun t2 ty => run_delete (P := Try.prog) (KeyTy.ints Try.underlying3) Try.underlying85 hm2.drew (h 0).id t2 ty
        have hset := hm2.drew.set (es' := kdel (h 0).id kes) (clock' := clock)
        generalize (Obj.map ((kdel (h 0).id kes).map (KEnt.raw ik)).toArray clock) = O at hdl hset
        have e1 : w2.cell? ⟨wb, 1, none⟩ = some (.map (some r)) := H2.top.cell 1
        have e0 : w2.cell? ⟨(h 0).o, 0, none⟩ = some (.int .i64 (h 0).id) := hB2.cell 0
        clear c0 cg d1 d0
        go_wp2_with fail
        go_region
        have hO3 : Off (· = r) w2 (setBlock w2.drew r O) := (Off.refl _ _).drew.setBlock _ fun _ => rfl
        obtain ⟨HG, hSG⟩ := H.gone hn H2 hH2 R2 hl hO3 hset hm2
        have hOr : Off (WhOwn wb r (.slice (some ⟨g, 0, none⟩) (m + 1) cap') (m + 1) h) wr (setBlock w2.drew r O) :=
          (hO2.mono (S' := WhOwn wb r (.slice (some ⟨g, 0, none⟩) (m + 1) cap') (m + 1) h) (fun k _ e => .inl (hown k e))).step hO3 (fun k _ e => .inr e)
        have hOw : Off S w (setBlock w2.drew r O) := hO.step hOr (fun i _ k => hSS i ((hS' i).2 k))
        have hB3 := hO3.blk hB2 (fun e => hm2.not_blk hB2 e)
        have hdelx : del (h 0).id (x :: M) = M := by
          have hid : (h 0).id = x.1 := by rw [← h0]
          have hnd := H.rep.srt.ids
          simp only [List.map_cons, List.nodup_cons] at hnd
          have : del (h 0).id M = M := del_none fun y hy e => hnd.1 (by rw [← hid, ← e]; exact List.mem_map_of_mem hy)
          rw [← this]; simp [del, hid]
        rw [hdelx] at HG
        have hlow : ∀ g5, u5.ownBlock = some g5 → w.heap.size ≤ g5 := fun g5 hg5 => (hrow.lt g5 hg5).1
        have hrow3 := ownsRow_off hrow hOr (fun g5 hg5 k => by have := hlow g5 hg5; have := hSlt g5 (hSS g5 ((hS' g5).2 k)); omega)
        have hsz3 : w.heap.size ≤ (setBlock w2.drew r O).heap.size := hOw.size
        have k0 : (setBlock w2.drew r O).cell? ⟨(h 0).o, 0, none⟩ = some (.int .i64 (h 0).id) := hB3.cell 0
        have hdx : isDue now x = true := by rw [← h0]; simpa [isDue] using hle
        have hxid : (h 0).id = x.1 := by rw [← h0]
        have HX := Lib.hid hxid
        clear hdl hset e1 e0 hO3 hdelx hxid h0 hOr hO2 hm2 hB2 H2 hB3
        generalize setBlock w2.drew r O = w3 at *
        go_wp2_with (first
          | (at_builtin; refine wpList_append_own _ rfl (.tmp 45) (.tmp 50) 45 rfl w.heap.size 3 i0 (.int .i64 0) 1 8 Try.underlying45 hi0 hz0 hz1 hz2 rfl (by decide) u5 _ _ rfl (hrow3.alloc _) ⟨w3.heap.size, 0, none⟩ 1 1 [.int .i64 (h 0).id] rfl rfl (cell_one_new _ _ _) (fun u hu => by simp at hu; subst hu; rfl) (by unfold maxLen; omega) (by omega) (by simp; omega) ?_; intro v4 w4 hown4 hgrow4 hnn4))
        have hO4 : Off (fun i => some i = u5.ownBlock) w3 w4 := (((Off.refl (fun _ => False) w3).alloc (.cells #[.int .i64 (h 0).id] 3)).mono (fun _ _ k => k.elim)).step (grown_off hgrow4) (fun i _ e => e)
        have hnew : ∀ i, S i → ¬ some i = u5.ownBlock := fun i hi e => by have := hlow i e.symm; have := hSlt i hi; omega
        have HG4 := HG.off hO4 (fun i hi => hnew i (hSS i ((hS' i).2 (hSG i hi))))
        obtain ⟨a4, cap4, hv4, _⟩ := ownsRow_form hown4
        have hlt : (pre.map (·.1)).length < L.length := by rw [HL.out]; simp
        obtain ⟨a5, cap5, hv5, _⟩ := ownsRow_form hrow
        refine ⟨⟨pre ++ [x], M, _, by rw [HL.out]; simp, ?_, ?_, ⟨r, _, m, h2, _, clock, HG4, fun _ => Iff.rfl⟩, hOw.step hO4 (fun i hi e => by have := hlow i e.symm; omega), fun i hi => hSS i ((hS' i).2 (hSG i hi))⟩, ?_⟩
        · intro y hy
          rcases List.mem_append.1 hy with hy | hy
          · exact hpre y hy
          · rw [List.mem_singleton.1 hy]; exact hdx
        · rw [HX.out] at hown4
          simpa using hown4
        · subst hv4; subst hv5; simp; simp at hlt; omega
      · have hfin := due_split (now := now) hpre (L' := x :: M) (fun y M' e => by
          simp only [List.cons.injEq] at e
          rw [← e.1, ← h0]; simpa [isDue] using hle)
        rw [← HL.out] at hfin
        have hend : WDue wb S L now w (.returned u5) wr := ⟨S', _, rfl, by rw [hfin.1]; exact hrow, by rw [hfin.2]; exact ⟨r, _, m + 1, h, kes, clock, H, hS'⟩, hO, hSS⟩
        clear hfin HL H hrow h0
        go_wp2_with fail
        go_ret
        exact hend
end Go.Proofs.Ytbkgjghbmafoeaa
