/- Append to a row of the call's own, whatever the source: nil, or cells that lie there. No conditions. · A whole block stored, loaded, at once; a struct's zero. No conditions. · Words for arguments that are slices of integers: an element is a number of its kind. No conditions. · Arguments made of whole numbers alone (numbers, structs of them, slices of such structs): how their cells read. No conditions. -/
import Derived.Test.YtbkgjghbmafoeaaBase
import Derived.Laws.AppendOwn
import Derived.Laws.AppendOwnNone
import Derived.Laws.Tables
import Derived.Laws.Rows
import Derived.OpenShut
import Derived.Deep.Slices
namespace Go.Proofs.Ytbkgjghbmafoeaa
open Go.RowKit

/-- What is appended: nothing, by nil; or m elements whose cells are news. -/
def Src (w : World) (src : Value) (m : Nat) (news : List Value) : Prop :=
  (src = .slice none 0 0 ∧ m = 0 ∧ news = []) ∨ ∃ ad c, src = .slice (some ad) m c ∧ ∀ j u, news[j]? = some u → w.cell? (ad.add j) = some u

theorem wpList_append_src {P : Program} {w : World} {ops : Array Oper} {rest : List Oper} {o : Oper} {a : Act} {Q : Exit → Act → World → Prop} (hgd : o.guard = none) (s x : Operand) (t : TypeId)
    (ho : o.op = .call { callee := .builtin .append, args := #[s, x], argTypes := #[t, t] })
    (base : Nat) (e : TypeId) (i : TypeInfo) (z : Value) (size bytes : Nat) (ht : P.underlying t = some (.slice e)) (hi : P.info? e = some i) (hz : i.zero = some z)
    (hsize : i.size = size) (hby : i.bytes = bytes) (hzs : z.cells.size = size) (hsz : 0 < size)
    (v : Value) (n : Nat) (xs : List Value) (hs : a.eval s = v) (hown : w.ownsRow base e size v n xs)
    (src : Value) (m : Nat) (news : List Value) (hx : a.eval x = src) (hl : news.length = m * size) (hnews : Src w src m news) (h1 : ∀ u ∈ news, u.oneCell' = true)
    (h63 : n + m ≤ maxLen) (hbytes : (n + m) * bytes ≤ 140737488355328) (hbase : base ≤ w.heap.size)
    (h : ∀ v' w', w'.ownsRow base e size v' (n + m) (xs ++ news) → w.grownBy w' v.ownBlock → (v' = .slice none 0 0 ↔ v = .slice none 0 0 ∧ m = 0) → wpList P ops Q rest (a.put o.dst v') w') : wpList P ops Q (o :: rest) a w := by
  rcases hnews with ⟨rfl, rfl, rfl⟩ | ⟨ad, c, rfl, hc⟩
  · refine wpList_append_own_none hgd s x t ho base e i size ht hi v n xs hs hown hx (h v w ?_ ?_ ?_)
    · simpa using hown
    · exact ⟨rfl, rfl, rfl, Nat.le_refl _, fun _ _ _ => rfl⟩
    · simp
  · exact wpList_append_own w hgd s x t ho base e i z size bytes ht hi hz hsize hby hzs hsz v n xs hs hown ad m c news hx hl hc h1 h63 hbytes hbase h
end Go.Proofs.Ytbkgjghbmafoeaa
namespace Go.Proofs.Ytbkgjghbmafoeaa
open Go.RowKit
section
variable {P : Program} {ops : Array Oper} {rest : List Oper} {o : Oper} {a : Act} {w : World} {Q : Exit → Act → World → Prop}

theorem off_setRow {w : World} {b : Nat} {cs : Array Value} : Off (· = b) w (w.setRow b cs) :=
  ⟨rfl, rfl, rfl, by simp [World.setRow], fun k _ hn => setRow_other w b k cs hn⟩

/-- A store over a whole block. -/
theorem wpList_store_blk (hgd : o.guard = none) (ty : TypeId) (x y : Operand) (ho : o.op = .store ty x y) (b : Nat) (t : TypeId) (old cells : Array Value) (hb : Blk w b t old)
    (hx : a.eval x = .pointer (some ⟨b, 0, none⟩)) (hy : a.eval y = .agg cells) (hi : (P.info? ty).map (·.size) = some cells.size) (hold : old.size = cells.size) (h1 : cells.all (·.oneCell') = true)
    (h : ∀ w', Off (· = b) w w' → Blk w' b t cells → wpList P ops Q rest (a.put o.dst undef) w') : wpList P ops Q (o :: rest) a w :=
  wpList_store_row hgd ty x y ho b cells hx hy t old hb hi hold h1 (h _ off_setRow (setRow_heap w b old cells t (0, 0) hb))
end
end Go.Proofs.Ytbkgjghbmafoeaa
namespace Go.Proofs.Ytbkgjghbmafoeaa
open Go.RowKit

/-- A slice of integers that came in: each element's cell holds a number of its kind. -/
def Ints (k : IntKind) (w : World) (a : Option Addr) (len : Nat) (lo hi : Int) (zs : List Int) : Prop :=
  len ≤ zs.length ∧ ∀ i, i < len → ∃ b off, a = some ⟨b, off, none⟩ ∧ b < w.heap.size ∧ w.cell? ⟨b, off + i, none⟩ = some (.int k (zs.getD i 0)) ∧ lo ≤ zs.getD i 0 ∧ zs.getD i 0 ≤ hi

theorem Ints.of_row {k : IntKind} {w : World} {x : Addr} {len cap : Nat} {zs : List Int} {lo hi : Int} (hl : len ≤ cap) (hz : zs.length = cap)
    (hc : ∀ i, i < zs.length → w.cell? (x.add i) = some (.int k (zs.getD i 0))) (hb : ∀ n ∈ zs, lo ≤ n ∧ n ≤ hi) : Ints k w (some x) len lo hi zs := by
  refine ⟨by omega, fun i hi' => ?_⟩
  obtain ⟨b, off, rfl, hcell⟩ := ints_at hc (by omega)
  have hlt : i < zs.length := by omega
  have hmem : zs.getD i 0 ∈ zs := by
    rw [List.getD_eq_getElem?_getD, List.getElem?_eq_getElem hlt]; exact List.getElem_mem hlt
  exact ⟨b, off, rfl, World.block_lt_of_cell? _ _ (hcell i hlt), hcell i hlt, (hb _ hmem).1, (hb _ hmem).2⟩

theorem Ints.nil (k : IntKind) (w : World) (a : Option Addr) (lo hi : Int) : Ints k w a 0 lo hi [] := ⟨Nat.le_refl _, fun i h => absurd h (Nat.not_lt_zero i)⟩

/-- The element k in a later world: the slice leads to a block, its cell holds a number. -/
theorem Ints.at {k : IntKind} {w w' : World} {a : Option Addr} {len : Nat} {zs : List Int} {lo hi : Int} (h : Ints k w a len lo hi zs) (hb : Below w.heap.size w w') {i : Nat} (hi' : i < len) :
    ∃ b off, a = some ⟨b, off, none⟩ ∧ w'.cell? ⟨b, off + i, none⟩ = some (.int k (zs.getD i 0)) ∧ lo ≤ zs.getD i 0 ∧ zs.getD i 0 ≤ hi := by
  obtain ⟨b, off, ha, hlt, hc, h0, h1⟩ := h.2 i hi'
  exact ⟨b, off, ha, by rw [hb.cell (p := ⟨b, off + i, none⟩) hlt]; exact hc, h0, h1⟩
/-- What the row tells of a slice of integers that came in: it is nil; or it leads to a row of cap cells, the numbers zs. -/
def IsRow (k : IntKind) (w : World) (a : Option Addr) (len cap : Nat) (zs : List Int) : Prop :=
  (a = none ∧ len = 0 ∧ cap = 0 ∧ zs = []) ∨
  ∃ x, a = some x ∧ len ≤ cap ∧ cap ≤ maxLen ∧ zs.length = cap ∧ (∀ i, i < zs.length → w.cell? (x.add i) = some (.int k (zs.getD i 0))) ∧ ∀ n ∈ zs, (Lit.int k n).wf = true

theorem IsRow.ints {k : IntKind} {w : World} {a : Option Addr} {len cap : Nat} {zs : List Int} {lo hi : Int} (h : IsRow k w a len cap zs) (hk : ∀ n, (Lit.int k n).wf = true → lo ≤ n ∧ n ≤ hi) :
    Ints k w a len lo hi zs ∧ len ≤ maxLen := by
  rcases h with ⟨rfl, rfl, rfl, rfl⟩ | ⟨x, rfl, hl, hm, hz, hc, hw⟩
  · exact ⟨Ints.nil _ _ _ _ _, Nat.zero_le _⟩
  · exact ⟨Ints.of_row hl hz hc fun n hn => hk n (hw n hn), by omega⟩

theorem I64_of_wf {n : Int} (h : (Lit.int .i64 n).wf = true) : -9223372036854775808 ≤ n ∧ n ≤ 9223372036854775807 := bounds_i64 h

end Go.Proofs.Ytbkgjghbmafoeaa
namespace Go.Proofs.Ytbkgjghbmafoeaa
open Go.RowKit Go.Deep Go.WideShapes

/-- The kinds of a struct's cells, field behind field, from the offset o on. -/
def flatFields (P : Program) (flat : TypeId → Option (List IntKind)) : Nat → List Field → Option (List IntKind)
  | _, [] => some []
  | o, f :: fs =>
    if f.offset = o then
      match flat f.type with
      | some ks => if P.cellsOf f.type = ks.length then (flatFields P flat (o + ks.length) fs).map (ks ++ ·) else none
      | none => none
    else none

/-- The kinds of the cells of a type that is made of whole numbers alone. -/
def flat (P : Program) : Nat → TypeId → Option (List IntKind)
  | 0, _ => none
  | d + 1, t =>
    match P.underlying t with
    | some (.int k) => some [k]
    | some (.struct fs) =>
      match flatFields P (flat P d) 0 fs.toList with
      | some ks => if P.cellsOf t = ks.length then some ks else none
      | none => none
    | _ => none

/-- These cells are whole numbers, each of its kind. -/
def AreInts : List IntKind → List Value → Prop
  | [], [] => True
  | k :: ks, v :: vs => (∃ n, v = .int k n ∧ (Lit.int k n).wf = true) ∧ AreInts ks vs
  | _, _ => False

theorem AreInts.append : ∀ {ks ls : List IntKind} {vs us : List Value}, AreInts ks vs → AreInts ls us → AreInts (ks ++ ls) (vs ++ us)
  | [], _, [], _, _, h => h
  | _ :: _, _, _ :: _, _, h, k => ⟨h.1, AreInts.append h.2 k⟩
  | [], _, _ :: _, _, h, _ => h.elim
  | _ :: _, _, [], _, h, _ => h.elim

theorem AreInts.length : ∀ {ks : List IntKind} {vs : List Value}, AreInts ks vs → vs.length = ks.length
  | [], [], _ => rfl
  | _ :: _, _ :: _, h => by simp [AreInts.length h.2]
  | [], _ :: _, h => h.elim
  | _ :: _, [], h => h.elim

section
variable {H : Type} {enc : TypeId × Value → H} {P : Program} {w : World} {base : Nat} {spare : Nat → Bool} {held : Bool}

theorem flatFields_read {fl : TypeId → Option (List IntKind)} {rd : TypeId → List Value → Option (DataW H × List MemPlace)} {cs : List Value}
    (hf : ∀ t ks vs x, fl t = some ks → rd t vs = some x → AreInts ks vs) :
    ∀ (fs : List Field) (o : Nat) (ks : List IntKind), flatFields P fl o fs = some ks →
      (∀ f ∈ fs, ∃ x, rd f.type ((cs.drop f.offset).take (P.cellsOf f.type)) = some x) → AreInts ks ((cs.drop o).take ks.length) := by
  intro fs
  induction fs with
  | nil => intro o ks h _; simp [flatFields] at h; subst h; simp [AreInts]
  | cons f fs ih =>
    intro o ks h hr
    simp only [flatFields] at h
    split at h
    · rename_i ho
      split at h
      · rename_i ks1 hk
        split at h
        · rename_i hc
          cases hrest : flatFields P fl (o + ks1.length) fs with
          | none => simp [hrest] at h
          | some ks2 =>
            simp only [hrest, Option.map_some, Option.some.injEq] at h
            subst h
            obtain ⟨x, hx⟩ := hr f List.mem_cons_self
            rw [ho, hc] at hx
            have a := hf _ _ _ _ hk hx
            have b := ih _ _ hrest fun g hg => hr g (List.mem_cons_of_mem _ hg)
            rw [List.length_append, List.take_add, List.drop_drop]
            exact a.append b
        · cases h
      · cases h
    · cases h

theorem flat_trod : ∀ (d : Nat) {t : TypeId} {ks : List IntKind} {fuel : Nat} {cs : List Value} {x : DataW H × List MemPlace},
    flat P d t = some ks → DataW.trod enc P w base spare held fuel t cs = some x → AreInts ks cs := by
  intro d
  induction d with
  | zero => intro t ks fuel cs x h; simp [flat] at h
  | succ d ih =>
    intro t ks fuel cs x h hx
    simp only [flat] at h
    split at h
    · rename_i k ht
      simp only [Option.some.injEq] at h; subst h
      obtain ⟨n, rfl, _, hw⟩ := DataW.trod_int ht hx
      exact ⟨⟨n, rfl, hw⟩, trivial⟩
    · rename_i fs ht
      split at h
      · rename_i ks' hk
        split at h
        · rename_i hc
          simp only [Option.some.injEq] at h; subst h
          obtain ⟨xs, n, rfl, _, hl, hn, hfs⟩ := DataW.trod_struct ht hx
          have := flatFields_read (cs := cs) (fl := flat P d) (rd := DataW.trod enc P w base spare held n) (fun t ks vs x a b => ih a b) fs.toList 0 ks' hk (fun f hf => by
            obtain ⟨i, hi, he⟩ := List.getElem_of_mem hf
            have hfi : fs[i]? = some f := by rw [← Array.getElem?_toList, List.getElem?_eq_getElem hi, he]
            refine ⟨xs[i]'(by rw [hn]; simpa using hi), ?_⟩
            rw [hfs i f hfi, List.getElem?_eq_getElem])
          rw [List.drop_zero, List.take_of_length_le (by omega)] at this
          exact this
        · cases h
      · cases h
    · cases h

/-- The numbers of an element. -/
theorem AreInts.nums : ∀ {ks : List IntKind} {vs : List Value}, AreInts ks vs →
    ∃ ns : List Int, ns.length = ks.length ∧ ∀ j k, ks[j]? = some k → vs[j]? = some (.int k (ns.getD j 0)) ∧ (Lit.int k (ns.getD j 0)).wf = true
  | [], [], _ => ⟨[], rfl, fun j k h => by simp at h⟩
  | k :: ks, v :: vs, h => by
    obtain ⟨n, rfl, hw⟩ := h.1
    obtain ⟨ns, hl, hn⟩ := AreInts.nums h.2
    refine ⟨n :: ns, by simp [hl], fun j k' hj => ?_⟩
    cases j with
    | zero => simp at hj; subst hj; simpa using hw
    | succ j => simpa using hn j k' (by simpa using hj)
  | [], _ :: _, h => h.elim
  | _ :: _, [], h => h.elim

/-- A slice that came in, of elements that are whole numbers alone: element i is the numbers F i. -/
def Elems (ks : List IntKind) (w : World) (a : Option Addr) (len : Nat) (F : Nat → List Int) : Prop :=
  ∀ i, i < len → ∃ b off, a = some ⟨b, off, none⟩ ∧ b < w.heap.size ∧
    ∀ j k, ks[j]? = some k → w.cell? ⟨b, off + i * ks.length + j, none⟩ = some (.int k ((F i).getD j 0)) ∧ (Lit.int k ((F i).getD j 0)).wf = true

/-- .. at a later world. -/
theorem Elems.at {ks : List IntKind} {w w' : World} {a : Option Addr} {len : Nat} {F : Nat → List Int} (h : Elems ks w a len F) (hb : Below w.heap.size w w') {i : Nat} (hi : i < len) :
    ∃ b off, a = some ⟨b, off, none⟩ ∧ ∀ j k, ks[j]? = some k → w'.cell? ⟨b, off + i * ks.length + j, none⟩ = some (.int k ((F i).getD j 0)) ∧ (Lit.int k ((F i).getD j 0)).wf = true := by
  obtain ⟨b, off, ha, hlt, hc⟩ := h i hi
  refine ⟨b, off, ha, fun j k hj => ?_⟩
  rw [hb.cell (p := ⟨b, off + i * ks.length + j, none⟩) hlt]; exact hc j k hj

theorem open_elems {t e : TypeId} {fuel : Nat} {a : Option Addr} {len cap : Nat} {x : DataW H × List MemPlace} {ks : List IntKind} (d : Nat) (ht : P.underlying t = some (.slice e)) (hk : flat P d e = some ks) (hc : P.cellsOf e = ks.length) (h0 : 0 < ks.length)
    (h : DataW.trod enc P w base spare held fuel t [.slice a len cap] = some x) : len ≤ maxLen ∧ ∃ F, Elems ks w a len F := by
  rcases open_slice ht h with ⟨hcs, _⟩ | ⟨a', len', cap', m, n, D, Pl, hcs, _, hl, hm, hmm, _, hx⟩
  · simp at hcs
    obtain ⟨rfl, rfl, rfl⟩ := hcs
    exact ⟨Nat.zero_le _, fun _ => [], fun i hi => absurd hi (Nat.not_lt_zero _)⟩
  · simp at hcs
    obtain ⟨rfl, rfl, rfl⟩ := hcs
    refine ⟨by omega, ?_⟩
    have hle : len ≤ m := by rw [hmm]; split <;> omega
    obtain ⟨F, hF⟩ := choose_lt (α := List Int) (n := len) (p := fun i ns => ∃ b off, some a' = some (⟨b, off, none⟩ : Addr) ∧ b < w.heap.size ∧
        ∀ j k, ks[j]? = some k → w.cell? ⟨b, off + i * ks.length + j, none⟩ = some (.int k (ns.getD j 0)) ∧ (Lit.int k (ns.getD j 0)).wf = true) (fun i hi => by
      obtain ⟨cs', h1, h2⟩ := hx i (by omega)
      obtain ⟨ns, hns, hn⟩ := (flat_trod d hk h2).nums
      obtain ⟨_, hlen, hcell⟩ := World.cells?_some h1
      have c0 := hcell 0 (by omega)
      have n0 := hn 0 (ks[0]'h0) (by simp [h0])
      rw [n0.1] at c0
      obtain ⟨b, off, spot⟩ := a'
      have hspot : spot = none := by
        obtain ⟨cs0, h10, h20⟩ := hx 0 (by omega)
        obtain ⟨ns0, _, hn0⟩ := (flat_trod d hk h20).nums
        obtain ⟨_, _, hcell0⟩ := World.cells?_some h10
        have e0 := hcell0 0 (by omega)
        rw [(hn0 0 (ks[0]'h0) (by simp [h0])).1] at e0
        simpa [Addr.add] using World.cell?_spot e0
      subst hspot
      have hlt : b < w.heap.size := by have := World.block_lt_of_cell? _ _ c0; rw [add_add, add_plain] at this; exact this
      refine ⟨ns, b, off, rfl, hlt, fun j k hj => ?_⟩
      have hjl : j < ks.length := by
        rcases Nat.lt_or_ge j ks.length with h' | h'
        · exact h'
        · rw [List.getElem?_eq_none h'] at hj; cases hj
      have cj := hcell j (by omega)
      rw [add_add, add_plain, (hn j k hj).1] at cj
      refine ⟨?_, (hn j k hj).2⟩
      rw [← hc, Nat.add_assoc]; exact cj)
    exact ⟨F, hF⟩

/-- A struct of whole numbers, by value. -/
theorem open_flat {t : TypeId} {fuel : Nat} {cs : Array Value} {x : DataW H × List MemPlace} {ks : List IntKind} (d : Nat) (hk : flat P d t = some ks)
    (h : DataW.trod enc P w base spare held fuel t cs.toList = some x) : AreInts ks cs.toList := flat_trod d hk h
end
end Go.Proofs.Ytbkgjghbmafoeaa
