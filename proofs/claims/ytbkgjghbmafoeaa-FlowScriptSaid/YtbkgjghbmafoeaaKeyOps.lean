/- Keys and flows compared. No conditions. -/
import Derived.Test.YtbkgjghbmafoeaaFlFind
namespace Go.Proofs.Ytbkgjghbmafoeaa
open Go.RowKit

theorem run_key_eql (w : World) (a b : FKey) : (binOp .eql 36 (keyV a) (keyV b)).run Try.prog w = .ok (.bool (decide (a = b))) w := by
  have h := key_eqIn w 9997 a b
  rw [run_eql_struct]
  change (Op.equalIn 10000 36 (keyV a) (keyV b)).run Try.prog w = .ok (decide (a = b)) w at h
  rw [h]; rfl
theorem run_key_neq (w : World) (a b : FKey) : (binOp .neq 36 (keyV a) (keyV b)).run Try.prog w = .ok (.bool (!decide (a = b))) w := by
  have h := key_eqIn w 9997 a b
  rw [run_neq_struct]
  change (Op.equalIn 10000 36 (keyV a) (keyV b)).run Try.prog w = .ok (decide (a = b)) w at h
  rw [h]; rfl

theorem Try.stood38 : Try.prog.stoodInHeld 38 = false := by kernel_rfl
theorem Try.struct38 : Try.prog.underlying 38 = some (.struct (Try.prog.fieldsOf 38)) := by kernel_rfl
theorem Try.stood42 : Try.prog.stoodInHeld 42 = false := by kernel_rfl
theorem Try.struct42 : Try.prog.underlying 42 = some (.struct (Try.prog.fieldsOf 42)) := by kernel_rfl

theorem fl_ext (f g : Fl) : f = g ↔ f.id = g.id ∧ f.opn = g.opn ∧ f.bck = g.bck ∧ f.inn = g.inn ∧ f.out = g.out ∧ f.rule = g.rule ∧ f.state = g.state ∧ f.ends = g.ends := by
  constructor
  · rintro rfl; exact ⟨rfl, rfl, rfl, rfl, rfl, rfl, rfl, rfl⟩
  · rintro ⟨h1, h2, h3, h4, h5, h6, h7, h8⟩
    cases f; cases g; simp_all

theorem key_eqIn' (w : World) (d : Nat) (a b : FKey) : (Op.equalIn (d + 1 + 1 + 1) 36 (.agg #[.int .i64 a.1, .int .u64 a.2.1, .int .u64 a.2.2.1, .int .u64 a.2.2.2.1, .int .u64 a.2.2.2.2.1, .int .i64 a.2.2.2.2.2.1, .int .i64 a.2.2.2.2.2.2])
    (.agg #[.int .i64 b.1, .int .u64 b.2.1, .int .u64 b.2.2.1, .int .u64 b.2.2.2.1, .int .u64 b.2.2.2.2.1, .int .i64 b.2.2.2.2.2.1, .int .i64 b.2.2.2.2.2.2])).run Try.prog w = .ok (decide (a = b)) w := key_eqIn w d a b

theorem ifs_fl (f g : Fl) (w : World) : (if f.id = g.id then
      if f.opn = g.opn then
        if f.bck = g.bck then
          if f.inn = g.inn then
            if f.out = g.out then
              if f.rule = g.rule then
                if f.state = g.state then if f.ends = g.ends then (Result.ok true w : Result Bool) else Result.ok false w
                else Result.ok false w
              else Result.ok false w
            else Result.ok false w
          else Result.ok false w
        else Result.ok false w
      else Result.ok false w
    else Result.ok false w) = Result.ok (decide (f = g)) w := by
  by_cases h : f = g
  · subst h; simp
  · rw [decide_eq_false h]
    rw [fl_ext] at h
    repeat' split
    all_goals first | rfl | (exfalso; exact h ⟨by assumption, by assumption, by assumption, by assumption, by assumption, by assumption, by assumption, by assumption⟩)

theorem fl_eqIn38 (w : World) (d : Nat) (f g : Fl) : (Op.equalIn (d + 1 + 1 + 1 + 1) 38 (flV f) (flV g)).run Try.prog w = .ok (decide (f = g)) w := by
  rw [run_equalIn_struct w (d + 1 + 1 + 1) 38 _ _ Try.struct38 Try.stood38]
  unfold flL
  simp only [Program.fieldsOf, Try.underlying38]
  simp only [Op.eqFields]
  simp [part, isAgg, run_underlying Try.underlying36, run_underlying Try.underlying3, fun (w : World) (a b : Int) => run_equalIn_int (w := w) (d + 1 + 1) 3 .i64 .i64 a b Try.underlying3, key_eqIn']
  exact ifs_fl f g w

theorem run_fl_eql38 (w : World) (a b : Fl) : (binOp .eql 38 (flV a) (flV b)).run Try.prog w = .ok (.bool (decide (a = b))) w := by
  have h := fl_eqIn38 w 9996 a b
  rw [run_eql_struct]
  change (Op.equalIn 10000 38 (flV a) (flV b)).run Try.prog w = .ok (decide (a = b)) w at h
  rw [h]; rfl
theorem run_fl_neq38 (w : World) (a b : Fl) : (binOp .neq 38 (flV a) (flV b)).run Try.prog w = .ok (.bool (!decide (a = b))) w := by
  have h := fl_eqIn38 w 9996 a b
  rw [run_neq_struct]
  change (Op.equalIn 10000 38 (flV a) (flV b)).run Try.prog w = .ok (decide (a = b)) w at h
  rw [h]; rfl

theorem fl_eqIn42 (w : World) (d : Nat) (f g : Fl) : (Op.equalIn (d + 1 + 1 + 1 + 1) 42 (flV f) (flV g)).run Try.prog w = .ok (decide (f = g)) w := by
  rw [run_equalIn_struct w (d + 1 + 1 + 1) 42 _ _ Try.struct42 Try.stood42]
  unfold flL
  simp only [Program.fieldsOf, Try.underlying42]
  simp only [Op.eqFields]
  simp [part, isAgg, run_underlying Try.underlying36, run_underlying Try.underlying3, fun (w : World) (a b : Int) => run_equalIn_int (w := w) (d + 1 + 1) 3 .i64 .i64 a b Try.underlying3, key_eqIn']
  exact ifs_fl f g w

theorem run_fl_eql42 (w : World) (a b : Fl) : (binOp .eql 42 (flV a) (flV b)).run Try.prog w = .ok (.bool (decide (a = b))) w := by
  have h := fl_eqIn42 w 9996 a b
  rw [run_eql_struct]
  change (Op.equalIn 10000 42 (flV a) (flV b)).run Try.prog w = .ok (decide (a = b)) w at h
  rw [h]; rfl
theorem run_fl_neq42 (w : World) (a b : Fl) : (binOp .neq 42 (flV a) (flV b)).run Try.prog w = .ok (.bool (!decide (a = b))) w := by
  have h := fl_eqIn42 w 9996 a b
  rw [run_neq_struct]
  change (Op.equalIn 10000 42 (flV a) (flV b)).run Try.prog w = .ok (decide (a = b)) w at h
  rw [h]; rfl

section
variable {ops : Array Oper} {rest : List Oper} {o : Oper} {a : Act} {w : World} {Q : Exit → Act → World → Prop}

theorem wpList_cmp (hw : Region.wanted o (yielded ops a.tmps) = true) (op : BinOp) (t t' : TypeId) (x y : Operand) (xs ys : Array Value) (b : Bool) (ho : o.op = .binOp op t x y t') (hx : a.eval x = .agg xs) (hy : a.eval y = .agg ys)
    (hg : Try.prog.eqGuardType Try.prog.depth t = false) (hr : (binOp op t (.agg xs) (.agg ys)).run Try.prog w = .ok (.bool b) w)
    (h : wpList Try.prog ops Q rest (a.put o.dst (.bool b)) w) : wpList Try.prog ops Q (o :: rest) a w := by
  unfold wpList
  rw [if_pos hw]
  left
  unfold Oper.wp execOp
  simp only [ho, hx, hy, Sem.run_bind, run_eqGuard_agg w op t x y xs ys hg, Result.andThen_ok, hr, Sem.run_pure, Oper.upon]
  exact h

theorem guard36 : Try.prog.eqGuardType Try.prog.depth 36 = false := by kernel_rfl
theorem guard38 : Try.prog.eqGuardType Try.prog.depth 38 = false := by kernel_rfl
theorem guard42 : Try.prog.eqGuardType Try.prog.depth 42 = false := by kernel_rfl

theorem wpList_key_eql (hw : Region.wanted o (yielded ops a.tmps) = true) (x y : Operand) (p q : FKey) (ho : o.op = .binOp .eql 36 x y 36) (hx : a.eval x = keyV p) (hy : a.eval y = keyV q) (b : Bool) (hb : decide (p = q) = b)
    (h : wpList Try.prog ops Q rest (a.put o.dst (.bool b)) w) : wpList Try.prog ops Q (o :: rest) a w :=
  wpList_cmp hw .eql 36 36 x y _ _ b ho hx hy guard36 (by rw [run_key_eql, hb]) h
theorem wpList_key_neq (hw : Region.wanted o (yielded ops a.tmps) = true) (x y : Operand) (p q : FKey) (ho : o.op = .binOp .neq 36 x y 36) (hx : a.eval x = keyV p) (hy : a.eval y = keyV q) (b : Bool) (hb : (!decide (p = q)) = b)
    (h : wpList Try.prog ops Q rest (a.put o.dst (.bool b)) w) : wpList Try.prog ops Q (o :: rest) a w :=
  wpList_cmp hw .neq 36 36 x y _ _ b ho hx hy guard36 (by rw [run_key_neq, hb]) h
theorem wpList_fl_neq (hw : Region.wanted o (yielded ops a.tmps) = true) (x y : Operand) (p q : Fl) (ho : o.op = .binOp .neq 38 x y 38) (hx : a.eval x = flV p) (hy : a.eval y = flV q) (b : Bool) (hb : (!decide (p = q)) = b)
    (h : wpList Try.prog ops Q rest (a.put o.dst (.bool b)) w) : wpList Try.prog ops Q (o :: rest) a w :=
  wpList_cmp hw .neq 38 38 x y _ _ b ho hx hy guard38 (by rw [run_fl_neq38, hb]) h

/-- A flow, a key loaded, where the operation is guarded too. -/
theorem wpList_ld (hw : Region.wanted o (yielded ops a.tmps) = true) (ty : TypeId) (x : Operand) (ho : o.op = .load ty x) (b off : Nat) (hx : a.eval x = .pointer (some ⟨b, off, none⟩)) (cs : List Value) (d : TypeDesc) (hc : w.rangeAt b off cs)
    (hu : Try.prog.underlying ty = some d) (hd : d.isRow = true) (hi : (Try.prog.info? ty).map (·.size) = some cs.length)
    (h : wpList Try.prog ops Q rest (a.put o.dst (.agg cs.toArray)) w) : wpList Try.prog ops Q (o :: rest) a w := by
  unfold wpList
  rw [if_pos hw]
  left
  exact wp_load_mid ty x ho b off hx cs d hc hu hd hi h
theorem wpList_ldk (hw : Region.wanted o (yielded ops a.tmps) = true) (x : Operand) (ho : o.op = .load 36 x) (b off : Nat) (hx : a.eval x = .pointer (some ⟨b, off, none⟩)) (k : FKey) (hc : w.rangeAt b off (keyL k))
    (h : wpList Try.prog ops Q rest (a.put o.dst (keyV k)) w) : wpList Try.prog ops Q (o :: rest) a w :=
  wpList_ld hw 36 x ho b off hx (keyL k) _ hc Try.struct36 rfl (by kernel_rfl) h
theorem wpList_ldf (hw : Region.wanted o (yielded ops a.tmps) = true) (x : Operand) (ho : o.op = .load 38 x) (b off : Nat) (hx : a.eval x = .pointer (some ⟨b, off, none⟩)) (f : Fl) (hc : w.rangeAt b off (flL f))
    (h : wpList Try.prog ops Q rest (a.put o.dst (flV f)) w) : wpList Try.prog ops Q (o :: rest) a w :=
  wpList_ld hw 38 x ho b off hx (flL f) _ hc Try.struct38 rfl (by kernel_rfl) h
theorem wpList_ldr (hw : Region.wanted o (yielded ops a.tmps) = true) (x : Operand) (ho : o.op = .load 42 x) (b off : Nat) (hx : a.eval x = .pointer (some ⟨b, off, none⟩)) (f : Fl) (hc : w.rangeAt b off (flL f))
    (h : wpList Try.prog ops Q rest (a.put o.dst (flV f)) w) : wpList Try.prog ops Q (o :: rest) a w :=
  wpList_ld hw 42 x ho b off hx (flL f) _ hc Try.struct42 rfl (by kernel_rfl) h
end
end Go.Proofs.Ytbkgjghbmafoeaa
