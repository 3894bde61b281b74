import Derived.Test.YtenoaeapijcccaaGreatDoorCok
set_option linter.unusedVariables false
set_option linter.unusedSimpArgs false
set_option linter.unusedSectionVars false
namespace Go.Proofs.YtenoaeapijcccaaGreatDoor
open Go Go.Sh
/-- the two arguments, whatever they are -/
def sig (n : Int) (b : Bool) : Env := ⟨fun i => if i = 0 then .int .i64 n else .bool b, fun _ => none⟩
theorem cmp_run (op : BinOp) (ho : op = .lss ∨ op = .gtr) (n m : Int) (w : World) (t : TypeId) (X Y : Operand) :
    ((do eqGuard op t X Y (.int .i64 n) (.int .i64 m); binOp op t (.int .i64 n) (.int .i64 m)) : Sem Value).run Tryz.prog w = .ok (.bool (if op = .lss then decide (n < m) else decide (n > m))) w := by
  rcases ho with rfl | rfl <;> simp [eqGuard, binOp, Op.intCmp, Sem.run_bind, Sem.run_pure]
theorem neg_bin {n : Int} {b : Bool} (h : n < 0) : ∀ op x y r, (op, x, y, r) ∈ [(BinOp.lss, AV.sym 0, AV.int .i64 (.ofNat 0), AV.bool true)] → ∀ ρ v u, VR (sig n b) ρ x v → VR (sig n b) ρ y u →
    ∃ r', VR (sig n b) ρ r r' ∧ ∀ w t X Y, ((do eqGuard op t X Y v u; binOp op t v u) : Sem Value).run Tryz.prog w = .ok r' w := by
  intro op x y r hm ρ v u hv hu
  simp only [List.mem_singleton, Prod.mk.injEq] at hm
  obtain ⟨rfl, rfl, rfl, rfl⟩ := hm
  simp only [VR] at hv hu
  obtain ⟨rfl, _⟩ := hv
  subst hu
  refine ⟨.bool true, by simp only [VR], fun w t X Y => ?_⟩
  have := cmp_run .lss (.inl rfl) n (.ofNat 0) w t X Y
  simp only [if_true] at this
  rw [show decide (n < Int.ofNat 0) = true by simpa using h] at this
  exact this
theorem big_bin {n : Int} {b : Bool} (h : 3 < n) : ∀ op x y r, (op, x, y, r) ∈ [(BinOp.lss, AV.sym 0, AV.int .i64 (.ofNat 0), AV.bool false), (BinOp.gtr, AV.sym 0, AV.int .i64 (.ofNat 3), AV.bool true)] → ∀ ρ v u, VR (sig n b) ρ x v → VR (sig n b) ρ y u →
    ∃ r', VR (sig n b) ρ r r' ∧ ∀ w t X Y, ((do eqGuard op t X Y v u; binOp op t v u) : Sem Value).run Tryz.prog w = .ok r' w := by
  intro op x y r hm ρ v u hv hu
  simp only [List.mem_cons, List.not_mem_nil, or_false, Prod.mk.injEq] at hm
  rcases hm with ⟨rfl, rfl, rfl, rfl⟩ | ⟨rfl, rfl, rfl, rfl⟩
  · simp only [VR] at hv hu
    obtain ⟨rfl, _⟩ := hv
    subst hu
    refine ⟨.bool false, by simp only [VR], fun w t X Y => ?_⟩
    have := cmp_run .lss (.inl rfl) n (.ofNat 0) w t X Y
    simp only [if_true] at this
    rw [show decide (n < Int.ofNat 0) = false from decide_eq_false (by show ¬ n < 0; omega)] at this
    exact this
  · simp only [VR] at hv hu
    obtain ⟨rfl, _⟩ := hv
    subst hu
    refine ⟨.bool true, by simp only [VR], fun w t X Y => ?_⟩
    have := cmp_run .gtr (.inr rfl) n (.ofNat 3) w t X Y
    rw [if_neg (by decide), show decide (n > Int.ofNat 3) = true from decide_eq_true (by show (3 : Int) < n; exact h)] at this
    exact this
end Go.Proofs.YtenoaeapijcccaaGreatDoor
