import Derived.Test.YtenoaeapijcccaaGreatDoorJoin
import Derived.Test.YtenoaeapijcccaaGreatDoorIds
set_option linter.unusedVariables false
set_option linter.unusedSimpArgs false
set_option linter.unusedSectionVars false
namespace Go.Proofs.YtenoaeapijcccaaGreatDoor
open Go Go.Sh
theorem mixed : Tryz.prog.follows .mixedOrders = true := by kernel_rfl
theorem eqInt {t : TypeId} (ht : ∀ w, (underlying t).run Tryz.prog w = .ok (.int .i64) w) (n : Nat) (a b : Int) (w : World) : (Op.equalIn (n + 1) t (.int .i64 a) (.int .i64 b)).run Tryz.prog w = .ok (a == b) w := by
  rw [Op.equalIn]
  simp only [Sem.run_bind, ht, Result.andThen_ok, if_true, Sem.run_pure]
theorem eqPair (n : Nat) (a b c d : Int) (w : World) : (Op.equalIn (n + 1 + 1) 77 (.agg #[.int .i64 a, .int .i64 b]) (.agg #[.int .i64 c, .int .i64 d])).run Tryz.prog w = .ok (a == c && b == d) w := by
  have p3 : ∀ (x y : Value) w, (part 3 #[x, y] 0).run Tryz.prog w = .ok x w := fun x y w => by
    simp [part, Sem.run_bind, Tryz.isAgg3]
  have p36 : ∀ (x y : Value) w, (part 36 #[x, y] 1).run Tryz.prog w = .ok y w := fun x y w => by
    simp [part, Sem.run_bind, Tryz.isAgg36]
  rw [Op.equalIn]
  simp only [Sem.run_bind, Tryz.runUnderlying77, Result.andThen_ok, run_program, Tryz.stoodInHeld77]
  simp [Sem.run_bind, p3, p36, eqInt Tryz.runUnderlying3, eqInt Tryz.runUnderlying36]
  by_cases h1 : a = c <;> by_cases h2 : b = d <;> simp [h1, h2]
theorem flat_ok (σ : Env) : ∀ t xs ys, flat77 t xs ys = true → Tryz.prog.eqGuardType Tryz.prog.depth t = false ∧ ∀ r ρ vs us w, scalarsEq xs ys = some r → VRs σ ρ xs vs → VRs σ ρ ys us →
    (Op.equal t (.agg vs.toArray) (.agg us.toArray)).run Tryz.prog w = .ok r w := by
  intro t xs ys h
  unfold flat77 at h
  split at h <;> (try (cases h; done))
  rename_i a b c d
  have ht : t = 77 := Nat.eq_of_beq_eq_true h
  subst ht
  refine ⟨Tryz.eqGuardType77, fun r ρ vs us w hs hv hu => ?_⟩
  simp only [VRs, VR] at hv hu
  obtain ⟨_, _, rfl, rfl, _, _, rfl, rfl, rfl⟩ := hv
  obtain ⟨_, _, rfl, rfl, _, _, rfl, rfl, rfl⟩ := hu
  have hr : r = (a == c && b == d) := by
    simp only [scalarsEq, scalarEq, kindEq, bif_ite, Option.bind_some, Option.some.injEq, if_true] at hs
    rw [← hs, intEq_eq, intEq_eq]
    cases a == c <;> cases b == d <;> rfl
  subst hr
  exact eqPair (Op.maxDepth - 2) a b c d w
theorem cok (bin : List (BinOp × AV × AV × AV)) (σ : Env)
    (hb : ∀ op x y r, (op, x, y, r) ∈ bin → ∀ ρ v u, VR σ ρ x v → VR σ ρ y u → ∃ r', VR σ ρ r r' ∧ ∀ w t X Y, ((do eqGuard op t X Y v u; binOp op t v u) : Sem Value).run Tryz.prog w = .ok r' w) : COK Tryz.prog (cx bin) σ := by
  refine ⟨fun t ti h => ?_, hb, fun t x r h => by simp [cx] at h, fun i r h => by simp [cx] at h, fun i z h => by simp [cx] at h, flat_ok σ⟩
  obtain ⟨h1, h2, i, h3, h4, h5, h6⟩ := AllT.get tyAll h
  exact ⟨h1, h2, i, h3, h4, h5, fun z hz => by obtain ⟨v, k1, k2⟩ := h6 z hz; exact ⟨v, k1, k2 σ⟩⟩
theorem fok (bin : List (BinOp × AV × AV × AV)) (σ : Env) : FOK Tryz.prog (cx bin) σ := by
  refine ⟨fun f fi h => AllT.get fnAll h, fun f args H v H' h1 h2 ρ w vs cs hr hvs => ?_⟩
  have hf : f = 89 := Nat.eq_of_beq_eq_true h1
  subst hf
  exact ids_sum Tryz.underlying3 Tryz.func89 rfl (by kernel_rfl) Tryz.ids_law h2 vs cs hr hvs
end Go.Proofs.YtenoaeapijcccaaGreatDoor
