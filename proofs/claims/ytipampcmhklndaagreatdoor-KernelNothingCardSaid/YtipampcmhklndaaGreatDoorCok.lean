import Derived.Test.YtipampcmhklndaaGreatDoorCtx
import Derived.Test.YtipampcmhklndaaGreatDoorFacts
import Derived.Test.YtipampcmhklndaaGreatDoorIds
import Derived.Test.YtipampcmhklndaaGreatDoorShT
/- The evaluator is right at this program. -/
namespace Go.Proofs.YtipampcmhklndaaGreatDoor
open Go Go.Sh
theorem mixed : Tryz.prog.follows .mixedOrders = true := by kernel_rfl
theorem fok (bin : List (BinOp × AV × AV × AV)) (conv : List (TypeId × AV × AV)) (len : List (Nat × AV)) (slc : List (Nat × Nat)) (σ : Env) : FOK Tryz.prog (cx bin conv len slc) σ :=
  fok_of fnAll fun f args H v H' h1 h2 ρ w vs cs hr hvs => by
    have hf : f = 54 := Nat.eq_of_beq_eq_true h1
    subst hf
    exact ids_sum Tryz.underlying3 Tryz.func54 rfl (by kernel_rfl) Tryz.ids_law h2 vs cs hr hvs
theorem cok {bin : List (BinOp × AV × AV × AV)} {conv : List (TypeId × AV × AV)} {len : List (Nat × AV)} {slc : List (Nat × Nat)} {σ : Env} (hb : ∀ e ∈ bin, BinOK σ e)
    (hc : ∀ t x r, (t, x, r) ∈ conv → ∀ ρ v, VR σ ρ x v → ∃ r', VR σ ρ r r' ∧ ∀ w s k, Tryz.prog.underlying s = some (.int k) → (convert s t v).run Tryz.prog w = .ok r' w)
    (hl : ∀ i r, (i, r) ∈ len → ∃ p n c, σ.val i = .slice p n c ∧ ∀ ρ, VR σ ρ r (goInt n))
    (hs : ∀ i z, (i, z) ∈ slc → ∃ p n c, σ.val i = .slice p n c ∧ n ≤ 1000000 ∧ (n = 0 ∨ ∃ blk off cells e fz, p = some ⟨blk, off, none⟩ ∧ σ.old blk = some (.cells cells e fz) ∧ off + n * z ≤ cells.size)) :
    COK Tryz.prog (cx bin conv len slc) σ :=
  cok_of tyAll (fun op x y r hm ρ v u hv hu => bin_run (hb _ hm) ρ v u hv hu) hc hl hs (fun s z i r h => by simp [cx] at h) (fun p n cs h => by simp [cx] at h) (fun t xs ys h => by simp [cx] at h)
end Go.Proofs.YtipampcmhklndaaGreatDoor
