import Derived.Test.YtenoaeapijcccaaGreatDoorFacts
import Derived.ProofKit
set_option linter.unusedVariables false
set_option linter.unusedSimpArgs false
set_option linter.unusedSectionVars false
namespace Go.Proofs.YtenoaeapijcccaaGreatDoor
open Go Go.Sh
def namesV : List Value := names.map fun a => match a with | .str s => .string ⟨s.toArray⟩ | _ => .nilIface
def NamesAt (W : World) : Prop := W.heap[0]? = some (.cells namesV.toArray 190 (0, 0))
def ρ0 : Rho := fun b => if b = 0 then some ⟨0, 0, 12⟩ else none
theorem names_rel (σ : Env) (ρ : Rho) : VRs σ ρ names namesV := by
  unfold namesV
  simp only [names, List.map, u8s, VRs, VR]
  simp
theorem start_rel {σ : Env} (ho : σ.old = fun _ => none) {W : World} {C : Ctx} (hng : C.ng = 1) (h : NamesAt W) : HR C σ ρ0 H0 W := by
  have h0 : ∀ b ab, H0.get b = some ab → b = 0 ∧ ab = .cells names 190 := by
    intro b ab e
    have : H0.get b = (T.set .e 0 (.cells names 190)).get b := rfl
    rw [this, T.get_set] at e
    split at e
    · cases e; exact ⟨by assumption, rfl⟩
    · simp [T.get] at e
  have hlt : 0 < W.heap.size := (Array.getElem?_eq_some_iff.1 h).1
  have hρ : ∀ b r, ρ0 b = some r → b = 0 ∧ r = ⟨0, 0, 12⟩ := by
    intro b r e; unfold ρ0 at e; split at e
    · cases e; exact ⟨by assumption, rfl⟩
    · cases e
  refine ⟨fun b r e => by rw [(hρ b r e).1]; decide, fun b r e => by rw [(hρ b r e).2]; exact hlt, fun b ab e => ?_, fun b b' ab ab' r r' e e' _ _ _ => by rw [(h0 b ab e).1, (h0 b' ab' e').1], fun g hg => ?_, fun i o e => by rw [ho] at e; cases e⟩
  · obtain ⟨rfl, rfl⟩ := h0 b ab e
    refine ⟨⟨0, 0, 12⟩, _, rfl, h, ?_⟩
    refine ⟨_, rfl, rfl, by decide, fun i a hi => ?_⟩
    obtain ⟨v, hv, hr⟩ := (names_rel σ ρ0).get i hi
    exact ⟨v, by simpa using hv, hr⟩
  · have : g = 0 := by omega
    subst this; exact ⟨_, rfl, rfl, rfl⟩
theorem walk_of_run {bin : List (BinOp × AV × AV × AV)} {σ : Env} (ho : σ.old = fun _ => none) (hC : COK Tryz.prog (cx bin) σ) (hF : FOK Tryz.prog (cx bin) σ) (hm : Tryz.prog.follows .mixedOrders = true) {args : List AV} {vs : List Value} (hvs : VRs σ ρ0 args vs)
    (hrun : runB bin 3 args = true) {fi : FI} (hfi : fnT.get 3 = some fi) {W : World} (hW : NamesAt W) :
    Calls Tryz.prog 3 vs.toArray W (fun e w' => e = .returned (.bool true) ∧ W.keptBut w' (fun _ => False) ∧ W.heap.size ≤ w'.heap.size) := by
  unfold runB at hrun
  cases hq : callA (cx bin) 100000 100 (.fn 3) args H0 with
  | none => rw [hq] at hrun; simp [isTrue] at hrun
  | some r =>
    obtain ⟨v, H'⟩ := r
    rw [hq] at hrun
    have hr := start_rel (σ := σ) ho (C := cx bin) rfl hW
    refine (calls_of_callA hC hF hm (fi := fi) hfi hq hr hvs).mono fun e w' ⟨v', ρ', he, hv, hp⟩ => ?_
    unfold isTrue at hrun
    split at hrun
    · rename_i H2 heq
      cases heq
      simp only [VR] at hv
      subst hv
      split at hrun
      · rename_i cs el hg
        rw [Bool.and_eq_true] at hrun
        have hel : el = 190 := Nat.eq_of_beq_eq_true hrun.1
        have hcs := AV.beqs_of _ _ hrun.2
        subst hel; subst hcs
        obtain ⟨r, o, e1, e2, e3⟩ := hp.hr.live 0 _ hg
        have : ρ' 0 = some ⟨0, 0, 12⟩ := hp.ext 0 _ rfl
        rw [this] at e1; cases e1
        obtain ⟨c, rfl, hsz, _, hcr⟩ := e3
        have hc : c = namesV.toArray := by
          apply Array.ext_getElem?
          intro i
          by_cases hi : i < 12
          · have hi' : names[i]? = some (names[i]'(by simpa [names] using hi)) := List.getElem?_eq_getElem _
            obtain ⟨v1, k1, k2⟩ := hcr i _ hi'
            obtain ⟨v2, k3, k4⟩ := (names_rel σ ρ').get i hi'
            have hstr : ∃ s, names[i]'(by simpa [names] using hi) = .str s := by
              have : ∀ a ∈ names, ∃ s, a = .str s := by simp [names, u8s]
              exact this _ (List.getElem_mem _)
            obtain ⟨s, hs⟩ := hstr
            rw [hs] at k2 k4
            simp only [VR] at k2 k4
            simp only [Nat.zero_add] at k1
            rw [k1, k2, ← k4]; simpa using k3.symm
          · rw [Array.getElem?_eq_none (by rw [hsz]; simpa using hi), Array.getElem?_eq_none (by simpa [namesV, names] using hi)]
        subst hc
        refine ⟨he, ⟨hp.kr.os, hp.kr.output, fun i hi => ?_⟩, hp.kr.size⟩
        have hsame : w'.heap[i]? = W.heap[i]? := by
          by_cases h0 : i = 0
          · subst h0; rw [e2]; exact hW.symm
          · refine hp.kr.same i hi ?_
            rintro ⟨b, ab, r, _, k2, rfl⟩
            unfold ρ0 at k2; split at k2
            · cases k2; exact h0 rfl
            · cases k2
        have := (World.keptBut_refl W (fun _ => False)).2.2 i hi
        rw [hsame]; exact this
      · cases hrun
    · cases hrun
end Go.Proofs.YtenoaeapijcccaaGreatDoor
