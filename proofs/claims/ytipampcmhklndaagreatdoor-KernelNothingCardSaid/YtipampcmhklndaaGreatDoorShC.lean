import Derived.Test.YtipampcmhklndaaGreatDoorShB
import Derived.RangeFuncRecord
import Derived.RangeFuncNested
import Derived.Laws.Sem
set_option linter.unusedVariables false
set_option linter.unusedSimpArgs false
set_option linter.unusedSectionVars false
namespace Go.Sh
variable {σ : Env} {ρ ρ' : Rho} {C : Ctx} {H H' : AH} {w w' : World} {P : Program}
/-! what a frame has put off -/
def DR (σ : Env) (ρ : Rho) : Sum Nat ADef → Deferred → Prop
  | .inl r, d => ∃ r', ρ r = some r' ∧ d = { target := .collected r'.blk, args := #[] }
  | .inr e, d => ∃ a0 cap : List Value, d = { target := .fn (.func e.f) cap.toArray, args := a0.toArray } ∧ VRs σ ρ e.args (a0 ++ cap)
def DRs (σ : Env) (ρ : Rho) : List (Sum Nat ADef) → List Deferred → Prop
  | [], l => l = []
  | a :: as, l => ∃ d ds, l = d :: ds ∧ DR σ ρ a d ∧ DRs σ ρ as ds
theorem DR.mono (k : Ext ρ ρ') {a : Sum Nat ADef} {d : Deferred} (h : DR σ ρ a d) : DR σ ρ' a d := by
  cases a with
  | inl r => obtain ⟨r', e, e'⟩ := h; exact ⟨r', k _ _ e, e'⟩
  | inr e => obtain ⟨a0, cap, e', h⟩ := h; exact ⟨a0, cap, e', h.mono k⟩
theorem DRs.mono (k : Ext ρ ρ') : ∀ {as : List (Sum Nat ADef)} {ds : List Deferred}, DRs σ ρ as ds → DRs σ ρ' as ds
  | [], _, h => h
  | _ :: _, _, h => by
    simp only [DRs] at h ⊢; obtain ⟨d, ds, e, h1, h2⟩ := h; exact ⟨d, ds, e, h1.mono k, h2.mono k⟩
/-- The shadow frame is the frame's. -/
structure FX (C : Ctx) (σ : Env) (ρ : Rho) (fr : AFr) (b : Frame) (t : Array Value) (d : List Deferred) : Prop where
  tm : FR C σ ρ fr t
  fn : b.fn = fr.fn
  ds : DRs σ ρ fr.defers d
  rd : match fr.round with | none => b.roundOf = none | some l => ∃ r, ρ l = some r ∧ b.roundOf = some r.blk
variable {fr fr' : AFr} {b : Frame} {t : Array Value} {d : List Deferred}
theorem FX.mono (h : FX C σ ρ fr b t d) (k : Ext ρ ρ') : FX C σ ρ' fr b t d := by
  refine ⟨h.tm.mono k, h.fn, h.ds.mono k, ?_⟩
  have := h.rd
  split at this
  · exact this
  · obtain ⟨r, e1, e2⟩ := this; exact ⟨r, k _ _ e1, e2⟩
theorem FR.put (h : FR C σ ρ fr t) {dst : Option Tmp} {v : AV} {v' : Value} (hv : VR σ ρ v v') (hp : fr.put dst v = some fr') : FR C σ ρ fr' (putC t dst v') := by
  unfold AFr.put at hp
  split at hp
  · cases hp; exact h
  · rename_i q
    obtain ⟨hlt, hp⟩ := bif_some hp
    cases hp
    have hlt := blt_of hlt
    refine ⟨h.ng, ?_⟩
    obtain ⟨h1, h2, h3⟩ := h.tr
    refine ⟨by simp [putC, h1], fun i u hu => ?_, fun i hi => ?_⟩
    · simp only [T.at, T.get_set]
      simp only [putC, Array.getElem?_setIfInBounds] at hu
      by_cases hi : i = q
      · subst hi
        rw [if_pos rfl]
        rw [if_pos rfl] at hu
        split at hu
        · cases hu; exact hv
        · cases hu
      · rw [if_neg hi]
        rw [if_neg (fun e => hi e.symm)] at hu
        exact h2 i u hu
    · simp only at hi ⊢
      rw [T.get_set, if_neg (by omega)]
      exact h3 i hi
theorem put_keeps {dst : Option Tmp} {v : AV} (hp : fr.put dst v = some fr') : fr'.fn = fr.fn ∧ fr'.defers = fr.defers ∧ fr'.round = fr.round ∧ fr'.n = fr.n ∧ fr'.ng = fr.ng := by
  unfold AFr.put at hp
  split at hp
  · cases hp; exact ⟨rfl, rfl, rfl, rfl, rfl⟩
  · obtain ⟨_, hp⟩ := bif_some hp; cases hp; exact ⟨rfl, rfl, rfl, rfl, rfl⟩
theorem FX.put (h : FX C σ ρ fr b t d) {dst : Option Tmp} {v : AV} {v' : Value} (hv : VR σ ρ v v') (hp : fr.put dst v = some fr') : FX C σ ρ fr' b (putC t dst v') d := by
  obtain ⟨k1, k2, k3, _⟩ := put_keeps hp
  exact ⟨h.tm.put hv hp, by rw [k1]; exact h.fn, by rw [k2]; exact h.ds, by rw [k3]; exact h.rd⟩
/-! guards -/
theorem FR.yielded (h : FR C σ ρ fr t) {ops : List Oper} {oj : Oper} {j q : Nat} (hj : getN ops j = some oj) (hd : oj.dst = some q) (hlt : q < fr.n) :
    yielded ops.toArray t j = (match (t.getD q undef) with | .bool b => some b | _ => none) := by
  have h1 : (ops.toArray[j]?).bind (·.dst) = some q := by
    have : ops.toArray[j]? = some oj := by rw [← hj, getN_eq]; simp
    rw [this]; exact hd
  have hs : q < t.size := by rw [h.tr.1]; exact hlt
  unfold Go.yielded
  rw [h1]
  simp [Array.getD, hs]
  split <;> simp_all

theorem wantedA_spec (h : FR C σ ρ fr t) {ops : List Oper} {o : Oper} {q : Bool} (hw : wantedA ops fr o = some q) : Region.wanted o (yielded ops.toArray t) = q := by
  unfold wantedA at hw
  unfold Region.wanted
  cases hg : o.guard with
  | none => rw [hg] at hw; simp only at hw; cases hw; simp
  | some p =>
    obtain ⟨j, want⟩ := p
    rw [hg] at hw
    simp only at hw ⊢
    cases hj : getN ops j with
    | none =>
      rw [hj] at hw; simp only at hw; cases hw
      have : yielded ops.toArray t j = none := by
        unfold Go.yielded
        rw [show ops.toArray[j]? = none by rw [getN_eq] at hj; simpa using hj]; rfl
      rw [this]; rfl
    | some oj =>
      rw [hj] at hw; simp only at hw
      have hget : ops.toArray[j]? = some oj := by rw [getN_eq] at hj; simpa using hj
      cases hd : oj.dst with
      | none =>
        rw [hd] at hw; simp only at hw; cases hw
        have : yielded ops.toArray t j = none := by
          unfold Go.yielded; rw [hget]; simp [hd]
        rw [this]; rfl
      | some p =>
        rw [hd] at hw; simp only [bif_ite] at hw
        split at hw
        · rename_i hlt
          rw [h.yielded hj hd (blt_of hlt)]
          have hv := h.tmp p
          generalize fr.tmp p = x at hw hv
          generalize t.getD p undef = y at hv
          cases x <;> simp only [VR] at hw hv <;> (try (cases hw; done))
          case bool b => subst hv; cases hw; cases b <;> cases want <;> rfl
          case ptr | map | yield => obtain ⟨r, _, rfl⟩ := hv; cases hw; rfl
          case slice => obtain ⟨r, a, c', _, rfl, _⟩ := hv; cases hw; rfl
          case func => obtain ⟨a', c', rfl, _⟩ := hv; cases hw; rfl
          case agg | tup => obtain ⟨l, rfl, _⟩ := hv; cases hw; rfl
          all_goals (subst hv; cases hw; rfl)
        · rename_i hlt
          cases hw
          have hs : ¬ p < t.size := by rw [h.tr.1]; intro k; exact hlt (show Nat.ble (p + 1) fr.n = true from Nat.ble_eq_true_of_le k)
          have : yielded ops.toArray t j = none := by
            unfold Go.yielded; rw [hget]; simp [hd, hs]
          rw [this]; rfl
end Go.Sh
namespace Go.Sh
variable {σ : Env} {ρ ρ' : Rho} {C : Ctx} {H H' : AH} {w w' : World} {P : Program}
variable {fr fr' : AFr} {b : Frame} {t : Array Value} {d : List Deferred} {cf : CallF}
/-! calls -/
def Enters (P : Program) (f : FuncId) (vs : List Value) (w : World) (v' : Value) (w' : World) (kind : CallKind) (cs : List Frame) : Prop :=
  ∃ fr : Frame, Steps P (lone (Frame.enter P f vs.toArray kind) cs w) (lone fr cs w') ∧ fr.fn = f ∧ fr.mode = .returning ∧ fr.defers = [] ∧
    fr.kind = kind ∧ ∃ fn, P.funcs[f]? = some fn ∧ (results fn fr.tmps).run P w' = .ok v' w'
def FnOK (P : Program) (f : FuncId) (vs : List Value) (w : World) (v' : Value) (w' : World) (kind : CallKind) (cs : List Frame) : Prop :=
  ((callFunc f vs.toArray).run P w = .ok (.enter f vs.toArray) w ∧ Enters P f vs w v' w' kind cs) ∨ (callFunc f vs.toArray).run P w = .ok (.value v') w'
def RoundOK (P : Program) (l : Nat) (vs : List Value) (w : World) (v' : Value) (w' : World) (cs : List Frame) : Prop :=
  ∃ f tm as bd, (Instr.yield l vs.toArray).run P w = .ok (.round l f tm as bd) w ∧
    ∀ (c : Frame) (cs0 : List Frame), cs = c :: cs0 → Steps P (lone (Frame.round l f tm as bd .normal) (c :: cs0) w) (lone (c.finish v') cs0 w')
def TgtOK (P : Program) (ρ : Rho) (tgt : ATgt) (vs : List Value) (w : World) (v' : Value) (w' : World) (kind : CallKind) (cs : List Frame) : Prop :=
  match tgt with
  | .fn f => FnOK P f vs w v' w' kind cs
  | .yield l => ∃ r, ρ l = some r ∧ RoundOK P r.blk vs w v' w' cs
def CFOK (P : Program) (C : Ctx) (σ : Env) (cf : CallF) : Prop :=
  ∀ tgt args H v H', cf tgt args H = some (v, H') → ∀ ρ w vs kind cs, HR C σ ρ H w → VRs σ ρ args vs → (kind = .normal ∨ ∀ f, tgt = .fn f → C.summed f = false) →
    ∃ ρ' v' w', VR σ ρ' v v' ∧ Post C σ ρ H w ρ' H' w' ∧ TgtOK P ρ tgt vs w v' w' kind cs
theorem Enters.leave {f : FuncId} {vs : List Value} {v' : Value} {c : Frame} {cs : List Frame} (h : Enters P f vs w v' w' .normal (c :: cs)) :
    Steps P (lone (Frame.enter P f vs.toArray .normal) (c :: cs) w) (lone (c.finish v') cs w') := by
  obtain ⟨fr, h1, h2, h3, h4, h5, fn, h6, h7⟩ := h
  refine h1.trans (.one (step_leave_returned ⟨h3, h4, h5, fn, by rw [h2]; exact h6, h7⟩))
section ops
variable {k : List Item} {cs : List Frame} {ops : Array Oper} {i : Nat} {rest : List Nat} {o : Oper} {v : AV}
theorem s_opCall (hf : CFOK P C σ cf) (hr : HR C σ ρ H w) (hx : FX C σ ρ fr b t d) {c : Call} {g : Operand} (hop : o.op = .call c) (hc : c.callee = .value g)
    (ho : ops[i]? = some o) (hw : Region.wanted o (yielded ops t) = true) (h : actA C cf fr o.op H = some (v, H')) :
    ∃ v' w' ρ', Steps P (lone (mkF b t (.inRegion ops (i :: rest) :: k) d) cs w) (lone (mkF b (putC t o.dst v') (.inRegion ops rest :: k) d) cs w') ∧
      VR σ ρ' v v' ∧ Post C σ ρ H w ρ' H' w' := by
  have hnd : ∀ c, o.op ≠ .defer c := by intro c e; rw [hop] at e; cases e
  rw [hop] at h
  simp only [actA, hc] at h
  obtain ⟨args, h1, h2⟩ := bind_some h
  obtain ⟨g', h3, h4⟩ := bind_some h2
  have hargs := hx.tm.evs hr h1
  have hg := hx.tm.ev hr h3
  cases g' <;> simp only at h4 <;> (try (cases h4; done))
  case func f first captured =>
    simp only [VR] at hg
    obtain ⟨a', c', e, ha, hc'⟩ := hg
    have hvs := (ha.append hargs).append hc'
    obtain ⟨ρ', v', w', hv, hpost, hT⟩ := hf _ _ _ _ _ h4 ρ w _ .normal (mkF b t (.inRegion ops (i :: rest) :: k) d :: cs) hr hvs (.inl rfl)
    have hres : (execOp (evC t) o).run P w = (callFunc f (a' ++ c.args.toList.map (evC t) ++ c').toArray).run P w := by
      have e2 : a'.toArray ++ c.args.map (evC t) ++ c'.toArray = (a' ++ c.args.toList.map (evC t) ++ c').toArray := by
        apply Array.toList_inj.1; simp
      rw [← e2]
      simp only [execOp, hop, resolve, hc, Deferred.ofValue, e, Sem.run_bind, Sem.run_pure, Result.andThen_ok, invoke]
    rcases hT with ⟨hcall, hent⟩ | hval
    · refine ⟨v', w', ρ', .head (s_opEnter ho hw hnd (by rw [hres]; exact hcall)) ?_, hv, hpost⟩
      rw [← finish_mkF (b := b) (k := k) (d := d) (t := t) (rest := rest) ho]
      exact hent.leave
    · exact ⟨v', w', ρ', .one (s_op ho hw hnd (by rw [hres]; exact hval) (.inl rfl)), hv, hpost⟩
  case yield l =>
    simp only [VR] at hg
    obtain ⟨r, hρ, e⟩ := hg
    obtain ⟨ρ', v', w', hv, hpost, hT⟩ := hf _ _ _ _ _ h4 ρ w _ .normal (mkF b t (.inRegion ops (i :: rest) :: k) d :: cs) hr hargs (.inl rfl)
    obtain ⟨r2, hρ2, f, tm, as, bd, hy, hs⟩ := hT
    rw [hρ] at hρ2; cases hρ2
    have hres : (execOp (evC t) o).run P w = (Instr.yield r.blk (c.args.toList.map (evC t)).toArray).run P w := by
      have e2 : c.args.map (evC t) = (c.args.toList.map (evC t)).toArray := by
        apply Array.toList_inj.1; simp
      rw [← e2]
      simp only [execOp, hop, resolve, hc, Deferred.ofValue, e, Sem.run_bind, Sem.run_pure, Result.andThen_ok, invoke]
      congr 2; simp
    refine ⟨v', w', ρ', .head (s_opRound ho hw hnd (by rw [hres]; exact hy)) ?_, hv, hpost⟩
    rw [← finish_mkF (b := b) (k := k) (d := d) (t := t) (rest := rest) ho]
    exact hs _ _ rfl
theorem run_opA (hC : COK P C σ) (hf : CFOK P C σ cf) (hr : HR C σ ρ H w) (hx : FX C σ ρ fr b t d) (ho : ops[i]? = some o)
    (hw : Region.wanted o (yielded ops t) = true) (h : opA C cf fr o H = some (fr', H')) :
    ∃ t' d' w' ρ', Steps P (lone (mkF b t (.inRegion ops (i :: rest) :: k) d) cs w) (lone (mkF b t' (.inRegion ops rest :: k) d') cs w') ∧
      FX C σ ρ' fr' b t' d' ∧ Post C σ ρ H w ρ' H' w' := by
  unfold opA at h
  rw [bif_ite] at h
  split at h
  · rename_i hs
    obtain ⟨v, h1, h2⟩ := bind_some h
    obtain ⟨fr2, h3, h4⟩ := map_some h2
    cases h4
    obtain ⟨v', hrun, hv⟩ := run_still hC hr hx.tm hs h1
    have hnd : ∀ c, o.op ≠ .defer c := by intro c e; rw [e] at hs; cases hs
    exact ⟨_, _, _, ρ, .one (s_op ho hw hnd hrun (.inl rfl)), hx.put hv h3, .refl hr⟩
  · rw [bif_ite] at h
    split at h
    · rename_i hfl
      obtain ⟨⟨v, ab⟩, h1, h2⟩ := bind_some h
      obtain ⟨fr2, h3, h4⟩ := map_some h2
      cases h4
      simp only at h3
      obtain ⟨v', o', size, hrun, hrel⟩ := run_float hC hr hx.tm h1
      have hnd : ∀ c, o.op ≠ .defer c := by intro c e; rw [e] at hfl; cases hfl
      have hext := hr.ext_upd (Nat.le_refl _) ⟨w.heap.size, 0, size⟩
      obtain ⟨hv, hB⟩ := hrel _ hext (upd_same _ _ _)
      refine ⟨_, _, _, upd ρ H.next ⟨w.heap.size, 0, size⟩, .one (s_op ho hw hnd hrun (.inl rfl)), (hx.mono hext).put hv h3, ?_⟩
      exact hr.new (by simp) (by simp) (fun j hj => by simp [Array.getElem?_push, Nat.ne_of_lt hj]) rfl rfl rfl hB
    · rw [bif_ite] at h
      split at h
      · rename_i hdf
        obtain ⟨df, h1, h2⟩ := bind_some h
        obtain ⟨fr2, h3, h4⟩ := map_some h2
        cases h4
        unfold deferA at h1
        split at h1 <;> (try (cases h1; done))
        rename_i c hop hrn
        obtain ⟨args, h5, h6⟩ := bind_some h1
        have hargs := hx.tm.evs hr h5
        split at h6 <;> (try (cases h6; done))
        rename_i g hcal
        obtain ⟨g', h7, h8⟩ := bind_some h6
        have hg := hx.tm.ev hr h7
        cases g' <;> simp only at h8 <;> (try (cases h8; done))
        rename_i f first captured
        cases h8
        simp only [VR] at hg
        obtain ⟨a', c', e, ha, hc'⟩ := hg
        have hrd : b.roundOf = none := by have := hx.rd; rw [hrn] at this; exact this
        have hrun : (execOp (evC t) o).run P w = .ok (.defer { target := .fn (.func f) c'.toArray, args := (a' ++ c.args.toList.map (evC t)).toArray }) w := by
          have e2 : a'.toArray ++ c.args.map (evC t) = (a' ++ c.args.toList.map (evC t)).toArray := by
            apply Array.toList_inj.1; simp
          rw [← e2]
          simp only [execOp, hop, resolve, hcal, Deferred.ofValue, e, Sem.run_bind, Sem.run_pure, Result.andThen_ok]
        refine ⟨_, _, _, ρ, .one (s_opDefer hrd ho hw hop hrun), ?_, .refl hr⟩
        refine FX.put (fr := { fr with defers := .inr ⟨f, first ++ args ++ captured⟩ :: fr.defers }) ⟨⟨hx.tm.ng, hx.tm.tr⟩, hx.fn, ?_, hx.rd⟩ VR.undef h3
        exact ⟨_, _, rfl, ⟨_, _, rfl, (ha.append hargs).append hc'⟩, hx.ds⟩
      · rename_i hdf
        obtain ⟨⟨v, H2⟩, h1, h2⟩ := bind_some h
        obtain ⟨fr2, h3, h4⟩ := map_some h2
        cases h4
        simp only at h3
        by_cases hcall : ∃ c g, o.op = .call c ∧ c.callee = .value g
        · obtain ⟨c, g, hop, hcal⟩ := hcall
          obtain ⟨v', w', ρ', hs, hv, hp⟩ := s_opCall (k := k) (cs := cs) (rest := rest) hf hr hx hop hcal ho hw h1
          exact ⟨_, _, w', ρ', hs, (hx.mono hp.ext).put hv h3, hp⟩
        · have hnd : ∀ c, o.op ≠ .defer c := by intro c e; rw [e] at hdf; exact hdf rfl
          obtain ⟨n, v', w', ρ', hrun, hn, hv, hp⟩ := run_act hC hr hx.tm (fun c f e1 e2 => hcall ⟨c, f, e1, e2⟩) h1
          exact ⟨_, _, w', ρ', .one (s_op ho hw hnd hrun hn), (hx.mono hp.ext).put hv h3, hp⟩
theorem run_seqA (hC : COK P C σ) (hf : CFOK P C σ cf) (ops : Array Oper) : ∀ (l : List Oper) (i : Nat) (fr : AFr) (t : Array Value) (d : List Deferred) (H : AH) (w : World) (ρ : Rho),
    ops.toList.drop i = l → seqA C cf ops.toList l fr H = some (fr', H') → HR C σ ρ H w → FX C σ ρ fr b t d →
    ∃ t' d' w' ρ', Steps P (lone (mkF b t (.inRegion ops (List.range' i l.length) :: k) d) cs w) (lone (mkF b t' (.inRegion ops [] :: k) d') cs w') ∧
      FX C σ ρ' fr' b t' d' ∧ Post C σ ρ H w ρ' H' w'
  | [], i, fr, t, d, H, w, ρ, _, h, hr, hx => by
    simp only [seqA] at h; cases h
    exact ⟨t, d, w, ρ, .refl _ _, hx, .refl hr⟩
  | o :: rest, i, fr, t, d, H, w, ρ, hl, h, hr, hx => by
    have ho : ops[i]? = some o := by
      have : ops.toList[i]? = some o := by rw [← List.head?_drop, hl]; rfl
      simpa using this
    have hl' : ops.toList.drop (i + 1) = rest := by rw [← List.tail_drop, hl]; rfl
    have hlen : List.range' i (o :: rest).length = i :: List.range' (i + 1) rest.length := by simp [List.range'_succ]
    rw [hlen]
    simp only [seqA] at h
    split at h
    · rename_i hwa
      have hw := wantedA_spec hx.tm hwa
      rw [Array.toArray_toList] at hw
      split at h
      · rename_i fr1 H1 h1
        obtain ⟨t1, d1, w1, ρ1, hs1, hx1, hp1⟩ := run_opA (k := k) (cs := cs) (rest := List.range' (i + 1) rest.length) hC hf hr hx ho hw h1
        obtain ⟨t2, d2, w2, ρ2, hs2, hx2, hp2⟩ := run_seqA hC hf ops rest (i + 1) fr1 t1 d1 H1 w1 ρ1 hl' h hp1.hr hx1
        exact ⟨t2, d2, w2, ρ2, hs1.trans hs2, hx2, hp1.trans hp2⟩
      · cases h
    · rename_i hwa
      have hw := wantedA_spec hx.tm hwa
      rw [Array.toArray_toList] at hw
      split at h
      · rename_i fr1 h1
        obtain ⟨t2, d2, w2, ρ2, hs2, hx2, hp2⟩ := run_seqA hC hf ops rest (i + 1) fr1 _ d H w ρ hl' h hr (hx.put VR.undef h1)
        exact ⟨t2, d2, w2, ρ2, .head (s_opSkip ho hw) hs2, hx2, hp2⟩
      · cases h
    · cases h
end ops
end Go.Sh
namespace Go.Sh
variable {σ : Env} {ρ ρ' : Rho} {C : Ctx} {H H' : AH} {w w' : World} {P : Program}
variable {fr fr' : AFr} {b : Frame} {t : Array Value} {d : List Deferred} {cf : CallF} {k : List Item} {cs : List Frame}
/-! one step each -/
theorem evC_const (v : Value) : evC t (.const v) = v := rfl
theorem s_rangeFunc {g : Operand} {ps : Array Tmp} {as bd : Code} {l : Nat} {mk : List Deferred} {w1 w2 : World} {n : Next}
    (h1 : (Instr.enterLoop b.fn t ps as bd b.roundOf).run P w = .ok (l, mk) w1)
    (h2 : ((do let dd ← Deferred.ofValue (evC t g) #[.func (.yield l) #[] #[]]; invoke dd.target dd.args) : Sem Next).run P w1 = .ok n w2) (m : Machine)
    (hn : (∃ f a, n = .enter f a ∧ m = lone (Frame.enter P f a .normal) (mkF b t (.inRangeFunc l :: k) (mk ++ d) :: cs) w2) ∨ ∃ v, n = .value v ∧ m = lone (mkF b t (.endRangeFunc l :: k) (mk ++ d)) cs w2) :
    step P (lone (mkF b t (.code (.rangeFunc g ps as bd) :: k) d) cs w) = .next m := by
  have he := eval_mkF (b := b) (t := t) (d := mk ++ d) (.inRangeFunc l :: k)
  simp only [mkF] at he
  rcases hn with ⟨f, a, rfl, rfl⟩ | ⟨v, rfl, rfl⟩
  all_goals
    refine step_lone_go ?_
    simp only [stepG, stepG.exec, mkF, Sem.runT_eq, h1, GStep.bare_after]
    simp only [stepG.apply, resolve, List.map_toArray, List.map, he, evC_const, if_true, Sem.runT_eq, h2, GStep.bare_after, GStep.bare_go, Frame.finish]
theorem s_endRangeFunc {l : Nat} {j : Option Code} (h : (Instr.endLoop l).run P w = .ok j w') :
    step P (lone (mkF b t (.endRangeFunc l :: k) d) cs w) = .next (lone (mkF b t ((j.map Item.code).toList ++ k) d) cs w') :=
  step_lone_go (by simp [stepG, stepG.exec, mkF, h])
theorem s_beginRound {l : Nat} (hb : b.roundOf = some l) (h : (Instr.beginRound l).run P w = .ok () w') :
    step P (lone (mkF b t (.beginRound :: k) d) cs w) = .next (lone (mkF b t k d) cs w') := by
  refine step_lone_go ?_
  simp [stepG, stepG.exec, stepG.apply, mkF, hb, h, Sem.run_bind, Frame.finish]

theorem s_leaveRet (hb : b.roundOf = none) : step P (lone (mkF b t [] d) cs w) = .next (lone { mkF b t [] d with mode := .returning } cs w) :=
  step_lone_go (by simp [stepG, stepG.exec, mkF, hb])
theorem s_leaveRet' (hb : b.roundOf = none) : step P (lone (mkF b t (.code .ret :: k) d) cs w) = .next (lone { mkF b t (.code .ret :: k) d with mode := .returning } cs w) :=
  step_lone_go (by simp [stepG, stepG.exec, mkF, hb])
/-- how a round is left -/
inductive Lv : AX → List Item → Option Code → Prop where
  | normal : Lv .normal [] none
  | ret (k : List Item) : Lv .ret (.code .ret :: k) (some .ret)
  | exit (id : Nat) (k : List Item) : exitTo id k = none → Lv (.exit id) (.code (.exit id) :: k) (some (.exit id))
  | goto (l : Nat) (k : List Item) : gotoIn l k = none → Lv (.goto l) (.code (.goto l) :: k) (some (.goto l))
theorem s_leaveRound {x : AX} {l : Nat} {j : Option Code} {v : Value} {c : Frame} (hl : Lv x k j) (hb : b.roundOf = some l) (hk : b.kind = .normal) (h : (Instr.endRound l j).run P w = .ok v w') :
    step P (lone (mkF b t k d) (c :: cs) w) = .next (lone (c.finish v) cs w') := by
  refine step_lone_go ?_
  cases hl with
  | normal => simp [stepG, stepG.exec, mkF, hb, h, doReturn, hk]
  | ret k => simp [stepG, stepG.exec, mkF, hb, h, doReturn, hk]
  | exit id k e => simp [stepG, stepG.exec, mkF, hb, h, doReturn, hk, e]
  | goto l k e => simp [stepG, stepG.exec, mkF, hb, h, doReturn, hk, e]
theorem s_collected {fr0 : Frame} {bl : Nat} {ds : List Deferred} {a : Array Value} (hm : fr0.mode = .returning) (hd : fr0.defers = { target := .collected bl, args := a } :: ds)
    (h : (Instr.takeDeferred bl).run P w = .ok [] w') : step P (lone fr0 cs w) = .next (lone { fr0 with defers := ds } cs w') := by
  refine step_lone_go ?_
  simp [stepG, unwind, hm, hd, h]
theorem s_deferValue {fr0 : Frame} {f : FuncId} {cap a : Array Value} {ds : List Deferred} {v : Value} (hm : fr0.mode = .returning) (hd : fr0.defers = { target := .fn (.func f) cap, args := a } :: ds)
    (h : (callFunc f (a ++ cap)).run P w = .ok (.value v) w') : step P (lone fr0 cs w) = .next (lone { fr0 with defers := ds } cs w') := by
  refine step_lone_go ?_
  simp [stepG, unwind, hm, hd, callDeferred, invoke, h]
/-! what is put off -/
theorem run_defers (hf : CFOK P C σ cf) : ∀ (fuel : Nat) (as : List (Sum Nat ADef)) (H : AH) (w : World) (ρ : Rho) (ds : List Deferred) (fr0 : Frame), runDefers C.summed cf fuel as H = some H' →
    HR C σ ρ H w → DRs σ ρ as ds → fr0.mode = .returning → fr0.defers = ds →
    ∃ w' ρ', Steps P (lone fr0 cs w) (lone { fr0 with defers := [] } cs w') ∧ Post C σ ρ H w ρ' H' w'
  | _, [], H, w, ρ, ds, fr0, h, hr, hd, hm, hds => by
    simp only [DRs] at hd; subst hd
    have : H = H' := by cases fuel_irrel : (0 : Nat) <;> simp_all [runDefers]
    subst this
    refine ⟨w, ρ, ?_, .refl hr⟩
    have : { fr0 with defers := [] } = fr0 := by rw [← hds]
    rw [this]; exact .refl _ _
  | 0, _ :: _, H, w, ρ, ds, fr0, h, hr, hd, hm, hds => by simp [runDefers] at h
  | fuel + 1, .inl r :: as, H, w, ρ, ds, fr0, h, hr, hd, hm, hds => by
    simp only [DRs, DR] at hd
    obtain ⟨d1, ds', rfl, ⟨r', hρ, rfl⟩, hd2⟩ := hd
    simp only [runDefers] at h
    split at h
    · rename_i hg
      obtain ⟨r2, o, e1, e2, e3⟩ := hr.live r _ hg
      rw [hρ] at e1; cases e1
      simp only [BR] at e3
      obtain ⟨_, rfl⟩ := e3
      have hp := hr.killput (w' := w.putObj r'.blk (.deferred none)) hg hρ (by simp) (fun j hj => World.putObj_heap_other hj) rfl rfl rfl
      obtain ⟨w2, ρ2, hs, hp2⟩ := run_defers hf fuel as _ _ ρ ds' { fr0 with defers := ds' } h hp.hr hd2 hm rfl
      exact ⟨w2, ρ2, .head (s_collected hm hds (run_takeDeferred e2)) hs, hp.trans hp2⟩
    · cases h
  | fuel + 1, .inr e :: as, H, w, ρ, ds, fr0, h, hr, hd, hm, hds => by
    simp only [DRs, DR] at hd
    obtain ⟨d1, ds', rfl, ⟨a0, cap, rfl, hvs⟩, hd2⟩ := hd
    simp only [runDefers] at h
    obtain ⟨hsm, h⟩ := bif_none h
    split at h
    · rename_i v1 H1 hg
      obtain ⟨ρ1, v', w1, hv, hp, hT⟩ := hf _ _ _ _ _ hg ρ w _ .deferred ({ fr0 with defers := ds' } :: cs) hr hvs (.inr fun f e => by cases e; exact hsm)
      obtain ⟨w2, ρ2, hs, hp2⟩ := run_defers hf fuel as _ _ ρ1 ds' { fr0 with defers := ds' } h hp.hr (hd2.mono hp.ext) hm rfl
      refine ⟨w2, ρ2, ?_, hp.trans hp2⟩
      have ea : a0.toArray ++ cap.toArray = (a0 ++ cap).toArray := by simp
      rcases hT with ⟨hc, hen⟩ | hc
      · obtain ⟨fr1, h1, h2, h3, h4, h5, fn, h6, h7⟩ := hen
        refine .head (step_defer (by rw [hm]; simp) hds rfl (by simp only [invoke]; rw [ea]; exact hc)) (h1.trans (.head ?_ hs))
        have := step_going_returned (P := P) (fr := fr1) (c := { fr0 with defers := ds' }) (cs := cs) (w := w1) (v := v') h5 ⟨h3, h4, fn, by rw [h2]; exact h6, h7⟩
        rw [this]
        simp [settle, hm]
      · exact .head (s_deferValue hm hds (by rw [ea]; exact hc)) hs
    · cases h
end Go.Sh
namespace Go.Sh
variable {σ : Env} {ρ ρ' : Rho} {C : Ctx} {H H' : AH} {w w' : World} {P : Program}
variable {fr fr' : AFr} {b : Frame} {t : Array Value} {d : List Deferred} {cf : CallF} {k : List Item} {cs : List Frame}
/-- The tables are the program's; the summaries hold. -/
structure FOK (P : Program) (C : Ctx) (σ : Env) : Prop where
  fn : ∀ f fi, C.fn.get f = some fi → ∃ fn, P.funcs[f]? = some fn ∧ fn.body = some fi.body ∧ fn.ntmps = fi.ntmps ∧ fn.results.toList = fi.results ∧ (fn.name == "runtime.NumGoroutine") = false
  sum : ∀ f args H v H', C.summed f = true → C.sum f args H = some (v, H') → ∀ ρ w vs cs, HR C σ ρ H w → VRs σ ρ args vs →
    ∃ ρ' v' w', VR σ ρ' v v' ∧ Post C σ ρ H w ρ' H' w' ∧ FnOK P f vs w v' w' .normal cs
theorem run_callFunc {f : FuncId} {fn : Func} {bd : Code} (h : P.funcs[f]? = some fn) (hb : fn.body = some bd) (hn : (fn.name == "runtime.NumGoroutine") = false) (args : Array Value) (w : World) :
    (callFunc f args).run P w = .ok (.enter f args) w := by
  have hn' : fn.name ≠ "runtime.NumGoroutine" := by intro e; rw [e] at hn; simp at hn
  simp [callFunc, program, Sem.run_bind, Sem.run, Result.andThen, h, hb, hn']
/-! results -/
theorem run_resultsL (hC : COK P C σ) (hr : HR C σ ρ H w) (hx : FR C σ ρ fr t) : ∀ (l : List ResultVar) (vs : List AV), resultOf C fr H l = some vs →
    ∃ vs', (l.mapM (fun r => (match r with | .tmp q => pure (t.getD q undef) | .cell a q => do loadVar q (← asAddr (t.getD a undef)) : Sem Value))).run P w = .ok vs' w ∧ VRs σ ρ vs vs'
  | [], vs, h => by
    simp [resultOf] at h; subst h
    exact ⟨[], by simp [Sem.run_pure], VRs.nil⟩
  | .tmp q :: rest, vs, h => by
    simp only [resultOf] at h
    obtain ⟨vs1, h1, rfl⟩ := map_some h
    obtain ⟨vs', h2, h3⟩ := run_resultsL hC hr hx rest vs1 h1
    refine ⟨t.getD q undef :: vs', ?_, VRs.cons (hx.tmp q) h3⟩
    rw [List.mapM_cons]
    simp only [Sem.run_bind, Sem.run_pure, Result.andThen_ok, h2]
  | .cell a q :: rest, vs, h => by
    simp only [resultOf] at h
    obtain ⟨v, h0, h4⟩ := bind_some h
    obtain ⟨vs1, h1, rfl⟩ := map_some h4
    obtain ⟨vs', h2, h3⟩ := run_resultsL hC hr hx rest vs1 h1
    have ha := hx.tmp a
    split at h0 <;> (try (cases h0; done))
    rename_i bl o he
    rw [he] at ha
    simp only [VR] at ha
    obtain ⟨r, hρ, e⟩ := ha
    obtain ⟨v', h5, h6⟩ := run_loadVarA hC hr h0 hρ
    refine ⟨v' :: vs', ?_, VRs.cons h6 h3⟩
    have ha2 : (asAddr (t.getD a undef)).run P w = .ok ⟨r.blk, r.shift + o, none⟩ w := by rw [e]; rfl
    rw [List.mapM_cons]
    simp only [Sem.run_bind, Sem.run_pure, Result.andThen_ok, h2, h5, ha2]
theorem VRs.tupled {vs : List AV} {vs' : List Value} (h : VRs σ ρ vs vs') : VR σ ρ (tupled vs) (if h : vs'.toArray.size = 1 then vs'.toArray[0] else .tuple vs'.toArray) := by
  have hl := h.length
  match vs, vs', h, hl with
  | [], [], h, _ => simp only [Go.Sh.tupled]; exact VR.tup VRs.nil
  | [x], [y], h, _ => simp only [VRs] at h; obtain ⟨_, _, e, h1, _⟩ := h; cases e; simpa [Go.Sh.tupled] using h1
  | x :: x2 :: xs, y :: y2 :: ys, h, _ =>
    have : ¬ (y :: y2 :: ys).toArray.size = 1 := by simp
    rw [dif_neg this]
    exact VR.tup h
theorem run_resultsA (hC : COK P C σ) (hr : HR C σ ρ H w) (hx : FR C σ ρ fr t) {fn : Func} {vs : List AV} (h : resultOf C fr H fn.results.toList = some vs) :
    ∃ v', (results fn t).run P w = .ok v' w ∧ VR σ ρ (tupled vs) v' := by
  obtain ⟨vs', h1, h2⟩ := run_resultsL hC hr hx _ _ h
  refine ⟨_, ?_, h2.tupled⟩
  unfold results
  rw [Sem.run_bind, Array.mapM_eq_mapM_toList, Sem.run_map]
  have h3 := congrArg (fun r => (Result.andThen r fun a w' => Result.ok (List.toArray a) w')) h1
  simp only [Result.andThen_ok] at h3
  refine (congrArg (fun r => Result.andThen r _) h3).trans ?_
  simp only [Result.andThen_ok, Sem.run_pure]
/-! frames -/
theorem ofList_get {α : Type} : ∀ (l : List α) (i : Nat) (t : T α) (j : Nat), (T.ofList l i t).get j = if i ≤ j ∧ j < i + l.length then l[j - i]? else t.get j
  | [], i, t, j => by rw [if_neg (by simp; try omega)]; rfl
  | x :: xs, i, t, j => by
    simp only [T.ofList]
    rw [ofList_get xs (i + 1), T.get_set]
    by_cases h1 : j = i
    · subst h1
      rw [if_neg (by omega), if_pos rfl, if_pos (by simp)]; simp
    · by_cases h2 : i + 1 ≤ j ∧ j < i + 1 + xs.length
      · rw [if_pos h2, if_pos (by simp; omega)]
        rw [show j - i = (j - (i + 1)) + 1 by omega]; simp
      · rw [if_neg h2, if_neg h1, if_neg (by simp; omega)]
theorem frameOf_tr {f : FuncId} {fi : FI} {args : List AV} {vs : List Value} (h : VRs σ ρ args vs) :
    FR C σ ρ (frameOf C f fi args) (vs.toArray ++ Array.replicate (fi.ntmps - vs.toArray.size) undef) := by
  have hl := h.length
  refine ⟨rfl, ?_, fun i v hv => ?_, fun i hi => ?_⟩
  · simp [frameOf]; omega
  · simp only [frameOf, T.at, ofList_get]
    by_cases hi : i < args.length
    · rw [if_pos (by omega)]
      obtain ⟨y, h1, h2⟩ := h.get i (List.getElem?_eq_getElem hi)
      have : (vs.toArray ++ Array.replicate (fi.ntmps - vs.toArray.size) undef)[i]? = some y := by
        rw [Array.getElem?_append_left (by simp; omega)]; simpa using h1
      rw [this] at hv; cases hv
      simp only [Nat.sub_zero, List.getElem?_eq_getElem hi]
      exact h2
    · rw [if_neg (by omega)]
      rw [Array.getElem?_append_right (by simp; omega)] at hv
      simp [Array.getElem?_replicate] at hv
      rw [← hv.2]
      exact VR.undef
  · simp only [frameOf] at hi ⊢
    rw [ofList_get, if_neg (by omega)]; rfl
theorem assignP_tr : ∀ (ps : List Tmp) (args : List AV) (ts : T AV) (n : Nat) (ts' : T AV) (vs : List Value) (arr : Array Value), assignP ps args ts n = some ts' → VRs σ ρ args vs → TR σ ρ ts n arr →
    vs.length = ps.length ∧ TR σ ρ ts' n ((ps.zip vs).foldl (fun tmps (q, a) => tmps.setIfInBounds q a) arr)
  | [], [], ts, n, ts', vs, arr, h, hv, ht => by
    simp only [assignP] at h; cases h
    simp only [VRs] at hv; subst hv
    exact ⟨rfl, ht⟩
  | p :: ps, v :: args, ts, n, ts', vs, arr, h, hv, ht => by
    simp only [assignP] at h
    obtain ⟨hlt, h⟩ := bif_some h
    simp only [VRs] at hv
    obtain ⟨y, ys, rfl, hy, hys⟩ := hv
    have hp := FR.put (C := ⟨0, .e, .e, fun _ _ _ => none, fun _ => false, [], [], [], [], [], [], fun _ _ _ => false⟩) (fr := ⟨0, 0, ts, n, [], none⟩) (fr' := ⟨0, 0, ts.set p v, n, [], none⟩) (dst := some p) ⟨rfl, ht⟩ hy (by simp only [AFr.put, bif_ite]; rw [if_pos hlt])
    obtain ⟨h1, h2⟩ := assignP_tr ps args _ n ts' ys _ h hys hp.tr
    exact ⟨by simp [h1], h2⟩
  | [], _ :: _, ts, n, ts', vs, arr, h, hv, ht => by simp [assignP] at h
  | _ :: _, [], ts, n, ts', vs, arr, h, hv, ht => by simp [assignP] at h
end Go.Sh
namespace Go.Sh
variable {σ : Env} {ρ ρ' : Rho} {C : Ctx} {H H' : AH} {w w' : World} {P : Program}
variable {fr fr' : AFr} {b : Frame} {t : Array Value} {d : List Deferred} {cf : CallF} {k : List Item} {cs : List Frame}
/-! where code arrives -/
def Arr (P : Program) (b : Frame) (k : List Item) (cs : List Frame) (x : AX) (m : Machine) (t' : Array Value) (d' : List Deferred) (w' : World) : Prop :=
  match x with
  | .normal => Steps P m (lone (mkF b t' k d') cs w')
  | .exit id => ∃ k2, Steps P m (lone (mkF b t' (.code (.exit id) :: k2) d') cs w') ∧ exitTo id k2 = exitTo id k
  | .goto l => ∃ k2, Steps P m (lone (mkF b t' (.code (.goto l) :: k2) d') cs w') ∧ gotoIn l k2 = gotoIn l k
  | .ret => ∃ k2, Steps P m (lone (mkF b t' (.code .ret :: k2) d') cs w')
theorem Arr.of_steps {x : AX} {m m1 : Machine} {t' : Array Value} {d' : List Deferred} (h : Steps P m m1) (ha : Arr P b k cs x m1 t' d' w') : Arr P b k cs x m t' d' w' := by
  cases x with
  | normal => exact Steps.trans h ha
  | exit id => obtain ⟨k2, h1, h2⟩ := ha; exact ⟨k2, h.trans h1, h2⟩
  | goto l => obtain ⟨k2, h1, h2⟩ := ha; exact ⟨k2, h.trans h1, h2⟩
  | ret => obtain ⟨k2, h1⟩ := ha; exact ⟨k2, h.trans h1⟩
/-- another road behind it -/
theorem Arr.over {x : AX} {m : Machine} {t' : Array Value} {d' : List Deferred} {k1 : List Item} (ha : Arr P b k1 cs x m t' d' w') (hn : x ≠ .normal)
    (h1 : ∀ id, x = .exit id → exitTo id k1 = exitTo id k) (h2 : ∀ l, x = .goto l → gotoIn l k1 = gotoIn l k) : Arr P b k cs x m t' d' w' := by
  cases x with
  | normal => exact absurd rfl hn
  | exit id => obtain ⟨k2, e1, e2⟩ := ha; exact ⟨k2, e1, e2.trans (h1 id rfl)⟩
  | goto l => obtain ⟨k2, e1, e2⟩ := ha; exact ⟨k2, e1, e2.trans (h2 l rfl)⟩
  | ret => exact ha
theorem Arr.step {x : AX} {m m1 : Machine} {t' : Array Value} {d' : List Deferred} (h : Go.step P m = .next m1) (ha : Arr P b k cs x m1 t' d' w') : Arr P b k cs x m t' d' w' := ha.of_steps (.one h)
/-! a loop over a function -/
theorem run_enterLoopA (hr : HR C σ ρ H w) (hx : FX C σ ρ fr b t d) {ps : Array Tmp} {as bd : Code} {l : Nat} (h : enterLoopA fr H ps.toList as bd = some (l, fr', H')) :
    ∃ lb mk w' ρ', (Instr.enterLoop b.fn t ps as bd b.roundOf).run P w = .ok (lb, mk) w' ∧ Post C σ ρ H w ρ' H' w' ∧ FX C σ ρ' fr' b t (mk ++ d) ∧ ∃ r, ρ' l = some r ∧ r.blk = lb := by
  unfold enterLoopA at h
  have hrd := hx.rd
  split at h
  · rename_i hrn
    rw [hrn] at hrd
    simp only at hrd
    simp only [Option.some.injEq, Prod.mk.injEq] at h
    obtain ⟨rfl, rfl, rfl⟩ := h
    have hp1 := hr.newObj (ab := .dfr) (o := .deferred (some [])) (fun ρ' _ => ⟨rfl, rfl⟩)
    have hx1 := hx.mono hp1.ext
    have hp2 := hp1.hr.newObj (ab := .loop ⟨.ready, none, fr.fn, fr.tmps, fr.n, ps.toList, as, bd, H.next⟩)
      (o := .loop { state := .ready, pending := none, fn := b.fn, tmps := t, params := ps, assign := as, body := bd, defers := w.heap.size })
      (fun ρ' he => ⟨rfl, _, rfl, ⟨rfl, rfl, hx.fn, hx1.tm.tr.mono he, rfl, rfl, rfl, ⟨_, he _ _ (upd_same _ _ _), rfl⟩⟩⟩)
    have hx2 := hx1.mono hp2.ext
    refine ⟨_, _, _, _, by rw [hrd]; exact run_enterLoop_outer _ _ _ _ _, hp1.trans hp2, ⟨⟨hx2.tm.ng, hx2.tm.tr⟩, hx2.fn, ⟨_, _, rfl, ⟨_, hp2.ext _ _ (upd_same _ _ _), rfl⟩, hx2.ds⟩, hx2.rd⟩, _, upd_same _ _ _, ?_⟩
    simp
  · rename_i l0 hrn
    rw [hrn] at hrd
    simp only at hrd
    obtain ⟨r0, hρ0, hb0⟩ := hrd
    split at h <;> (try (cases h; done))
    rename_i r hg
    simp only [Option.some.injEq, Prod.mk.injEq] at h
    obtain ⟨rfl, rfl, rfl⟩ := h
    obtain ⟨r1, o, e1, e2, e3⟩ := hr.live l0 _ hg
    rw [hρ0] at e1; cases e1
    simp only [BR] at e3
    obtain ⟨_, l', rfl, hl⟩ := e3
    have hp2 := hr.newObj (ab := .loop ⟨.ready, none, fr.fn, fr.tmps, fr.n, ps.toList, as, bd, r.defers⟩)
      (o := .loop { state := .ready, pending := none, fn := b.fn, tmps := t, params := ps, assign := as, body := bd, defers := l'.defers })
      (fun ρ' he => ⟨rfl, _, rfl, ⟨rfl, rfl, hx.fn, hx.tm.tr.mono he, rfl, rfl, rfl, by obtain ⟨q, q1, q2⟩ := hl.defers; exact ⟨q, he _ _ q1, q2⟩⟩⟩)
    exact ⟨_, [], _, _, by rw [hb0]; exact run_enterLoop_inner e2 _ _ _ _ _, hp2, hx.mono hp2.ext, _, upd_same _ _ _, rfl⟩
def DrawSound (P : Program) (C : Ctx) (σ : Env) : Prop := ∀ (cf : CallF), CFOK P C σ cf → ∀ (ops : Array Oper) (fr : AFr) (H : AH) (fr' : AFr) (H' : AH), drawnA C cf ops.toList fr H = some (fr', H') →
  ∀ (ρ : Rho) (w : World) (b : Frame) (t : Array Value) (d : List Deferred) (k : List Item) (cs : List Frame) (id : Nat), HR C σ ρ H w → FX C σ ρ fr b t d →
    ∃ t' d' w' ρ', Steps P (lone (mkF b t (.code (.region id ops true) :: k) d) cs w) (lone (mkF b t' k d') cs w') ∧ FX C σ ρ' fr' b t' d' ∧ Post C σ ρ H w ρ' H' w'
def ExecOK (P : Program) (C : Ctx) (σ : Env) (cf : CallF) (f : Nat) : Prop := ∀ (b : Frame) (cs : List Frame) (c : Code) (fr : AFr) (t : Array Value) (d : List Deferred) (H : AH) (w : World) (ρ : Rho) (k : List Item) (x : AX) (fr' : AFr) (H' : AH),
  execA C cf f c fr H = some (x, fr', H') → HR C σ ρ H w → FX C σ ρ fr b t d →
    ∃ t' d' w' ρ', Arr P b k cs x (lone (mkF b t (.code c :: k) d) cs w) t' d' w' ∧ FX C σ ρ' fr' b t' d' ∧ Post C σ ρ H w ρ' H' w'
def ScopeOK (P : Program) (C : Ctx) (σ : Env) (cf : CallF) (f : Nat) : Prop := ∀ (b : Frame) (cs : List Frame) (c : Code) (l : Nat) (fr : AFr) (t : Array Value) (d : List Deferred) (H : AH) (w : World) (ρ : Rho) (k k0 : List Item) (x : AX) (fr' : AFr) (H' : AH),
  execA.scopeA C cf f c l fr H = some (x, fr', H') → HR C σ ρ H w → FX C σ ρ fr b t d → gotoIn l k0 = gotoIn l (.inScope c :: k) →
    ∃ t' d' w' ρ', Arr P b k cs x (lone (mkF b t (.code (.goto l) :: k0) d) cs w) t' d' w' ∧ FX C σ ρ' fr' b t' d' ∧ Post C σ ρ H w ρ' H' w'
def LoopOK (P : Program) (C : Ctx) (σ : Env) (cf : CallF) (f : Nat) : Prop := ∀ (b : Frame) (cs : List Frame) (c : Code) (fr : AFr) (t : Array Value) (d : List Deferred) (H : AH) (w : World) (ρ : Rho) (k : List Item) (x : AX) (fr' : AFr) (H' : AH),
  execA C cf f (.loop c) fr H = some (x, fr', H') → HR C σ ρ H w → FX C σ ρ fr b t d →
    ∃ t' d' w' ρ', Arr P b k cs x (lone (mkF b t (.inLoop c :: k) d) cs w) t' d' w' ∧ FX C σ ρ' fr' b t' d' ∧ Post C σ ρ H w ρ' H' w'
theorem loop_step {f : Nat} (ihE : ExecOK P C σ cf f) (ihL : LoopOK P C σ cf f) {c : Code} {x : AX} {m : Machine} (h : execA C cf (f + 1) (.loop c) fr H = some (x, fr', H')) (hr : HR C σ ρ H w) (hx : FX C σ ρ fr b t d)
    (hm : step P m = .next (lone (mkF b t (.code c :: .inLoop c :: k) d) cs w)) :
    ∃ t' d' w' ρ', Arr P b k cs x m t' d' w' ∧ FX C σ ρ' fr' b t' d' ∧ Post C σ ρ H w ρ' H' w' := by
  simp only [execA] at h
  cases hq : execA C cf f c fr H with
  | none => rw [hq] at h; cases h
  | some r =>
    obtain ⟨x1, fr1, H1⟩ := r
    rw [hq] at h
    obtain ⟨t1, d1, w1, ρ1, ha, hx1, hp⟩ := ihE b cs c fr t d H w ρ (.inLoop c :: k) x1 fr1 H1 hq hr hx
    have ha := ha.step hm
    cases x1 with
    | normal =>
      simp only at h
      obtain ⟨t2, d2, w2, ρ2, ha2, hx2, hp2⟩ := ihL b cs c fr1 t1 d1 H1 w1 ρ1 k x fr' H' h hp.hr hx1
      exact ⟨t2, d2, w2, ρ2, ha2.of_steps ha, hx2, hp.trans hp2⟩
    | _ =>
      simp only at h; cases h
      exact ⟨t1, d1, w1, ρ1, ha.over (by simp) (fun _ _ => rfl) (fun _ _ => rfl), hx1, hp⟩
theorem exec_step (hC : COK P C σ) (hD : DrawSound P C σ) (hf : CFOK P C σ cf) (f : Nat) (ihE : ExecOK P C σ cf f) (ihS : ScopeOK P C σ cf f) (ihL : LoopOK P C σ cf f) : ExecOK P C σ cf (f + 1) := by
  intro b cs c fr t d H w ρ k x fr' H' h hr hx
  cases c with
  | skip => simp only [execA] at h; cases h; exact ⟨t, d, w, ρ, .one s_skip, hx, .refl hr⟩
  | label l => simp only [execA] at h; cases h; exact ⟨t, d, w, ρ, .one s_label, hx, .refl hr⟩
  | region id ops draw =>
    simp only [execA, bif_ite] at h
    split at h
    · rename_i hd
      subst hd
      obtain ⟨⟨fr1, H1⟩, h1, h2⟩ := map_some h
      cases h2
      exact hD cf hf ops fr H fr1 H1 h1 ρ w b t d k cs id hr hx
    · rename_i hd
      have hd : draw = false := by simpa using hd
      subst hd
      obtain ⟨⟨fr1, H1⟩, h1, h2⟩ := map_some h
      cases h2
      obtain ⟨t1, d1, w1, ρ1, hs, hx1, hp⟩ := run_seqA (k := k) (cs := cs) (b := b) hC hf ops ops.toList 0 fr t d H w ρ (by simp) h1 hr hx
      refine ⟨t1, d1, w1, ρ1, ?_, hx1, hp⟩
      have : List.range ops.size = List.range' 0 ops.toList.length := by simp [List.range_eq_range']
      exact .head s_region (by rw [this]; exact hs.trans (.one s_regionEnd))
  | seq a c =>
    simp only [execA] at h
    cases hq : execA C cf f a fr H with
    | none => rw [hq] at h; cases h
    | some r =>
      obtain ⟨x1, fr1, H1⟩ := r
      rw [hq] at h
      obtain ⟨t1, d1, w1, ρ1, ha, hx1, hp⟩ := ihE b cs a fr t d H w ρ (.code c :: k) x1 fr1 H1 hq hr hx
      cases x1 with
      | normal =>
        simp only at h
        obtain ⟨t2, d2, w2, ρ2, ha2, hx2, hp2⟩ := ihE b cs c fr1 t1 d1 H1 w1 ρ1 k x fr' H' h hp.hr hx1
        exact ⟨t2, d2, w2, ρ2, ha2.of_steps (.head s_seq ha), hx2, hp.trans hp2⟩
      | _ =>
        simp only at h; cases h
        exact ⟨t1, d1, w1, ρ1, (ha.step s_seq).over (by simp) (fun _ _ => rfl) (fun _ _ => rfl), hx1, hp⟩
  | cond c a e =>
    simp only [execA] at h
    cases hq : fr.ev c with
    | none => rw [hq] at h; cases h
    | some q =>
      rw [hq] at h
      cases q <;> simp only at h <;> (try (cases h; done))
      rename_i q
      have hv := hx.tm.ev hr hq
      simp only [VR] at hv
      obtain ⟨t1, d1, w1, ρ1, ha, hx1, hp⟩ := ihE b cs _ fr t d H w ρ k x fr' H' h hr hx
      refine ⟨t1, d1, w1, ρ1, ha.step ?_, hx1, hp⟩
      rw [s_cond hv]
      cases q <;> rfl
  | block id c =>
    simp only [execA] at h
    cases hq : execA C cf f c fr H with
    | none => rw [hq] at h; cases h
    | some r =>
      obtain ⟨x1, fr1, H1⟩ := r
      rw [hq] at h
      obtain ⟨t1, d1, w1, ρ1, ha, hx1, hp⟩ := ihE b cs c fr t d H w ρ (.inBlock id :: k) x1 fr1 H1 hq hr hx
      have ha := ha.step (s_block (P := P) (b := b) (t := t) (k := k) (d := d) (cs := cs) (w := w) (id := id) (c := c))
      cases x1 with
      | normal =>
        simp only at h; cases h
        exact ⟨t1, d1, w1, ρ1, Steps.trans ha (.one s_inBlock), hx1, hp⟩
      | exit i =>
        simp only [bif_ite] at h
        split at h
        · rename_i he
          have he : id = i := Nat.eq_of_beq_eq_true he
          subst he
          cases h
          obtain ⟨k2, hs, hk⟩ := ha
          exact ⟨t1, d1, w1, ρ1, Steps.trans hs (.one (s_exit (by rw [hk]; simp [exitTo]))), hx1, hp⟩
        · rename_i he
          cases h
          refine ⟨t1, d1, w1, ρ1, ha.over (by simp) (fun j e => ?_) (fun _ _ => rfl), hx1, hp⟩
          cases e
          have : ¬ id = i := fun e => he (by rw [e]; exact Nat.beq_refl i)
          simp [exitTo, this]
      | goto l =>
        simp only at h; cases h
        exact ⟨t1, d1, w1, ρ1, ha.over (by simp) (fun _ e => by cases e) (fun _ _ => rfl), hx1, hp⟩
      | ret =>
        simp only at h; cases h
        exact ⟨t1, d1, w1, ρ1, ha.over (by simp) (fun _ e => by cases e) (fun _ e => by cases e), hx1, hp⟩
  | loop c => exact loop_step ihE ihL h hr hx s_loop
  | scope c =>
    simp only [execA] at h
    cases hq : execA C cf f c fr H with
    | none => rw [hq] at h; cases h
    | some r =>
      obtain ⟨x1, fr1, H1⟩ := r
      rw [hq] at h
      obtain ⟨t1, d1, w1, ρ1, ha, hx1, hp⟩ := ihE b cs c fr t d H w ρ (.inScope c :: k) x1 fr1 H1 hq hr hx
      have ha := ha.step (s_scope (P := P) (b := b) (t := t) (k := k) (d := d) (cs := cs) (w := w) (c := c))
      cases x1 with
      | normal =>
        simp only at h; cases h
        exact ⟨t1, d1, w1, ρ1, Steps.trans ha (.one s_inScope), hx1, hp⟩
      | goto l =>
        simp only at h
        obtain ⟨k2, hs, hk⟩ := ha
        obtain ⟨t2, d2, w2, ρ2, ha2, hx2, hp2⟩ := ihS b cs c l fr1 t1 d1 H1 w1 ρ1 k k2 x fr' H' h hp.hr hx1 hk
        exact ⟨t2, d2, w2, ρ2, ha2.of_steps hs, hx2, hp.trans hp2⟩
      | exit i =>
        simp only at h; cases h
        exact ⟨t1, d1, w1, ρ1, ha.over (by simp) (fun _ _ => rfl) (fun _ e => by cases e), hx1, hp⟩
      | ret =>
        simp only at h; cases h
        exact ⟨t1, d1, w1, ρ1, ha.over (by simp) (fun _ e => by cases e) (fun _ e => by cases e), hx1, hp⟩
  | exit id => simp only [execA] at h; cases h; exact ⟨t, d, w, ρ, ⟨k, .refl _ _, rfl⟩, hx, .refl hr⟩
  | goto l => simp only [execA] at h; cases h; exact ⟨t, d, w, ρ, ⟨k, .refl _ _, rfl⟩, hx, .refl hr⟩
  | ret => simp only [execA] at h; cases h; exact ⟨t, d, w, ρ, ⟨k, .refl _ _⟩, hx, .refl hr⟩
  | refuse why => simp only [execA] at h; cases h
  | rangeFunc g ps as bd =>
    simp only [execA] at h
    obtain ⟨⟨l, fr1, H1⟩, h1, h2⟩ := bind_some h
    obtain ⟨lb, mk, w1, ρ1, hrun, hp1, hx1, r, hρl, rfl⟩ := run_enterLoopA hr hx h1
    obtain ⟨g', h3, h4⟩ := bind_some h2
    obtain ⟨⟨v2, H2⟩, h5, h6⟩ := bind_some h4
    simp only at h5 h6 h3
    have hg := hx1.tm.ev hp1.hr h3
    cases g' <;> simp only at h5 <;> (try (cases h5; done))
    rename_i gf first captured
    simp only [VR] at hg
    obtain ⟨a', c', e, ha, hc'⟩ := hg
    have hy : VRs σ ρ1 [AV.yield l] [.func (.yield r.blk) #[] #[]] := VRs.cons (by simp only [VR]; exact ⟨r, hρl, rfl⟩) VRs.nil
    have hvs := (ha.append hy).append hc'
    obtain ⟨ρ2, v', w2, hv, hp2, hT⟩ := hf _ _ _ _ _ h5 ρ1 w1 _ .normal (mkF b t (.inRangeFunc r.blk :: k) (mk ++ d) :: cs) hp1.hr hvs (.inl rfl)
    have hres : ((do let dd ← Deferred.ofValue (evC t g) #[.func (.yield r.blk) #[] #[]]; invoke dd.target dd.args) : Sem Next).run P w1 = (callFunc gf (a' ++ [Value.func (.yield r.blk) #[] #[]] ++ c').toArray).run P w1 := by
      have e2 : a'.toArray ++ #[Value.func (.yield r.blk) #[] #[]] ++ c'.toArray = (a' ++ [Value.func (.yield r.blk) #[] #[]] ++ c').toArray := by
        apply Array.toList_inj.1; simp
      rw [← e2]
      simp only [Deferred.ofValue, e, Sem.run_bind, Sem.run_pure, Result.andThen_ok, invoke]
    have harr : Steps P (lone (mkF b t (.code (.rangeFunc g ps as bd) :: k) d) cs w) (lone (mkF b t (.endRangeFunc r.blk :: k) (mk ++ d)) cs w2) := by
      rcases hT with ⟨hcall, hent⟩ | hval
      · refine .head (s_rangeFunc (k := k) hrun (by rw [hres]; exact hcall) _ (.inl ⟨_, _, rfl, rfl⟩)) ?_
        exact hent.leave
      · exact .one (s_rangeFunc (k := k) hrun (by rw [hres]; exact hval) _ (.inr ⟨_, rfl, rfl⟩))
    split at h6 <;> (try (cases h6; done))
    rename_i lp hg2
    obtain ⟨r2, o, e1, e2, e3⟩ := hp2.hr.live l _ hg2
    rw [hp2.ext _ _ hρl] at e1; cases e1
    simp only [BR] at e3
    obtain ⟨hsh, l', rfl, hl⟩ := e3
    have hst : lp.state ≠ .busy → (Instr.endLoop r.blk).run P w2 = .ok l'.pending (w2.putObj r.blk (.loop { l' with state := .exhausted })) := fun hb => run_endLoop e2 (by rw [hl.state]; exact hb)
    have hlt : r.blk < w2.heap.size := hp2.hr.rng _ _ (hp2.ext _ _ hρl)
    have hp3 := hp2.hr.put (ab := .loop { lp with state := .exhausted }) (w' := w2.putObj r.blk (.loop { l' with state := .exhausted })) (o' := .loop { l' with state := .exhausted }) hg2 (hp2.ext _ _ hρl)
      (by simp) (World.putObj_heap_same hlt) (fun j hj => World.putObj_heap_other hj) rfl rfl rfl
      ⟨hsh, _, rfl, { hl with state := rfl }⟩
    have hx3 := hx1.mono hp2.ext
    have hpp := hp1.trans (hp2.trans hp3)
    have hpend := hl.pending
    generalize w2.putObj r.blk (.loop { l' with state := .exhausted }) = w3 at hst hpp
    split at h6
    · cases h6
    · rename_i hb
      have hst := hst hb
      rw [hpend] at hst
      have harr := harr.trans (.one (s_endRangeFunc (b := b) (t := t) (k := k) (d := mk ++ d) (cs := cs) hst))
      split at h6 <;> (try (cases h6; done)) <;> rename_i hpd <;> rw [hpd] at harr <;> cases h6
      · exact ⟨_, _, _, _, harr, hx3, hpp⟩
      · exact ⟨_, _, _, _, ⟨k, harr⟩, hx3, hpp⟩
      · exact ⟨_, _, _, _, ⟨k, harr, rfl⟩, hx3, hpp⟩
      · exact ⟨_, _, _, _, ⟨k, harr, rfl⟩, hx3, hpp⟩
theorem scope_step {f : Nat} (ihE : ExecOK P C σ cf f) (ihS : ScopeOK P C σ cf f) : ScopeOK P C σ cf (f + 1) := by
  intro b cs c l fr t d H w ρ k k0 x fr' H' h hr hx hk
  simp only [execA.scopeA] at h
  cases hfl : findLabel c l with
  | none =>
    rw [hfl] at h; simp only at h; cases h
    exact ⟨t, d, w, ρ, ⟨k0, .refl _ _, by rw [hk]; simp [gotoIn, hfl]⟩, hx, .refl hr⟩
  | some rest =>
    rw [hfl] at h; simp only at h
    have hgo : gotoIn l k0 = some (.code rest :: .inScope c :: k) := by rw [hk]; simp [gotoIn, hfl]
    cases hq : execA C cf f rest fr H with
    | none => rw [hq] at h; cases h
    | some r =>
      obtain ⟨x1, fr1, H1⟩ := r
      rw [hq] at h
      obtain ⟨t1, d1, w1, ρ1, ha, hx1, hp⟩ := ihE b cs rest fr t d H w ρ (.inScope c :: k) x1 fr1 H1 hq hr hx
      have ha := ha.step (s_goto (P := P) (b := b) (t := t) (d := d) (cs := cs) (w := w) hgo)
      cases x1 with
      | normal =>
        simp only at h; cases h
        exact ⟨t1, d1, w1, ρ1, Steps.trans ha (.one s_inScope), hx1, hp⟩
      | goto l2 =>
        simp only at h
        obtain ⟨k2, hs, hk2⟩ := ha
        obtain ⟨t2, d2, w2, ρ2, ha2, hx2, hp2⟩ := ihS b cs c l2 fr1 t1 d1 H1 w1 ρ1 k k2 x fr' H' h hp.hr hx1 hk2
        exact ⟨t2, d2, w2, ρ2, ha2.of_steps hs, hx2, hp.trans hp2⟩
      | exit i =>
        simp only at h; cases h
        exact ⟨t1, d1, w1, ρ1, ha.over (by simp) (fun _ _ => rfl) (fun _ e => by cases e), hx1, hp⟩
      | ret =>
        simp only at h; cases h
        exact ⟨t1, d1, w1, ρ1, ha.over (by simp) (fun _ e => by cases e) (fun _ e => by cases e), hx1, hp⟩
theorem exec_sound (hC : COK P C σ) (hD : DrawSound P C σ) (hf : CFOK P C σ cf) : ∀ f, ExecOK P C σ cf f ∧ ScopeOK P C σ cf f ∧ LoopOK P C σ cf f
  | 0 => ⟨fun b cs c fr t d H w ρ k x fr' H' h => by simp [execA] at h, fun b cs c l fr t d H w ρ k k0 x fr' H' h => by simp [execA.scopeA] at h, fun b cs c fr t d H w ρ k x fr' H' h => by simp [execA] at h⟩
  | f + 1 => by
    obtain ⟨h1, h2, h3⟩ := exec_sound hC hD hf f
    exact ⟨exec_step hC hD hf f h1 h2 h3, scope_step h1 h2, fun b cs c fr t d H w ρ k x fr' H' h hr hx => loop_step h1 h3 h hr hx s_inLoop⟩
end Go.Sh
namespace Go.Sh
variable {σ : Env} {ρ ρ' : Rho} {C : Ctx} {H H' : AH} {w w' : World} {P : Program}
theorem call_step (hC : COK P C σ) (hF : FOK P C σ) (hD : DrawSound P C σ) (fuel : Nat) {dep : Nat} (ih : CFOK P C σ (callA C fuel dep)) : CFOK P C σ (callA C fuel (dep + 1)) := by
  intro tgt args H v H' h ρ w vs kind cs hr hvs hkind
  have hE := fun f => (exec_sound hC hD ih f).1
  cases tgt with
  | fn f =>
    simp only [callA, bif_ite] at h
    split at h
    · rename_i hs
      rcases hkind with rfl | hkind
      · exact hF.sum f args H v H' hs h ρ w vs cs hr hvs
      · rw [hkind f rfl] at hs; cases hs
    · split at h
      · cases h
      · rename_i fi hfi
        obtain ⟨fn, hfn, hbody, hnt, hres, hname⟩ := hF.fn f fi hfi
        cases hq : execA C (callA C fuel dep) fuel fi.body (frameOf C f fi args) H with
        | none => rw [hq] at h; cases h
        | some r =>
          obtain ⟨x, fr1, H1⟩ := r
          rw [hq] at h
          have hent : Frame.enter P f vs.toArray kind = mkF { (default : Frame) with fn := f, kind := kind, roundOf := none } (vs.toArray ++ Array.replicate (fi.ntmps - vs.toArray.size) undef) [.code fi.body] [] := by
            simp [Frame.enter, mkF, hfn, hbody, hnt]
          obtain ⟨t1, d1, w1, ρ1, ha, hx1, hp1⟩ := hE fuel { (default : Frame) with fn := f, kind := kind, roundOf := none } cs fi.body _ _ [] H w ρ [] x fr1 H1 hq hr ⟨frameOf_tr hvs, rfl, rfl, rfl⟩
          have key : ∀ fr0 : Frame, fr0.fn = f → fr0.tmps = t1 → fr0.mode = .returning → fr0.kind = kind → fr0.defers = d1 → Steps P (lone (Frame.enter P f vs.toArray kind) cs w) (lone fr0 cs w1) →
              (match runDefers C.summed (callA C fuel dep) 1000 fr1.defers H1 with
              | some H => (resultOf C fr1 H fi.results).map fun vs => (tupled vs, H)
              | none => none) = some (v, H') → ∃ ρ' v' w', VR σ ρ' v v' ∧ Post C σ ρ H w ρ' H' w' ∧ TgtOK P ρ (.fn f) vs w v' w' kind cs := by
            intro fr0 k1 k2 k3 k4 k5 hst h
            split at h
            · rename_i H2 hd
              obtain ⟨vs2, h2, h3⟩ := map_some h
              cases h3
              obtain ⟨w2, ρ2, hs2, hp2⟩ := run_defers (cs := cs) ih 1000 _ _ w1 ρ1 d1 fr0 hd hp1.hr hx1.ds k3 k5
              rw [← hres] at h2
              obtain ⟨v', h4, h5⟩ := run_resultsA (t := t1) hC hp2.hr (hx1.tm.mono hp2.ext) h2
              refine ⟨ρ2, v', w2, h5, hp1.trans hp2, .inl ⟨run_callFunc hfn hbody hname _ _, _, hst.trans hs2, k1, k3, rfl, k4, fn, hfn, ?_⟩⟩
              simp only [k2]; exact h4
            · cases h
          rw [hent] at key
          cases x with
          | normal =>
            simp only at h
            exact key _ rfl rfl rfl rfl rfl (Steps.trans ha (.one (s_leaveRet rfl))) h
          | ret =>
            simp only at h
            obtain ⟨k2, hs⟩ := ha
            exact key _ rfl rfl rfl rfl rfl (hs.trans (.one (s_leaveRet' rfl))) h
          | exit i => simp only at h; cases h
          | goto i => simp only at h; cases h
  | yield l =>
    simp only [callA] at h
    split at h <;> (try (cases h; done))
    rename_i r hg
    obtain ⟨tm, h1, h2⟩ := bind_some h
    obtain ⟨rb, o, e1, e2, e3⟩ := hr.live l _ hg
    simp only [BR] at e3
    obtain ⟨hsh, l', rfl, hl⟩ := e3
    obtain ⟨hlen, htr⟩ := assignP_tr _ _ _ _ _ _ _ h1 hvs hl.tmps
    have hy := run_yield (P := P) (l := rb.blk) (r := l') (args := vs.toArray) e2 (by rw [← hl.params] at hlen; simpa using hlen)
    have hfold : ((l'.params.zip vs.toArray).foldl (fun tmps (q, a) => tmps.setIfInBounds q a) l'.tmps) = ((r.params.zip vs).foldl (fun tmps (q, a) => tmps.setIfInBounds q a) l'.tmps) := by
      rw [← hl.params, ← Array.foldl_toList]; simp
    rw [hfold, hl.fn, hl.assign, hl.body] at hy
    generalize hT : ((r.params.zip vs).foldl (fun tmps (q, a) => tmps.setIfInBounds q a) l'.tmps) = T0 at hy htr
    let b : Frame := { (default : Frame) with fn := r.fn, kind := .normal, roundOf := some rb.blk }
    have hrnd : Frame.round rb.blk r.fn T0 r.assign r.body .normal = mkF b T0 (.code r.assign :: [.beginRound, .code r.body]) [] := rfl
    cases hq : execA C (callA C fuel dep) fuel r.assign ⟨C.ng, r.fn, tm, r.n, [], some l⟩ H with
    | none => rw [hq] at h2; cases h2
    | some rr =>
      obtain ⟨x, fr1, H1⟩ := rr
      rw [hq] at h2
      cases x <;> simp only at h2 <;> (try (cases h2; done))
      obtain ⟨t1, d1, w1, ρ1, ha, hx1, hp1⟩ := hE fuel b cs r.assign _ T0 [] H w ρ [.beginRound, .code r.body] .normal fr1 H1 hq hr ⟨⟨rfl, htr⟩, rfl, rfl, ⟨rb, e1, rfl⟩⟩
      split at h2 <;> (try (cases h2; done))
      rename_i r1 hg1
      have hρ1 := hp1.ext _ _ e1
      obtain ⟨rb1, o1, f1, f2, f3⟩ := hp1.hr.live l _ hg1
      rw [hρ1] at f1; cases f1
      simp only [BR] at f3
      obtain ⟨_, l1, rfl, hl1⟩ := f3
      split at h2 <;> (try (cases h2; done))
      rename_i hst1
      have hlt1 : rb.blk < w1.heap.size := hp1.hr.rng _ _ hρ1
      have hp2 := hp1.hr.put (ab := .loop { r1 with state := .busy }) (w' := w1.putObj rb.blk (.loop { l1 with state := .busy })) (o' := .loop { l1 with state := .busy }) hg1 hρ1
        (by simp) (World.putObj_heap_same hlt1) (fun j hj => World.putObj_heap_other hj) rfl rfl rfl ⟨hsh, _, rfl, { hl1 with state := rfl }⟩
      have hbr := run_beginRound (P := P) f2 (by rw [hl1.state]; exact hst1)
      cases hq2 : execA C (callA C fuel dep) fuel r.body fr1 (H1.put l (.loop { r1 with state := .busy })) with
      | none => rw [hq2] at h2; cases h2
      | some rr2 =>
        obtain ⟨x, fr2, H2⟩ := rr2
        rw [hq2] at h2
        simp only at h2
        obtain ⟨t2, d2, w2, ρ2, ha2, hx2, hp3⟩ := hE fuel b cs r.body fr1 t1 d1 _ _ ρ1 [] x fr2 H2 hq2 hp2.hr (hx1.mono hp2.ext)
        split at h2 <;> (try (cases h2; done))
        split at h2 <;> (try (cases h2; done))
        rename_i r2 hg2
        have hρ2 := hp3.ext _ _ hρ1
        obtain ⟨rb2, o2, g1, g2, g3⟩ := hp3.hr.live l _ hg2
        rw [hρ2] at g1; cases g1
        simp only [BR] at g3
        obtain ⟨_, l2, rfl, hl2⟩ := g3
        have hlt2 : rb.blk < w2.heap.size := hp3.hr.rng _ _ hρ2
        have hroad : Steps P (lone (Frame.round rb.blk r.fn T0 r.assign r.body .normal) cs w) (lone (mkF b t1 [.code r.body] d1) cs (w1.putObj rb.blk (.loop { l1 with state := .busy }))) := by
          rw [hrnd]; exact Steps.trans ha (.one (s_beginRound rfl hbr))
        have fin : ∀ (k2 : List Item) (j : Option Code) (st : LoopState), (st = if j.isNone then .ready else .done) → Lv x k2 j → Steps P (lone (mkF b t1 [.code r.body] d1) cs (w1.putObj rb.blk (.loop { l1 with state := .busy }))) (lone (mkF b t2 k2 d2) cs w2) →
            ∃ ρ' v' w', VR σ ρ' (.bool j.isNone) v' ∧ Post C σ ρ H w ρ' (H2.put l (.loop { r2 with state := st, pending := j })) w' ∧ TgtOK P ρ (.yield l) vs w v' w' kind cs := by
          intro k2 j st hst hlv hs
          have her := run_endRound (P := P) j g2
          rw [← hst] at her
          have hp4 := hp3.hr.put (ab := .loop { r2 with state := st, pending := j }) (w' := w2.putObj rb.blk (.loop { l2 with state := st, pending := j })) (o' := .loop { l2 with state := st, pending := j }) hg2 hρ2
            (by simp) (World.putObj_heap_same hlt2) (fun j hj => World.putObj_heap_other hj) rfl rfl rfl ⟨hsh, _, rfl, { hl2 with state := rfl, pending := rfl }⟩
          refine ⟨ρ2, .bool j.isNone, _, ?_, hp1.trans (hp2.trans (hp3.trans hp4)), rb, e1, _, _, _, _, hy, fun c' cs' e => ?_⟩
          · simp only [VR]
          · subst e
            exact hroad.trans (hs.trans (.one (s_leaveRound hlv rfl rfl her)))
        cases x with
        | normal =>
          simp only at h2; cases h2
          exact fin [] none .ready rfl .normal ha2
        | ret =>
          simp only at h2; cases h2
          obtain ⟨k2, hs⟩ := ha2
          exact fin _ (some .ret) .done rfl (.ret k2) hs
        | exit i =>
          simp only at h2; cases h2
          obtain ⟨k2, hs, hk⟩ := ha2
          exact fin _ (some (.exit i)) .done rfl (.exit i k2 (by rw [hk]; rfl)) hs
        | goto i =>
          simp only at h2; cases h2
          obtain ⟨k2, hs, hk⟩ := ha2
          exact fin _ (some (.goto i)) .done rfl (.goto i k2 (by rw [hk]; rfl)) hs
end Go.Sh
