import Derived.Test.YtipampcmhklndaaGreatDoorShA
import Derived.Lib.UnsafeStr
import Derived.Calls
import Derived.Defers
set_option linter.unusedVariables false
set_option linter.unusedSimpArgs false
set_option linter.unusedSectionVars false
namespace Go.Sh
variable {σ : Env} {ρ ρ' : Rho} {C : Ctx} {H H' : AH} {w w' : World} {P : Program}
def FR2 (σ : Env) (ρ : Rho) : Option (Nat × AV) → Option (Nat × Value) → Prop
  | none, none => True
  | some (i, a), some (j, v) => i = j ∧ VR σ ρ a v
  | _, _ => False
theorem bytes_beq (a b : List UInt8) : ((ByteArray.mk a.toArray) == (ByteArray.mk b.toArray)) = (a == b) := by
  show ByteArray.beq _ _ = _
  unfold ByteArray.beq
  rw [Bool.eq_iff_iff]
  simp
theorem keyEq_rel {d : TypeDesc} {k e : AV} {kv ev : Value} {b : Bool} (hk : keyKind d k = true) (h : keyEq k e = some b) (h1 : VR σ ρ k kv) (h2 : VR σ ρ e ev) :
    Instr.sameNow d kv ev = some b := by
  unfold keyEq at h
  split at h
  · obtain ⟨e1, h3⟩ := bif_some h
    cases h3
    have := kindEq_of e1; subst this
    simp only [VR] at h1 h2; subst h1; subst h2
    unfold keyKind at hk
    split at hk
    · simp [Instr.sameNow, intEq_eq]
    · rename_i e; cases e
    · cases hk
  · cases h
    simp only [VR] at h1 h2; subst h1; subst h2
    unfold keyKind at hk
    split at hk
    · rename_i e; cases e
    · simp only [Instr.sameNow, strEq_beq]
      congr 1
      exact bytes_beq _ _
    · cases hk
  · cases h
theorem findE_rel {d : TypeDesc} {k : AV} {kv : Value} (hk : keyKind d k = true) (hkv : VR σ ρ k kv) : ∀ {es : List AE} {ms : List MapEntry} {i : Nat} {r : Option (Nat × AV)},
    findE k es i = some r → ERs σ ρ es ms → ∃ r', Instr.findNow d kv ms i = some r' ∧ FR2 σ ρ r r'
  | [], ms, i, r, h, he => by
    simp only [ERs] at he; subst he
    simp only [findE] at h; cases h
    exact ⟨none, rfl, trivial⟩
  | e :: es, ms, i, r, h, he => by
    simp only [ERs] at he
    obtain ⟨m, ms, rfl, h1, h2, h3, h4⟩ := he
    simp only [findE] at h
    obtain ⟨b, hb, h⟩ := bind_some h
    have hs := keyEq_rel hk hb hkv h1
    unfold Instr.findNow
    rw [hs]
    cases b
    · exact findE_rel hk hkv h h4
    · simp only [cond_true] at h; cases h
      exact ⟨_, rfl, rfl, h2⟩
theorem run_checkKey_in {d : TypeDesc} {k : AV} {kv : Value} {t : TypeId} (hk : keyKind d k = true) (hkv : VR σ ρ k kv) (hu : P.underlying t = some d) (empty : Bool) (n : Nat) :
    (Instr.checkKey empty (n + 1) t kv).run P w = .ok () w := by
  unfold Instr.checkKey
  simp only [Sem.run_bind, Go.run_underlying hu, Result.andThen_ok]
  unfold keyKind at hk
  split at hk
  · simp only [VR] at hkv; subst hkv; rfl
  · simp only [VR] at hkv; subst hkv; rfl
  · cases hk
theorem run_checkKey {d : TypeDesc} {k : AV} {kv : Value} {t : TypeId} (hk : keyKind d k = true) (hkv : VR σ ρ k kv) (hu : P.underlying t = some d) (empty : Bool) :
    (Instr.checkKey empty 10000 t kv).run P w = .ok () w := run_checkKey_in hk hkv hu empty 9999
theorem run_findKey {d : TypeDesc} {k : AV} {kv : Value} {t : TypeId} (hk : keyKind d k = true) (hkv : VR σ ρ k kv) (hu : P.underlying t = some d) {es : List AE} {ms : List MapEntry} {r : Option (Nat × AV)}
    (h : findE k es 0 = some r) (he : ERs σ ρ es ms) : ∃ r', (Instr.findKey t kv ms).run P w = .ok r' w ∧ FR2 σ ρ r r' := by
  obtain ⟨r', h1, h2⟩ := findE_rel hk hkv h he
  refine ⟨r', ?_, h2⟩
  simp only [Instr.findKey, Sem.run_bind, Go.run_underlying hu, Result.andThen_ok, h1, Sem.run_pure]
theorem mapOf_spec (hC : COK P C σ) {t : TypeId} {m : TypeDesc × TI} (h : mapOf C t = some m) :
    ∃ k e, P.underlying t = some (.map k e) ∧ P.underlying k = some m.1 ∧ C.ty.get e = some m.2 := by
  unfold mapOf at h
  obtain ⟨ti, ht, h⟩ := bind_some h
  have hu := (hC.ty t ti ht).1
  generalize hd : ti.under = d at h
  rw [hd] at hu
  split at h
  · rename_i k e
    obtain ⟨tk, hk, h2⟩ := bind_some h
    obtain ⟨te, he, rfl⟩ := map_some h2
    exact ⟨k, e, hu, (hC.ty k tk hk).1, he⟩
  · cases h
theorem HR.getMap (hr : HR C σ ρ H w) {b : Nat} {es : List AE} {clock : Nat} (hb : H.get b = some (.map es clock)) {r : RB} (hρ : ρ b = some r) :
    r.shift = 0 ∧ ∃ ms : List MapEntry, w.heap[r.blk]? = some (.map ms.toArray clock) ∧ ERs σ ρ es ms ∧ (getObj r.blk).run P w = .ok (.map ms.toArray clock) w := by
  obtain ⟨s, o, e1, e2, e3⟩ := hr.live b _ hb
  rw [hρ] at e1; cases e1
  simp only [BR] at e3
  obtain ⟨h0, ms, rfl, he⟩ := e3
  exact ⟨h0, ms, e2, he, by simp [getObj, Sem.run, e2]⟩
/-- the entries of a map that may be nil -/
def mapEs (H : AH) : AV → Option (List AE)
  | .nilm => some []
  | .map b => (match H.get b with
    | some (.map es _) => some es
    | _ => none)
  | _ => none
theorem run_lookupA (hC : COK P C σ) (hr : HR C σ ρ H w) {t : TypeId} {x k r : AV} {v kv : Value} {ok : Bool} (h : lookupA C H t x k ok = some r) (hx : VR σ ρ x v) (hk : VR σ ρ k kv) :
    ∃ r', (Instr.lookup t v kv ok).run P w = .ok r' w ∧ VR σ ρ r r' := by
  unfold lookupA at h
  obtain ⟨m, hm, h1⟩ := bind_some h
  obtain ⟨kt, et, hu, huk, hte⟩ := mapOf_spec hC hm
  obtain ⟨hkk, h2⟩ := bif_some h1
  obtain ⟨q, hq, h3⟩ := bind_some h2
  have key : ∀ (ms : List MapEntry) (q' : Option (Nat × Value)), (Instr.findKey kt kv ms).run P w = .ok q' w → FR2 σ ρ q q' →
      ∃ r', ((do
        Instr.checkKey ms.toArray.isEmpty 10000 kt kv
        let (v, b) ← match ← Instr.findKey kt kv ms.toArray.toList with
          | some (_, v) => pure (v, true)
          | none => pure (← zeroValue et, false)
        pure (if ok then .tuple #[v, .bool b] else v) : Sem Value)).run P w = .ok r' w ∧ VR σ ρ r r' := by
    intro ms q' hf hqq
    simp only [Sem.run_bind, run_checkKey hkk hk huk, Result.andThen_ok, hf]
    cases q with
    | none =>
      cases q' with
      | some _ => simp [FR2] at hqq
      | none =>
        obtain ⟨z, hz, rfl⟩ := map_some h3
        obtain ⟨zv, z1, z2⟩ := hC.run_zero hte w hz
        simp only [Sem.run_bind, z1, Result.andThen_ok, Sem.run_pure]
        refine ⟨_, rfl, ?_⟩
        cases ok
        · exact z2 ρ
        · exact VR.tup (VRs.cons (z2 ρ) (VRs.cons (by simp [VR]) VRs.nil))
    | some p =>
      cases q' with
      | none => simp [FR2] at hqq
      | some p' =>
        obtain ⟨i, a⟩ := p; obtain ⟨j, v'⟩ := p'
        obtain ⟨_, hav⟩ := hqq
        simp only at h3; cases h3
        refine ⟨_, rfl, ?_⟩
        cases ok
        · exact hav
        · exact VR.tup (VRs.cons hav (VRs.cons (by simp [VR]) VRs.nil))
  unfold Instr.lookup
  simp only [Sem.run_bind, Go.run_underlying hu, Result.andThen_ok]
  split at hq
  · cases hq
    simp only [VR] at hx; subst hx
    obtain ⟨r', k1, k2⟩ := key [] none (by simp [Instr.findKey, Go.run_underlying huk, Instr.findNow]) trivial
    refine ⟨r', ?_, k2⟩
    rw [← k1]; simp only [Sem.run_bind, Sem.run_pure, Result.andThen_ok]; rfl
  · split at hq
    · rename_i es clock hb
      simp only [VR] at hx
      obtain ⟨s, hρ, rfl⟩ := hx
      obtain ⟨_, ms, _, he, hg⟩ := hr.getMap (P := P) hb hρ
      obtain ⟨q', k1, k2⟩ := run_findKey (P := P) (w := w) hkk hk huk hq he
      obtain ⟨r', k3, k4⟩ := key ms q' k1 k2
      refine ⟨r', ?_, k4⟩
      rw [← k3]; simp only [Sem.run_bind, Sem.run_pure, Result.andThen_ok, hg]; rfl
    · cases hq
  · cases hq
theorem ERs.length : ∀ {es : List AE} {ms : List MapEntry}, ERs σ ρ es ms → es.length = ms.length
  | [], _, h => by simp only [ERs] at h; subst h; rfl
  | _ :: es, _, h => by simp only [ERs] at h; obtain ⟨m, ms, rfl, _, _, _, h4⟩ := h; simp [ERs.length h4]
theorem AV.i_rel (n : Nat) : VR σ ρ (.i n) (goInt n) := by simp only [AV.i, VR]; rfl
theorem bsize (l : List UInt8) : (ByteArray.mk l.toArray).size = l.length := by simp [ByteArray.size]
theorem lookLen_mem {i : Nat} {r : AV} : ∀ {l : List (Nat × AV)}, lookLen i l = some r → (i, r) ∈ l
  | [], h => by simp [lookLen] at h
  | (j, q) :: l, h => by
    simp only [lookLen, bif_ite, Nat.beq_eq] at h
    split at h
    · rename_i e; subst e; cases h; simp
    · exact List.mem_cons_of_mem _ (lookLen_mem h)
theorem run_lenA (hC : COK P C σ) (hr : HR C σ ρ H w) {t ty : TypeId} {ts : List TypeId} {x r : AV} {v : Value} {rest : List Value} (h : lenA C H t x = some r) (hx : VR σ ρ x v) :
    ∃ r', (Builtin.len_ (List.toArray (t :: ts)) ty (List.toArray (v :: rest))).run P w = .ok r' w ∧ VR σ ρ r r' := by
  unfold lenA at h
  obtain ⟨ti, ht, h⟩ := bind_some h
  have hu := (hC.ty t ti ht).1
  generalize hd : ti.under = d at h
  rw [hd] at hu
  split at h
  · cases h; simp only [VR] at hx; subst hx
    refine ⟨_, ?_, AV.i_rel _⟩
    simp [Builtin.len_, Go.run_underlying hu, bsize]
  · cases h; simp only [VR] at hx; subst hx
    refine ⟨_, ?_, AV.i_rel _⟩
    simp [Builtin.len_, Go.run_underlying hu, goInt]
  · cases h; simp only [VR] at hx; obtain ⟨s, a, c', _, rfl, _⟩ := hx
    refine ⟨_, ?_, AV.i_rel _⟩
    simp [Builtin.len_, Go.run_underlying hu, goInt]
  · obtain ⟨p, n, c, h1, h2⟩ := hC.len _ _ (lookLen_mem h)
    simp only [VR] at hx; obtain ⟨rfl, _⟩ := hx
    refine ⟨_, ?_, h2 ρ⟩
    simp [Builtin.len_, Go.run_underlying hu, goInt, h1]
  · cases h; simp only [VR] at hx; subst hx
    refine ⟨_, ?_, AV.i_rel _⟩
    simp [Builtin.len_, Go.run_underlying hu, goInt]
  · split at h
    · rename_i es clock hb
      cases h
      simp only [VR] at hx; obtain ⟨s, hρ, rfl⟩ := hx
      obtain ⟨_, ms, _, he, hg⟩ := hr.getMap (P := P) hb hρ
      refine ⟨_, ?_, AV.i_rel _⟩
      simp [Builtin.len_, Go.run_underlying hu, goInt, hg, he.length]
    · cases h
  · cases h
    refine ⟨_, ?_, AV.i_rel _⟩
    cases v <;> simp [Builtin.len_, Go.run_underlying hu, goInt]
  · cases h
theorem run_capA (hC : COK P C σ) {t ty : TypeId} {ts : List TypeId} {x r : AV} {v : Value} {rest : List Value} (h : capA C t x = some r) (hx : VR σ ρ x v) :
    ∃ r', (Builtin.cap_ (List.toArray (t :: ts)) ty (List.toArray (v :: rest))).run P w = .ok r' w ∧ VR σ ρ r r' := by
  unfold capA at h
  obtain ⟨ti, ht, h⟩ := bind_some h
  have hu := (hC.ty t ti ht).1
  generalize hd : ti.under = d at h
  rw [hd] at hu
  split at h
  · cases h; simp only [VR] at hx; subst hx
    refine ⟨_, ?_, AV.i_rel _⟩
    simp [Builtin.cap_, Go.run_underlying hu, goInt]
  · cases h; simp only [VR] at hx; obtain ⟨s, a, c', _, rfl, _, _, hc⟩ := hx
    simp only [if_true] at hc; subst hc
    refine ⟨_, ?_, AV.i_rel _⟩
    simp [Builtin.cap_, Go.run_underlying hu, goInt]
  · cases h
theorem run_min2 {k : IntKind} {a b : Int} : (Builtin.min2 (.int k a) (.int k b)).run P w = .ok (.int k (if b < a then b else a)) w := rfl
theorem run_minA : ∀ {k : IntKind} {rest : List AV} {a : Int} {vs : List Value} {r : AV}, minMax false (.int k a) rest = some r → VRs σ ρ rest vs →
    ∃ r', (vs.foldlM Builtin.min2 (.int k a)).run P w = .ok r' w ∧ VR σ ρ r r'
  | k, [], a, vs, r, h, hv => by
    simp only [VRs] at hv; subst hv
    simp only [minMax] at h; cases h
    exact ⟨.int k a, rfl, by simp only [VR]⟩
  | k, b :: rest, a, vs, r, h, hv => by
    simp only [VRs] at hv
    obtain ⟨x, xs, rfl, h1, h2⟩ := hv
    cases b <;> simp only [minMax] at h <;> (try cases h)
    rename_i j b
    obtain ⟨e, h3⟩ := bif_some h
    have := kindEq_of e; subst this
    simp only [VR] at h1; subst h1
    simp only [cond_false] at h3
    obtain ⟨r', k1, k2⟩ := run_minA h3 h2
    refine ⟨r', ?_, k2⟩
    simp only [List.foldlM_cons, Sem.run_bind, run_min2, Result.andThen_ok]
    rw [← k1]
    congr 3
    rw [bif_ite, intLe_eq]
    simp only [decide_eq_true_eq]
    split <;> split <;> omega
theorem run_max2 {k : IntKind} {a b : Int} : (Builtin.max2 (.int k a) (.int k b)).run P w = .ok (.int k (if a < b then b else a)) w := rfl
theorem run_maxA : ∀ {k : IntKind} {rest : List AV} {a : Int} {vs : List Value} {r : AV}, minMax true (.int k a) rest = some r → VRs σ ρ rest vs →
    ∃ r', (vs.foldlM Builtin.max2 (.int k a)).run P w = .ok r' w ∧ VR σ ρ r r'
  | k, [], a, vs, r, h, hv => by
    simp only [VRs] at hv; subst hv
    simp only [minMax] at h; cases h
    exact ⟨.int k a, rfl, by simp only [VR]⟩
  | k, b :: rest, a, vs, r, h, hv => by
    simp only [VRs] at hv
    obtain ⟨x, xs, rfl, h1, h2⟩ := hv
    cases b <;> simp only [minMax] at h <;> (try cases h)
    rename_i j b
    obtain ⟨e, h3⟩ := bif_some h
    have := kindEq_of e; subst this
    simp only [VR] at h1; subst h1
    simp only [cond_true] at h3
    obtain ⟨r', k1, k2⟩ := run_maxA h3 h2
    refine ⟨r', ?_, k2⟩
    simp only [List.foldlM_cons, Sem.run_bind, run_max2, Result.andThen_ok]
    rw [← k1]
    congr 3
    rw [bif_ite, intLe_eq]
    simp only [decide_eq_true_eq]
    split <;> split <;> omega
end Go.Sh
namespace Go.Sh
variable {σ : Env} {ρ ρ' : Rho} {C : Ctx} {H H' : AH} {w w' : World} {P : Program}
/-- the value of an operand -/
def evC (tmps : Array Value) : Operand → Value
  | .tmp t => tmps.getD t undef
  | .const v => v
  | .global g => .pointer (some ⟨g, 0, none⟩)
  | .func f => .func (.func f) #[] #[]
theorem ofScalar_rel {v : Value} {a : AV} (h : AV.ofScalar v = some a) : VR σ ρ a v := by
  unfold AV.ofScalar at h
  split at h <;> (try cases h) <;> simp only [VR]
theorem ofScalars_rel : ∀ {vs : List Value} {as : List AV}, ofScalars vs = some as → VRs σ ρ as vs
  | [], as, h => by simp [ofScalars] at h; subst h; exact VRs.nil
  | v :: vs, as, h => by
    simp only [ofScalars] at h
    obtain ⟨a, h1, h2⟩ := bind_some h
    obtain ⟨as', h3, h4⟩ := bind_some h2
    cases h4
    exact VRs.cons (ofScalar_rel h1) (ofScalars_rel h3)
theorem ofV_rel {v : Value} {a : AV} (h : AV.ofV v = some a) : VR σ ρ a v := by
  unfold AV.ofV at h
  split at h
  · obtain ⟨as, h1, rfl⟩ := map_some h
    have := VR.agg (σ := σ) (ρ := ρ) (ofScalars_rel h1)
    simpa using this
  · obtain ⟨as, h1, rfl⟩ := map_some h
    have := VR.tup (σ := σ) (ρ := ρ) (ofScalars_rel h1)
    simpa using this
  · exact ofScalar_rel h
/-- a frame -/
structure FR (C : Ctx) (σ : Env) (ρ : Rho) (fr : AFr) (tmps : Array Value) : Prop where
  ng : fr.ng = C.ng
  tr : TR σ ρ fr.tmps fr.n tmps
theorem FR.mono {fr : AFr} {tmps : Array Value} (h : FR C σ ρ fr tmps) (k : Ext ρ ρ') : FR C σ ρ' fr tmps := ⟨h.ng, h.tr.mono k⟩
variable {fr fr' : AFr} {tmps : Array Value}
theorem FR.tmp (h : FR C σ ρ fr tmps) (t : Nat) : VR σ ρ (fr.tmp t) (tmps.getD t undef) := by
  have hat : fr.tmp t = fr.tmps.at t := rfl
  rw [hat]
  by_cases ht : t < tmps.size
  · have : tmps[t]? = some tmps[t] := Array.getElem?_eq_getElem ht
    have := h.tr.2.1 t _ this
    simpa [Array.getD, ht] using this
  · have h1 := h.tr.2.2 t (by have := h.tr.1; omega)
    simp only [T.at, h1, Array.getD, ht, dif_neg, not_false_iff]
    exact VR.undef
theorem FR.ev (h : FR C σ ρ fr tmps) (hr : HR C σ ρ H w) {x : Operand} {a : AV} (he : fr.ev x = some a) : VR σ ρ a (evC tmps x) := by
  cases x <;> simp only [AFr.ev] at he
  · cases he; exact h.tmp _
  · exact ofV_rel he
  · obtain ⟨hlt, he⟩ := bif_some he
    cases he
    obtain ⟨r, h1, h2, h3⟩ := hr.glob _ (by rw [← h.ng]; exact blt_of hlt)
    simp only [VR, evC]
    exact ⟨r, h1, by rw [h2, h3]⟩
  · cases he
    simp only [VR, evC]
    exact ⟨[], [], rfl, VRs.nil, VRs.nil⟩
theorem FR.evs (h : FR C σ ρ fr tmps) (hr : HR C σ ρ H w) : ∀ {xs : List Operand} {as : List AV}, fr.evs xs = some as → VRs σ ρ as (xs.map (evC tmps))
  | [], as, he => by simp [AFr.evs] at he; subst he; exact VRs.nil
  | x :: xs, as, he => by
    simp only [AFr.evs] at he
    obtain ⟨a, h1, h2⟩ := bind_some he
    obtain ⟨as', h3, h4⟩ := bind_some h2
    cases h4
    exact VRs.cons (h.ev hr h1) (h.evs hr h3)
theorem FR.parts (h : FR C σ ρ fr tmps) (hr : HR C σ ρ H w) : ∀ {xs : List (Nat × Operand)} {as : List (Nat × AV)}, evParts fr xs = some as → PR σ ρ as (xs.map fun p => (p.1, evC tmps p.2))
  | [], as, he => by
    simp [evParts] at he; subst he
    exact ⟨rfl, fun k i a hk => by simp at hk⟩
  | (i, x) :: xs, as, he => by
    simp only [evParts] at he
    obtain ⟨a, h1, h2⟩ := bind_some he
    obtain ⟨as', h3, h4⟩ := bind_some h2
    cases h4
    have ih := h.parts hr h3
    refine ⟨by simp [ih.1], fun k j b hk => ?_⟩
    cases k with
    | zero => simp at hk; obtain ⟨rfl, rfl⟩ := hk; exact ⟨_, rfl, h.ev hr h1⟩
    | succ k => simpa using ih.2 k j b (by simpa using hk)
theorem optEv_rel (h : FR C σ ρ fr tmps) (hr : HR C σ ρ H w) {x : Option Operand} {a : Option AV} (he : stillA.optEv fr x = some a) : OptR σ ρ a (x.map (evC tmps)) := by
  cases x with
  | none => simp [stillA.optEv] at he; subst he; trivial
  | some x => simp only [stillA.optEv] at he; obtain ⟨b, h1, rfl⟩ := map_some he; exact h.ev hr h1
theorem BdR_of {o : Option AV} {x : Option Value} {n : Option Nat} (h : optNat o = some n) (hx : OptR σ ρ o x) : BdR n x := optNat_rel h hx
theorem run_sliceA (hC : COK P C σ) {t : TypeId} {x r : AV} {v : Value} {lo hi mx : Option AV} {lv hv mv : Option Value} (h : sliceA C t x lo hi mx = some r) (hx : VR σ ρ x v)
    (r1 : OptR σ ρ lo lv) (r2 : OptR σ ρ hi hv) (r3 : OptR σ ρ mx mv) : ∃ r', (Instr.sliceAt t v lv hv mv).run P w = .ok r' w ∧ VR σ ρ r r' := by
  unfold sliceA at h
  obtain ⟨ti, ht, h1⟩ := bind_some h
  obtain ⟨lo', e1, h2⟩ := bind_some h1
  obtain ⟨hi', e2, h3⟩ := bind_some h2
  obtain ⟨mx', e3, h4⟩ := bind_some h3
  have hu := (hC.ty t ti ht).1
  have b1 := BdR_of e1 r1
  have b2 := BdR_of e2 r2
  have b3 := BdR_of e3 r3
  generalize hd : ti.under = d at h4
  rw [hd] at hu
  split at h4
  · simp only [VR] at hx; subst hx
    exact run_sliceStrA h4 hu b1 b2 b3
  · simp only [VR] at hx; subst hx
    obtain ⟨te, hte, h5⟩ := bind_some h4
    exact run_sliceNilA h5 hu (fun w => ⟨_, hC.run_sizeOf hte w⟩) b1 b2 b3
  · obtain ⟨te, hte, h5⟩ := bind_some h4
    exact run_sliceSlA h5 hu (hC.run_sizeOf hte w) hx b1 b2 b3
  · obtain ⟨te, hte, h5⟩ := bind_some h4
    exact run_sliceArrA h5 hu (hC.run_sizeOf hte w) hx b1 b2 b3
  · cases h4
theorem lookLod_mem {p n : Nat} {r : List AV} : ∀ {l : List (Nat × Nat × List AV)}, lookLod p n l = some r → (p, n, r) ∈ l
  | [], h => by simp [lookLod] at h
  | (p', n', q) :: l, h => by
    simp only [lookLod, bif_ite] at h
    split at h
    · rename_i e
      simp only [Bool.and_eq_true] at e
      cases h
      rw [beq_of e.1, beq_of e.2]; simp
    · exact List.mem_cons_of_mem _ (lookLod_mem h)
/-- cells that no run touches -/
theorem HR.run_loadOld (hr : HR C σ ρ H w) {blk off n : Nat} {cells : Array Value} {e : TypeId} {fz : Nat × Nat} (ho : σ.old blk = some (.cells cells e fz)) (hsz : off + n ≤ cells.size) :
    (loadCells ⟨blk, off, none⟩ n).run P w = .ok ((cells.toList.drop off).take n).toArray w := by
  have hb := (hr.old blk _ ho).1
  have := run_loadCells_list (P := P) w ⟨blk, off, none⟩ ((cells.toList.drop off).take n) (fun j v hv => by
    rw [addr_add]
    rw [List.getElem?_take] at hv
    split at hv
    · rw [List.getElem?_drop] at hv
      simp only [World.cell?, hb]
      simpa using hv
    · cases hv)
  have hl : ((cells.toList.drop off).take n).length = n := by simp; omega
  rw [hl] at this
  exact this
/-- a value out of a Sem -/
theorem run_v {s : Sem Value} {v : Value} (h : s.run P w = .ok v w') : ((do pure (.value (← s))) : Sem Next).run P w = .ok (.value v) w' := by
  simp only [Sem.run_bind, h, Result.andThen_ok, Sem.run_pure]
theorem run_unit {s : Sem Unit} (h : s.run P w = .ok () w') : ((do s; pure .skip) : Sem Next).run P w = .ok .skip w' := by
  simp only [Sem.run_bind, h, Result.andThen_ok, Sem.run_pure]
theorem run_minMaxA {big : Bool} {x : AV} {rest : List AV} {v : Value} {vs : List Value} {r : AV} (h : minMax big x rest = some r) (hx : VR σ ρ x v) (hv : VRs σ ρ rest vs) :
    ∃ r', (vs.foldlM (bif big then Builtin.max2 else Builtin.min2) v).run P w = .ok r' w ∧ VR σ ρ r r' := by
  cases rest with
  | nil =>
    simp only [VRs] at hv; subst hv
    unfold minMax at h
    cases h
    exact ⟨v, rfl, hx⟩
  | cons y rest =>
    cases x <;> (try (cases y <;> simp only [minMax] at h <;> cases h; done))
    simp only [VR] at hx; subst hx
    cases big
    · exact run_minA h hv
    · exact run_maxA h hv
theorem run_builtinStill (hC : COK P C σ) (hr : HR C σ ρ H w) {b : Builtin} {ts : List TypeId} {ty : TypeId} {cs : Array Bool} {args : List AV} {vs : List Value} {r : AV × AH}
    (hb : (match b with | .len | .cap | .min | .max => true | _ => false) = true) (h : builtinA C H b ts args = some r) (hv : VRs σ ρ args vs) :
    ∃ r', (builtin b (List.toArray ts) ty cs (List.toArray vs)).run P w = .ok (.value r') w ∧ VR σ ρ r.1 r' ∧ r.2 = H := by
  unfold builtinA at h
  split at h <;> (try (cases hb; done))
  · obtain ⟨v, h1, rfl⟩ := map_some h
    simp only [VRs] at hv
    obtain ⟨x, xs, rfl, k1, k2⟩ := hv
    obtain ⟨r', m1, m2⟩ := run_lenA (P := P) hC hr h1 k1
    exact ⟨r', run_v m1, m2, rfl⟩
  · obtain ⟨v, h1, rfl⟩ := map_some h
    simp only [VRs] at hv
    obtain ⟨x, xs, rfl, k1, k2⟩ := hv
    obtain ⟨r', m1, m2⟩ := run_capA (P := P) (w := w) hC h1 k1
    exact ⟨r', run_v m1, m2, rfl⟩
  · obtain ⟨v, h1, rfl⟩ := map_some h
    simp only [VRs] at hv
    obtain ⟨x, xs, rfl, k1, k2⟩ := hv
    obtain ⟨r', m1, m2⟩ := run_minMaxA (P := P) (w := w) h1 k1 k2
    exact ⟨r', run_v m1, m2, rfl⟩
  · obtain ⟨v, h1, rfl⟩ := map_some h
    simp only [VRs] at hv
    obtain ⟨x, xs, rfl, k1, k2⟩ := hv
    obtain ⟨r', m1, m2⟩ := run_minMaxA (P := P) (w := w) h1 k1 k2
    exact ⟨r', run_v m1, m2, rfl⟩
  · cases h
theorem run_still (hC : COK P C σ) (hr : HR C σ ρ H w) (hf : FR C σ ρ fr tmps) {o : Oper} {v : AV} (hs : still C o.op = true) (h : stillA C fr o.op H = some v) :
    ∃ v', (execOp (evC tmps) o).run P w = .ok (.value v') w ∧ VR σ ρ v v' := by
  obtain ⟨dst, op, ty, pos, after, guard⟩ := o
  simp only at hs h
  cases op <;> simp only [stillA] at h <;> (try (cases h; done)) <;> simp only [execOp]
  case move x => exact ⟨_, rfl, hf.ev hr h⟩
  case assign x => exact ⟨_, rfl, hf.ev hr h⟩
  case pick c a b =>
    obtain ⟨c', h1, h2⟩ := bind_some h
    have hc := hf.ev hr h1
    split at h2
    · simp only [VR] at hc
      exact ⟨_, by simp only [hc, asBool, Sem.run_bind, Sem.run_pure, Result.andThen_ok]; rfl, hf.ev hr h2⟩
    · simp only [VR] at hc
      exact ⟨_, by simp only [hc, asBool, Sem.run_bind, Sem.run_pure, Result.andThen_ok]; rfl, hf.ev hr h2⟩
    · cases h2
  case load t a =>
    obtain ⟨a', h1, h2⟩ := bind_some h
    have ha := hf.ev hr h1
    split at h2
    · simp only [VR] at ha
      obtain ⟨r, hρ, ha⟩ := ha
      obtain ⟨v', k1, k2⟩ := run_loadVarA hC hr h2 hρ
      refine ⟨v', ?_, k2⟩
      rw [ha]
      exact run_v (by simpa [Instr.loadAt, Instr.sureAddr] using k1)
    · rename_i p
      obtain ⟨ti, ht, h3⟩ := bind_some h2
      obtain ⟨hag, h4⟩ := bif_some h3
      obtain ⟨cs, h5, rfl⟩ := map_some h4
      obtain ⟨blk, off, cells, e, fz, e1, e2, e3, e4⟩ := hC.lod _ _ _ (lookLod_mem h5)
      simp only [VR] at ha
      rw [e1] at ha
      have k1 := hr.run_loadOld (P := P) e2 e3
      refine ⟨_, ?_, VR.agg (e4 ρ)⟩
      rw [ha.1]
      refine run_v ?_
      simp only [Instr.loadAt, Instr.sureAddr, Sem.run_bind, Sem.run_pure, Result.andThen_ok, loadVar, hC.run_isAgg ht, hag, if_true, hC.run_sizeOf ht, k1]
    · cases h2
  case nilCheck x =>
    obtain ⟨x', h1, h2⟩ := bind_some h
    have hx := hf.ev hr h1
    split at h2
    · cases h2
      have hx' := hx
      simp only [VR] at hx
      obtain ⟨r, hρ, hx⟩ := hx
      exact ⟨_, by rw [hx]; rfl, by rw [← hx]; exact hx'⟩
    · cases h2
      have hx' := hx
      simp only [VR] at hx
      obtain ⟨a', c', hx, _⟩ := hx
      exact ⟨_, by rw [hx]; rfl, by rw [← hx]; exact hx'⟩
    · cases h2
      have hx' := hx
      simp only [VR] at hx
      obtain ⟨r, hρ, hx⟩ := hx
      exact ⟨_, by rw [hx]; rfl, by rw [← hx]; exact hx'⟩
    · cases h2
  case binOp op t x y t' =>
    obtain ⟨a, h1, h2⟩ := bind_some h
    obtain ⟨b, h3, h4⟩ := bind_some h2
    obtain ⟨hg, h5⟩ := bif_some h4
    obtain ⟨r', k1, k2⟩ := run_binA (P := P) hC hr h5 hg (hf.ev hr h1) (hf.ev hr h3)
    exact ⟨r', run_v k1, k2⟩
  case unOp op t x =>
    obtain ⟨a, h1, h2⟩ := bind_some h
    obtain ⟨r', k1, k2⟩ := run_unA (P := P) (w := w) h2 (hf.ev hr h1)
    exact ⟨r', run_v k1, k2⟩
  case convert s d x =>
    obtain ⟨a, h1, h2⟩ := bind_some h
    obtain ⟨r', k1, k2⟩ := run_convIntA (P := P) (w := w) hC h2 (hf.ev hr h1)
    exact ⟨r', run_v k1, k2⟩
  case slice t x lo hi mx =>
    obtain ⟨a, h1, h2⟩ := bind_some h
    obtain ⟨lo', e1, h3⟩ := bind_some h2
    obtain ⟨hi', e2, h4⟩ := bind_some h3
    obtain ⟨mx', e3, h5⟩ := bind_some h4
    obtain ⟨r', k1, k2⟩ := run_sliceA (P := P) (w := w) hC h5 (hf.ev hr h1) (optEv_rel hf hr e1) (optEv_rel hf hr e2) (optEv_rel hf hr e3)
    exact ⟨r', run_v k1, k2⟩
  case fieldAddr t x i =>
    obtain ⟨a, h1, h2⟩ := bind_some h
    obtain ⟨r', k1, k2⟩ := run_fieldAddrA (P := P) (w := w) hC h2 (hf.ev hr h1)
    exact ⟨r', run_v k1, k2⟩
  case field t x i =>
    obtain ⟨a, h1, h2⟩ := bind_some h
    obtain ⟨r', k1, k2⟩ := run_fieldA (P := P) (w := w) hC h2 (hf.ev hr h1)
    exact ⟨r', run_v k1, k2⟩
  case indexAddr t x y =>
    obtain ⟨a, h1, h2⟩ := bind_some h
    obtain ⟨b, h3, h4⟩ := bind_some h2
    obtain ⟨r', k1, k2⟩ := run_indexAddrA (P := P) (w := w) hC h4 (hf.ev hr h1) (hf.ev hr h3)
    exact ⟨r', run_v k1, k2⟩
  case index t x y =>
    obtain ⟨a, h1, h2⟩ := bind_some h
    obtain ⟨b, h3, h4⟩ := bind_some h2
    obtain ⟨r', k1, k2⟩ := run_indexA (P := P) (w := w) hC h4 (hf.ev hr h1) (hf.ev hr h3)
    exact ⟨r', run_v k1, k2⟩
  case lookup t x y ok =>
    obtain ⟨a, h1, h2⟩ := bind_some h
    obtain ⟨b, h3, h4⟩ := bind_some h2
    obtain ⟨r', k1, k2⟩ := run_lookupA (P := P) hC hr h4 (hf.ev hr h1) (hf.ev hr h3)
    exact ⟨r', run_v k1, k2⟩
  case extract x i =>
    obtain ⟨a, h1, h2⟩ := bind_some h
    have hx := hf.ev hr h1
    split at h2
    · simp only [VR] at hx
      obtain ⟨l, hx, hl⟩ := hx
      rw [getN_eq] at h2
      obtain ⟨y, k1, k2⟩ := hl.get i h2
      refine ⟨y, ?_, k2⟩
      rw [hx]
      refine run_v ?_
      simp [Instr.extract, k1]
    · cases h2
  case build t parts =>
    obtain ⟨ps, h1, h2⟩ := bind_some h
    have hp := hf.parts hr h1
    obtain ⟨r', k1, k2⟩ := run_buildA (P := P) (w := w) hC (ps := parts.map fun (i, x) => (i, evC tmps x)) h2 (by simpa using hp)
    exact ⟨r', run_v k1, k2⟩
  case makeFunc fn first captured =>
    cases fn <;> simp only at h <;> (try (cases h; done))
    obtain ⟨a, h1, h2⟩ := bind_some h
    obtain ⟨c, h3, h4⟩ := bind_some h2
    cases h4
    refine ⟨.func (.func _) (first.map (evC tmps)) (captured.map (evC tmps)), rfl, ?_⟩
    simp only [VR]
    exact ⟨_, _, by rw [← Array.toArray_toList (xs := first.map _), ← Array.toArray_toList (xs := captured.map _)], by simpa using hf.evs hr h1, by simpa using hf.evs hr h3⟩
  case call c =>
    obtain ⟨callee, args, ats⟩ := c
    cases callee <;> simp only at h <;> (try (cases h; done))
    rename_i b
    obtain ⟨vs, h1, h2⟩ := bind_some h
    obtain ⟨r, h3, rfl⟩ := map_some h2
    simp only [still] at hs
    have hv := hf.evs hr h1
    obtain ⟨r', k1, k2, _⟩ := run_builtinStill (P := P) (ty := ty) (cs := args.map fun | .const _ => true | _ => false) hC hr hs h3 hv
    refine ⟨r', ?_, k2⟩
    simp only [resolve, Sem.run_bind, Sem.run_pure, Result.andThen_ok, invoke]
    rw [← k1]
    congr 1
    rw [Array.toArray_toList]
    congr 1
    apply Array.ext'
    simp
end Go.Sh
namespace Go.Sh
variable {σ : Env} {ρ ρ' : Rho} {C : Ctx} {H H' : AH} {w w' : World} {P : Program} {fr : AFr} {tmps : Array Value}
def OkNext (n : Next) (v : Value) : Prop := n = .value v ∨ (n = .skip ∧ v = undef)
/-! rows of zeros -/
theorem repA_get (zs : List AV) : ∀ (k i : Nat), i < k * zs.length → (repA zs k)[i]? = zs[i % zs.length]?
  | 0, i, h => by simp at h
  | k + 1, i, h => by
    simp only [repA]
    by_cases hi : i < zs.length
    · rw [List.getElem?_append_left hi, Nat.mod_eq_of_lt hi]
    · have e : (k + 1) * zs.length = k * zs.length + zs.length := Nat.succ_mul _ _
      rw [List.getElem?_append_right (by omega), repA_get zs k _ (by omega)]
      congr 1
      exact (Nat.mod_eq_sub_mod (by omega)).symm
theorem repA_length (zs : List AV) : ∀ k, (repA zs k).length = k * zs.length
  | 0 => by simp [repA]
  | k + 1 => by simp [repA, repA_length zs k, Nat.add_mul, Nat.add_comm]
theorem repA_rel {zs : List AV} {zv : Array Value} (h : VRs σ ρ zs zv.toList) (k : Nat) :
    VRs σ ρ (repA zs k) (((Array.range (k * zv.size)).map fun i => zv[i % zv.size]!).toList) := by
  have hl : zs.length = zv.size := by simpa using h.length
  refine VRs.of_get (by simp [repA_length, hl]) ?_
  intro i x y hx hy
  have hi : i < k * zv.size := by
    rcases Nat.lt_or_ge i (k * zv.size) with h' | h'
    · exact h'
    · rw [List.getElem?_eq_none (by simp; exact h')] at hy; cases hy
  rw [repA_get zs k i (by rw [hl]; exact hi)] at hx
  obtain ⟨z, k1, k2⟩ := h.get _ hx
  have hne : 0 < zv.size := by
    rcases Nat.eq_zero_or_pos zv.size with h0 | h0
    · rw [h0] at hi; simp at hi
    · exact h0
  have hm : i % zv.size < zv.size := Nat.mod_lt _ hne
  simp [hi, getElem!_pos zv (i % zv.size) hm] at hy
  rw [hl] at k1
  simp [hm] at k1
  rw [← hy, k1]; exact k2
theorem repA_one {zs : List AV} (h : allOne zs = true) : ∀ k, allOne (repA zs k) = true
  | 0 => rfl
  | k + 1 => by
    have : ∀ (a b : List AV), allOne a = true → allOne b = true → allOne (a ++ b) = true := by
      intro a b ha hb
      induction a with
      | nil => exact hb
      | cons x a ih =>
        simp only [allOne, bif_ite, List.cons_append] at ha ⊢
        split at ha
        · rename_i e; rw [if_pos e]; exact ih ha
        · cases ha
    exact this _ _ h (repA_one h k)
theorem zeroOk_spec {te : TI} {z : AV} (h : zeroOk te z = true) : z.cells.length = te.size ∧ allOne z.cells = true := by
  unfold zeroOk at h
  rw [bif_ite] at h
  split at h
  · rename_i e; exact ⟨beq_of e, h⟩
  · cases h
/-- a type's zero cells -/
theorem COK.run_zeroCells (hC : COK P C σ) {t : TypeId} {ti : TI} (ht : C.ty.get t = some ti) (w : World) {z : AV} (hz : ti.zero = some z) (ho : zeroOk ti z = true) :
    ∃ v, (zeroValue t).run P w = .ok v w ∧ v.cells.size = ti.size ∧ ∀ ρ, VRs σ ρ z.cells v.cells.toList := by
  obtain ⟨v, h1, h2⟩ := hC.run_zero ht w hz
  obtain ⟨h3, h4⟩ := zeroOk_spec ho
  refine ⟨v, h1, ?_, fun ρ => (h2 ρ).cells h4⟩
  have := ((h2 (fun _ => none)).cells h4).length
  simp at this; omega
theorem CR_of_VRs {cs : List AV} {l : List Value} (h : VRs σ ρ cs l) : CR σ ρ cs l.toArray 0 := fun i a hi => by
  obtain ⟨v, k1, k2⟩ := h.get i hi
  exact ⟨v, by simpa using k1, k2⟩
/-- what makes a block -/
theorem run_float (hC : COK P C σ) (hr : HR C σ ρ H w) (hf : FR C σ ρ fr tmps) {o : Oper} {b : Nat} {v : AV} {ab : AB} (h : floatA C fr o.op b = some (v, ab)) :
    ∃ v' o' size, (execOp (evC tmps) o).run P w = .ok (.value v') { w with heap := w.heap.push o' } ∧
      ∀ ρ', Ext ρ ρ' → ρ' b = some ⟨w.heap.size, 0, size⟩ → VR σ ρ' v v' ∧ BR C σ ρ' ab ⟨w.heap.size, 0, size⟩ o' := by
  obtain ⟨dst, op, ty, pos, after, guard⟩ := o
  simp only at h
  have cellsCase : ∀ (t : TypeId) (cs : List AV) (l : Array Value), VRs σ ρ cs l.toList → ∀ ρ', Ext ρ ρ' → ρ' b = some ⟨w.heap.size, 0, l.size⟩ →
      VR σ ρ' (.ptr b 0) (.pointer (some ⟨w.heap.size, 0, none⟩)) ∧ BR C σ ρ' (.cells cs t) ⟨w.heap.size, 0, l.size⟩ (.cells l t) := by
    intro t cs l hl ρ' he hb
    refine ⟨?_, ?_⟩
    · simp only [VR]; exact ⟨_, hb, rfl⟩
    · simp only [BR]
      refine ⟨l, rfl, rfl, ?_, ?_⟩
      · have := hl.length; simp at this; simp; omega
      · have := CR_of_VRs (hl.mono he); simpa using this
  cases op <;> simp only [floatA] at h <;> (try (cases h; done)) <;> simp only [execOp]
  case alloc t =>
    obtain ⟨ti, ht, h1⟩ := bind_some h
    obtain ⟨z, hz, h2⟩ := bind_some h1
    obtain ⟨ho, h3⟩ := bif_some h2
    cases h3
    obtain ⟨zv, k1, k2⟩ := hC.run_zero ht w hz
    refine ⟨.pointer (some ⟨w.heap.size, 0, none⟩), .cells zv.cells t, zv.cells.size, run_v ?_, cellsCase t _ _ ((k2 ρ).cells ho)⟩
    simp only [Instr.alloc, Sem.run_bind, k1, Result.andThen_ok, newVar, newRow, run_newObj, Sem.run_pure]
  case box t x =>
    obtain ⟨a, h1, h2⟩ := bind_some h
    obtain ⟨ho, h3⟩ := bif_some h2
    cases h3
    refine ⟨.pointer (some ⟨w.heap.size, 0, none⟩), .cells (evC tmps x).cells t, _, run_v ?_, cellsCase t _ _ ((hf.ev hr h1).cells ho)⟩
    simp only [Instr.box, Sem.run_bind, newVar, newRow, run_newObj, Sem.run_pure, Result.andThen_ok]
  case buildSlice t len parts =>
    obtain ⟨ps, h1, h2⟩ := bind_some h
    have hp := hf.parts hr h1
    unfold buildSliceA at h2
    obtain ⟨ti, ht, h3⟩ := bind_some h2
    have hu := (hC.ty t ti ht).1
    generalize hd : ti.under = d at h3
    rw [hd] at hu
    split at h3
    · rename_i e
      obtain ⟨te, hte, h4⟩ := bind_some h3
      obtain ⟨z, hz, h5⟩ := bind_some h4
      obtain ⟨hc, h6⟩ := bif_some h5
      obtain ⟨hc, c3⟩ := and_bif hc
      obtain ⟨c1, c2⟩ := and_bif hc
      have c1 := ble_of c1
      obtain ⟨cs, h7, h8⟩ := map_some h6
      cases h8
      obtain ⟨zv, k1, k2, k3⟩ := hC.run_zeroCells hte w hz (by unfold zeroOk; rw [c2]; exact c3)
      have hbase := repA_rel (k3 ρ) len
      obtain ⟨rs, m1, m2⟩ := fillA_rel h7 hbase hp.1 hp.2
      have hlen := m2.length
      have hl2 : rs.length = len * te.size := by
        have hfl : ∀ (place : Nat → Option (Nat × Nat)) (ps : List (Nat × AV)) (a r : List AV), fillA C place a ps = some r → r.length = a.length := by
          intro place ps
          induction ps with
          | nil => intro a r h; simp only [fillA] at h; cases h; rfl
          | cons q ps ih =>
            intro a r h
            obtain ⟨i, v⟩ := q
            simp only [fillA] at h
            obtain ⟨p, _, h⟩ := bind_some h
            obtain ⟨_, h⟩ := bif_some h
            obtain ⟨cs, hov, h⟩ := bind_some h
            rw [ih _ _ h]
            obtain ⟨rfl, hle⟩ := over_eq _ _ _ _ hov
            simp; omega
        have := hfl _ _ _ _ h7
        rw [repA_length] at this
        rw [← hlen, this, beq_of c2]
      refine ⟨.slice (some ⟨w.heap.size, 0, none⟩) len len, .cells rs.toArray e, rs.toArray.size, run_v ?_, ?_⟩
      · simp only [Instr.buildSlice, Sem.run_bind, Go.run_underlying hu, hC.run_sizeOf hte, Result.andThen_ok]
        rw [if_neg (by omega)]
        have m1' : Instr.fill (fun i => some (i * te.size, te.size)) (Array.map (fun x => zv.cells[x % zv.cells.size]!) (Array.range (len * te.size))) (parts.map fun (i, x) => (i, evC tmps x)).toList = some rs.toArray := by
          rw [← m1, Array.toArray_toList, k2]
          congr 1
          simp
        by_cases h0 : len * te.size = 0
        · rw [if_pos h0]
          simp only [Sem.run_bind, Sem.run_pure, Result.andThen_ok]
          have e0 : ∀ f : Nat → Value, Array.map f (Array.range 0) = #[] := fun f => by simp
          rw [h0, e0] at m1'
          rw [h0, e0, m1']
          rfl
        · rw [if_neg h0]
          simp only [Sem.run_bind, k1, Sem.run_pure, Result.andThen_ok]
          rw [m1']
          rfl
      · intro ρ' he hb
        obtain ⟨_, q2⟩ := cellsCase e cs rs.toArray (by simpa using m2) ρ' he hb
        refine ⟨?_, q2⟩
        simp only [VR]
        exact ⟨_, 0, len, hb, rfl, Nat.le_refl _, .inr rfl, by simp⟩
    · cases h3
  case makeMap t r =>
    cases r with
    | some _ => simp only at h; cases h
    | none =>
      simp only at h; cases h
      refine ⟨.map (some w.heap.size), .map #[] 0, 0, run_v (by simp [Instr.makeMap]), ?_⟩
      intro ρ' he hb
      refine ⟨?_, ?_⟩
      · simp only [VR]; exact ⟨_, hb, rfl⟩
      · simp only [BR]; exact ⟨trivial, [], rfl, rfl⟩
end Go.Sh
namespace Go.Sh
variable {σ : Env} {ρ ρ' : Rho} {C : Ctx} {H H' : AH} {w w' : World} {P : Program} {fr : AFr} {tmps : Array Value}
theorem HR.run_loadSlice' (hr : HR C σ ρ H w) {b o k c' a : Nat} {cs : List AV} {r : RB} (hl : H.loadN b o k = some cs) (hρ : ρ b = some r) (ha : c' = 0 ∨ a = r.shift + o) (hk : c' = 0 → k = 0) :
    ∃ vs : List Value, VRs σ ρ cs vs ∧ vs.length = k ∧ ∀ w', w'.heap = w.heap → (loadCells ⟨r.blk, a, none⟩ k).run P w' = .ok vs.toArray w' := by
  obtain ⟨vs, h1, h2, h3⟩ := hr.loadN hl hρ
  refine ⟨vs, h1, h2, fun w' hw => ?_⟩
  rcases ha with ha | ha
  · have hk0 := hk ha
    have : vs = [] := List.length_eq_zero_iff.1 (by omega)
    subst this
    rw [hk0]; rfl
  · subst ha
    rw [← h2]
    refine run_loadCells_list w' _ vs fun j v hv => ?_
    rw [addr_add]
    have := h3 j v hv
    simp only [World.cell?, hw] at this ⊢
    exact this
/-- what is appended: how many, and their cells -/
theorem srcCells_rel (hr : HR C σ ρ H w) {size n : Nat} {x : AV} {cs : List AV} {v : Value} (h : srcCells H size x = some (n, cs)) (hx : VR σ ρ x v) :
    ∃ vs : List Value, VRs σ ρ cs vs ∧ cs.length = n * size ∧ (Builtin.lenOf v).run P w = .ok n w ∧ (∀ w', w'.heap = w.heap → (Builtin.firstCells size n v).run P w' = .ok vs.toArray w') ∧ (∀ k a, v ≠ .int k a) := by
  unfold srcCells at h
  split at h
  · cases h
    simp only [VR] at hx; subst hx
    exact ⟨[], VRs.nil, by simp, rfl, fun _ _ => rfl, by intro _ _ e; cases e⟩
  · obtain ⟨l, hl, h2⟩ := map_some h
    cases h2
    simp only [VR] at hx
    obtain ⟨r, a, c', hρ, rfl, hlc, ha, hc⟩ := hx
    obtain ⟨vs, h1, h2, h3⟩ := hr.run_loadSlice' (P := P) hl hρ ha (by intro e; have : (0 : Nat) = 0 := rfl; rw [e] at hlc; rw [Nat.le_zero.1 hlc]; simp)
    exact ⟨vs, h1, by rw [h1.length, h2], rfl, h3, by intro _ _ e; cases e⟩
  · obtain ⟨e1, h2⟩ := bif_some h
    cases h2
    have e1 := beq_of e1
    subst e1
    simp only [VR] at hx; subst hx
    refine ⟨_, toBytes_rel _, by simp [toBytes_length], by simp [Builtin.lenOf, bsize], ?_, by intro _ _ e; cases e⟩
    intro w' _
    simp only [Builtin.firstCells, Sem.run_pure]
    congr 1
    apply Array.ext'
    simp
  · cases h
theorem nextcap_le {need cap : Nat} (h : cap < need) : Builtin.nextslicecap need cap ≤ 4 * need + 1000 := by
  unfold Builtin.nextslicecap
  split
  · omega
  · split
    · omega
    · simp only [Builtin.growBy]
      split
      · omega
      · split
        · omega
        · split
          · omega
          · split
            · omega
            · omega
/-- a world behind one draw -/
def drew1 (w : World) : World := { w with drawn := w.drawn + 1 }
theorem HR.drew1 (h : HR C σ ρ H w) : HR C σ ρ H (drew1 w) := (h.same (w' := Sh.drew1 w) rfl rfl rfl rfl).hr
section app
variable {ts tx elem : TypeId} {trest : List TypeId} {ty : TypeId} {s x : Value} {xrest : List Value} {base : Option Addr} {sLen sCap n size : Nat} {new : Array Value} {d : TypeDesc} {i : TypeInfo}
theorem run_append_none (hu : P.underlying ts = some (.slice elem)) (hz : (sizeOf elem).run P w = .ok size w) (hux : P.underlying tx = some d) (hd : ∀ k, d ≠ .int k)
    (hl : (Builtin.lenOf x).run P w = .ok n w) (hf : (Builtin.firstCells size n x).run P w = .ok new w) (hfit : sLen + n ≤ sCap) :
    (Builtin.append_ (List.toArray (ts :: tx :: trest)) ty (List.toArray (.slice none sLen sCap :: x :: xrest))).run P w = .ok (.slice none (sLen + n) sCap) w := by
  simp only [Builtin.append_, List.getElem?_toArray, List.getElem?_cons_zero, List.getElem?_cons_succ, Sem.run_bind, Go.run_underlying hu, Go.run_underlying hux, Result.andThen_ok, hz, Sem.run_pure]
  cases d <;> first
    | (exact absurd rfl (hd _))
    | (simp [hl, hf, hfit])
theorem run_append_fits {a : Addr} (hu : P.underlying ts = some (.slice elem)) (hz : (sizeOf elem).run P w = .ok size w) (hux : P.underlying tx = some d) (hd : ∀ k, d ≠ .int k)
    (hl : (Builtin.lenOf x).run P w = .ok n w) (hf : (Builtin.firstCells size n x).run P w = .ok new w) (hfit : sLen + n ≤ sCap) (hst : (storeCells (a.add (sLen * size)) new.toList).run P w = .ok () w') :
    (Builtin.append_ (List.toArray (ts :: tx :: trest)) ty (List.toArray (.slice (some a) sLen sCap :: x :: xrest))).run P w = .ok (.slice (some a) (sLen + n) sCap) w' := by
  simp only [Builtin.append_, List.getElem?_toArray, List.getElem?_cons_zero, List.getElem?_cons_succ, Sem.run_bind, Go.run_underlying hu, Go.run_underlying hux, Result.andThen_ok, hz, Sem.run_pure]
  cases d <;> first
    | (exact absurd rfl (hd _))
    | (simp [hl, hf, hfit, hst])
theorem run_append_grows {old : Array Value} {zv : Value} (hu : P.underlying ts = some (.slice elem)) (hi : P.info? elem = some i) (hz : i.size = size) (hb : i.bytes ≤ 65536) (hux : P.underlying tx = some d) (hd : ∀ k, d ≠ .int k)
    (hl : (Builtin.lenOf x).run P w = .ok n w) (hf : (Builtin.firstCells size n x).run P (drew1 w) = .ok new (drew1 w)) (ho : (Builtin.firstCells size sLen (.slice base sLen sCap)).run P (drew1 w) = .ok old (drew1 w))
    (hzv : (zeroValue elem).run P (drew1 w) = .ok zv (drew1 w)) (hfit : ¬ sLen + n ≤ sCap) (hlt : sLen + n ≤ 1000000) :
    ∃ cap', sLen + n ≤ cap' ∧ (Builtin.append_ (List.toArray (ts :: tx :: trest)) ty (List.toArray (.slice base sLen sCap :: x :: xrest))).run P w =
      .ok (.slice (some ⟨w.heap.size, 0, none⟩) (sLen + n) cap') { drew1 w with heap := w.heap.push (.cells (old ++ new ++ Builtin.zeroCells zv.cells (cap' - (sLen + n))) elem) } := by
  refine ⟨(Question.appendCap (sLen + n) sCap elem).cut (w.tape w.drawn (.appendCap (sLen + n) sCap elem)), by simp only [Question.cut]; omega, ?_⟩
  have hti : ∀ w, (typeInfo elem).run P w = .ok i w := fun w => by simp [typeInfo, hi]
  have hsz : ∀ w, (sizeOf elem).run P w = .ok size w := fun w => by simp [sizeOf, hti, hz]
  have h1 : ¬ ((sLen + n : Nat) : Int) > IntKind.i64.max := by
    have : IntKind.i64.max = 9223372036854775807 := by decide
    rw [this]; omega
  have hnc := nextcap_le (need := sLen + n) (cap := sCap) (by omega)
  have h2 : ¬ Builtin.nextslicecap (sLen + n) sCap * i.bytes > 2 ^ 48 := by
    have : Builtin.nextslicecap (sLen + n) sCap * i.bytes ≤ 4001000 * 65536 := Nat.mul_le_mul (by omega) hb
    omega
  simp only [Builtin.append_, List.getElem?_toArray, List.getElem?_cons_zero, List.getElem?_cons_succ, Sem.run_bind, Go.run_underlying hu, Go.run_underlying hux, Result.andThen_ok, hsz, Sem.run_pure]
  unfold drew1 at hf ho hzv
  cases d <;> first
    | (exact absurd rfl (hd _))
    | (simp only [hl, Result.andThen_ok, Bool.false_eq_true, if_false, hfit, Sem.run_bind, Sem.run_ite, h1, false_and, hti, h2, run_choose, Question.forced, run_askRoom, ho, hf, hzv, Bool.not_false, if_true, newRow, run_newObj, Sem.run_pure, drew1]; done)
/-- the cells of 'make(T, n)' -/
def zeroNew (zv : Value) (n size : Nat) : Array Value := if n * size = 0 then #[] else Builtin.zeroCells zv.cells n
theorem run_appendZ_none {kx k : IntKind} {zv : Value} (hu : P.underlying ts = some (.slice elem)) (hi : P.info? elem = some i) (hz : i.size = size) (hb : i.bytes ≤ 65536) (hux : P.underlying tx = some (.int kx)) (hn : n ≤ 1000)
    (hzv : (zeroValue elem).run P w = .ok zv w) (hfit : sLen + n ≤ sCap) :
    (Builtin.append_ (List.toArray (ts :: tx :: trest)) ty (List.toArray (.slice none sLen sCap :: .int k (n : Int) :: xrest))).run P w = .ok (.slice none (sLen + n) sCap) w := by
  have hti : ∀ w, (typeInfo elem).run P w = .ok i w := fun w => by simp [typeInfo, hi]
  have hsz : ∀ w, (sizeOf elem).run P w = .ok size w := fun w => by simp [sizeOf, hti, hz]
  have hw : IntKind.i64.wrap (n : Int) = n := IntWalk.i64_in _ ⟨by omega, by omega⟩
  have h0 : ¬ (n : Int) < 0 := by omega
  have h1 : ¬ (281474976710656 : Int) < (n : Int) * (i.bytes : Int) := by
    have : n * i.bytes ≤ 1000 * 65536 := Nat.mul_le_mul hn hb
    have : ((n * i.bytes : Nat) : Int) ≤ 65536000 := by omega
    simp only [Int.natCast_mul] at this
    omega
  simp only [Builtin.append_, List.getElem?_toArray, List.getElem?_cons_zero, List.getElem?_cons_succ, Sem.run_bind, Go.run_underlying hu, Go.run_underlying hux, Result.andThen_ok, hsz, Sem.run_pure]
  by_cases hns : n * size = 0
  · simp [asInt, asIntOf, hw, h0, h1, hti, hfit, hns]
  · simp [asInt, asIntOf, hw, h0, h1, hti, hfit, hns, hzv]
theorem run_appendZ_fits {kx k : IntKind} {zv : Value} {a : Addr} (hu : P.underlying ts = some (.slice elem)) (hi : P.info? elem = some i) (hz : i.size = size) (hb : i.bytes ≤ 65536) (hux : P.underlying tx = some (.int kx)) (hn : n ≤ 1000)
    (hzv : (zeroValue elem).run P w = .ok zv w) (hfit : sLen + n ≤ sCap) (hst : (storeCells (a.add (sLen * size)) (zeroNew zv n size).toList).run P w = .ok () w') :
    (Builtin.append_ (List.toArray (ts :: tx :: trest)) ty (List.toArray (.slice (some a) sLen sCap :: .int k (n : Int) :: xrest))).run P w = .ok (.slice (some a) (sLen + n) sCap) w' := by
  have hti : ∀ w, (typeInfo elem).run P w = .ok i w := fun w => by simp [typeInfo, hi]
  have hsz : ∀ w, (sizeOf elem).run P w = .ok size w := fun w => by simp [sizeOf, hti, hz]
  have hw : IntKind.i64.wrap (n : Int) = n := IntWalk.i64_in _ ⟨by omega, by omega⟩
  have h0 : ¬ (n : Int) < 0 := by omega
  have h1 : ¬ (281474976710656 : Int) < (n : Int) * (i.bytes : Int) := by
    have : n * i.bytes ≤ 1000 * 65536 := Nat.mul_le_mul hn hb
    have : ((n * i.bytes : Nat) : Int) ≤ 65536000 := by omega
    simp only [Int.natCast_mul] at this
    omega
  simp only [Builtin.append_, List.getElem?_toArray, List.getElem?_cons_zero, List.getElem?_cons_succ, Sem.run_bind, Go.run_underlying hu, Go.run_underlying hux, Result.andThen_ok, hsz, Sem.run_pure]
  unfold zeroNew at hst
  by_cases hns : n * size = 0
  · rw [if_pos hns] at hst
    simp only [List.toList_toArray] at hst
    simp [asInt, asIntOf, hw, h0, h1, hti, hfit, hns, hst]
  · rw [if_neg hns] at hst
    simp [asInt, asIntOf, hw, h0, h1, hti, hfit, hns, hzv, hst]
theorem run_appendZ_grows {kx k : IntKind} {old : Array Value} {zv : Value} (hu : P.underlying ts = some (.slice elem)) (hi : P.info? elem = some i) (hz : i.size = size) (hb : i.bytes ≤ 65536) (hux : P.underlying tx = some (.int kx)) (hn : n ≤ 1000)
    (ho : (Builtin.firstCells size sLen (.slice base sLen sCap)).run P (drew1 w) = .ok old (drew1 w))
    (hzv : ∀ w', (zeroValue elem).run P w' = .ok zv w') (hfit : ¬ sLen + n ≤ sCap) (hlt : sLen + n ≤ 1000000) :
    ∃ cap', sLen + n ≤ cap' ∧ (Builtin.append_ (List.toArray (ts :: tx :: trest)) ty (List.toArray (.slice base sLen sCap :: .int k (n : Int) :: xrest))).run P w =
      .ok (.slice (some ⟨w.heap.size, 0, none⟩) (sLen + n) cap') { drew1 w with heap := w.heap.push (.cells (old ++ zeroNew zv n size ++ Builtin.zeroCells zv.cells (cap' - (sLen + n))) elem) } := by
  refine ⟨(Question.appendCap (sLen + n) sCap elem).cut (w.tape w.drawn (.appendCap (sLen + n) sCap elem)), by simp only [Question.cut]; omega, ?_⟩
  have hti : ∀ w, (typeInfo elem).run P w = .ok i w := fun w => by simp [typeInfo, hi]
  have hsz : ∀ w, (sizeOf elem).run P w = .ok size w := fun w => by simp [sizeOf, hti, hz]
  have h1 : ¬ ((sLen + n : Nat) : Int) > IntKind.i64.max := by
    have : IntKind.i64.max = 9223372036854775807 := by decide
    rw [this]; omega
  have hnc := nextcap_le (need := sLen + n) (cap := sCap) (by omega)
  have h2 : ¬ Builtin.nextslicecap (sLen + n) sCap * i.bytes > 2 ^ 48 := by
    have : Builtin.nextslicecap (sLen + n) sCap * i.bytes ≤ 4001000 * 65536 := Nat.mul_le_mul (by omega) hb
    omega
  have hw : IntKind.i64.wrap (n : Int) = n := IntWalk.i64_in _ ⟨by omega, by omega⟩
  have h0 : ¬ (n : Int) < 0 := by omega
  have h3 : ¬ (n : Int) * (i.bytes : Int) > 2 ^ 48 := by
    have : n * i.bytes ≤ 1000 * 65536 := Nat.mul_le_mul hn hb
    have : ((n * i.bytes : Nat) : Int) ≤ 65536000 := by omega
    simp only [Int.natCast_mul] at this
    omega
  simp only [Builtin.append_, List.getElem?_toArray, List.getElem?_cons_zero, List.getElem?_cons_succ, Sem.run_bind, Go.run_underlying hu, Go.run_underlying hux, Result.andThen_ok, hsz, Sem.run_pure]
  unfold drew1 at ho
  unfold zeroNew
  by_cases hns : n * size = 0
  · rw [if_pos hns]
    simp only [asInt, asIntOf, hw, h0, h3, Int.toNat_natCast, Result.andThen_ok, Bool.not_true, Bool.false_eq_true, if_false, if_true, hfit, Sem.run_bind, Sem.run_ite, h1, false_and, hti, h2, run_choose, Question.forced, run_askRoom, ho, hns, hzv, newRow, run_newObj, Sem.run_pure, drew1]
  · rw [if_neg hns]
    simp only [asInt, asIntOf, hw, h0, h3, Int.toNat_natCast, Result.andThen_ok, Bool.not_true, Bool.false_eq_true, if_false, if_true, hfit, Sem.run_bind, Sem.run_ite, h1, false_and, hti, h2, run_choose, Question.forced, run_askRoom, ho, hns, hzv, newRow, run_newObj, Sem.run_pure, drew1]
end app
end Go.Sh
namespace Go.Sh
variable {σ : Env} {ρ ρ' : Rho} {C : Ctx} {H H' : AH} {w w' : World} {P : Program} {fr : AFr} {tmps : Array Value}
/-- what is known of an 'append' of 'vs' -/
structure AppRun (P : Program) (w : World) (elem : TypeId) (n size : Nat) (vs : List Value) (zv : Value) (run : Value → Result Value) : Prop where
  none_ : ∀ sLen sCap, sLen + n ≤ sCap → run (.slice none sLen sCap) = .ok (.slice none (sLen + n) sCap) w
  fits : ∀ a sLen sCap w', sLen + n ≤ sCap → (storeCells (a.add (sLen * size)) vs).run P w = .ok () w' → run (.slice (some a) sLen sCap) = .ok (.slice (some a) (sLen + n) sCap) w'
  grows : ∀ base sLen sCap old, (Builtin.firstCells size sLen (.slice base sLen sCap)).run P (drew1 w) = .ok old (drew1 w) → ¬ sLen + n ≤ sCap → sLen + n ≤ 1000000 →
    ∃ cap', sLen + n ≤ cap' ∧ run (.slice base sLen sCap) =
      .ok (.slice (some ⟨w.heap.size, 0, none⟩) (sLen + n) cap') { drew1 w with heap := w.heap.push (.cells (old ++ vs.toArray ++ Builtin.zeroCells zv.cells (cap' - (sLen + n))) elem) }
theorem zeroCells_size (z : Array Value) (n : Nat) : (Builtin.zeroCells z n).size = n * z.size := by simp [Builtin.zeroCells]
/-- the new block of an append -/
theorem new_append (hr : HR C σ ρ H w) {e : TypeId} {size need cap' : Nat} {old src : List AV} {ov vs : List Value} {zv : Value} (h1 : VRs σ ρ old ov) (h2 : VRs σ ρ src vs) (hl : ov.length + vs.length = need * size)
    (hz : zv.cells.size = size) (hcap : need ≤ cap') (h0 : size ≠ 0) :
    ∃ ρ', VR σ ρ' (.slice H.next 0 need need size) (.slice (some ⟨w.heap.size, 0, none⟩) need cap') ∧
      Post C σ ρ H w ρ' (H.new (.cells (old ++ src) e)) { drew1 w with heap := w.heap.push (.cells (ov.toArray ++ vs.toArray ++ Builtin.zeroCells zv.cells (cap' - need)) e) } := by
  have hsz : (ov.toArray ++ vs.toArray ++ Builtin.zeroCells zv.cells (cap' - need)).size = cap' * size := by
    simp only [Array.size_append, zeroCells_size, hz, List.size_toArray]
    have : need * size + (cap' - need) * size = cap' * size := by rw [← Nat.add_mul]; congr 1; omega
    omega
  have hext := hr.ext_upd (Nat.le_refl _) ⟨w.heap.size, 0, cap' * size⟩
  refine ⟨upd ρ H.next ⟨w.heap.size, 0, cap' * size⟩, ?_, ?_⟩
  · simp only [VR]
    refine ⟨_, 0, cap', upd_same _ _ _, rfl, hcap, .inr rfl, ?_⟩
    rw [if_neg h0]
    exact ⟨hcap, by simp⟩
  · refine hr.new (o' := .cells (ov.toArray ++ vs.toArray ++ Builtin.zeroCells zv.cells (cap' - need)) e) (by simp) (by simp) (fun j hj => ?_) rfl rfl rfl ?_
    · simp only [Array.getElem?_push]
      rw [if_neg (by omega)]
    · simp only [BR]
      refine ⟨_, rfl, hsz, ?_, ?_⟩
      · rw [hsz]
        have := (VRs.append h1 h2).length
        simp at this ⊢
        have h3 := h1.length; have h4 := h2.length
        have : need * size ≤ cap' * size := Nat.mul_le_mul_right _ hcap
        omega
      · intro i a hi
        obtain ⟨v, k1, k2⟩ := ((VRs.append h1 h2).mono hext).get i hi
        refine ⟨v, ?_, k2⟩
        have hlt : i < (ov ++ vs).length := by
          rcases Nat.lt_or_ge i (ov ++ vs).length with h' | h'
          · exact h'
          · rw [List.getElem?_eq_none h'] at k1; cases k1
        rw [Nat.zero_add, Array.getElem?_append_left (by simpa using hlt)]
        rw [← k1]; simp
theorem storeCells_nil {a : Addr} : (storeCells a []).run P w = .ok () w := rfl
theorem appendOk_spec {te : TI} (h : appendOk te = true) : ∃ z, te.zero = some z ∧ te.size ≠ 0 ∧ te.bytes ≤ 65536 ∧ zeroOk te z = true := by
  unfold appendOk at h
  split at h
  · rename_i z hz
    obtain ⟨h, h3⟩ := and_bif h
    obtain ⟨h1, h2⟩ := and_bif h
    refine ⟨z, hz, ?_, ble_of h2, h3⟩
    intro e; rw [e] at h1; simp at h1
  · cases h
theorem run_append2 (hr : HR C σ ρ H w) {e : TypeId} {te : TI} {n : Nat} {src : List AV} {vs : List Value} {s r : AV} {sv zv : Value} {run : Value → Result Value}
    (ha : append2 H e te n src s = some (r, H')) (h0 : te.size ≠ 0) (hz : zv.cells.size = te.size) (hs : VR σ ρ s sv) (hv : VRs σ ρ src vs) (hn : src.length = n * te.size) (hone : allOne src = true) (hnl : n ≤ 1000000)
    (hR : AppRun P w e n te.size vs zv run) : ∃ r' w' ρ', run sv = .ok r' w' ∧ VR σ ρ' r r' ∧ Post C σ ρ H w ρ' H' w' := by
  have hvl := hv.length
  unfold append2 at ha
  split at ha
  · -- nil
    simp only [VR] at hs; subst hs
    rw [bif_ite] at ha
    split at ha
    · rename_i hn0
      cases ha
      have := beq_of hn0; subst this
      exact ⟨_, w, ρ, hR.none_ 0 0 (by omega), by simp only [VR], Post.refl hr⟩
    · rename_i hn0
      cases ha
      have hn0 : n ≠ 0 := fun e => by subst e; simp at hn0
      obtain ⟨cap', k1, k2⟩ := hR.grows none 0 0 #[] rfl (by omega) (by omega)
      obtain ⟨ρ', k3, k4⟩ := new_append (need := n) (cap' := cap') (e := e) hr VRs.nil hv (by simp; omega) hz (by omega) h0
      rw [Nat.zero_add] at k2
      exact ⟨_, _, ρ', k2, k3, by simpa using k4⟩
  · -- a slice that is there
    rename_i b o len cap ext
    have hs' := hs
    simp only [VR] at hs
    obtain ⟨rb, a, c', hρ, rfl, hlc, haddr, hcc⟩ := hs
    have hcap : cap ≤ c' := by split at hcc <;> omega
    rw [bif_ite] at ha
    split at ha
    · rename_i hfit
      have hfit := ble_of hfit
      obtain ⟨H1, hst, e1⟩ := map_some ha
      cases e1
      obtain ⟨w1, m1, m2⟩ := hr.run_storeCells (P := P) hst hρ hv
      refine ⟨_, w1, ρ, hR.fits _ _ _ w1 (by omega) ?_, ?_, m2⟩
      · rcases haddr with h' | h'
        · have hn0 : n = 0 := by omega
          subst hn0
          have : vs = [] := List.length_eq_zero_iff.1 (by rw [← hvl, hn]; simp)
          subst this
          rw [storeCells_nil] at m1 ⊢
          exact m1
        · subst h'
          rw [addr_add]
          rw [← Nat.add_assoc] at m1
          exact m1
      · simp only [VR]
        exact ⟨rb, a, c', hρ, rfl, by omega, haddr, hcc⟩
    · rename_i hfit
      have hfit : ¬ len + n ≤ cap := fun h => hfit (Nat.ble_eq_true_of_le h)
      obtain ⟨hlim, ha2⟩ := bif_some ha
      have hlim := ble_of hlim
      obtain ⟨old, hold, ha3⟩ := bind_some ha2
      rw [bif_ite] at ha3
      have hgrow : ¬ len + n ≤ c' → ∃ ov : List Value, VRs σ ρ old ov ∧ ov.length = len * te.size ∧ ∃ cap', len + n ≤ cap' ∧ run (.slice (some ⟨rb.blk, a, none⟩) len c') =
          .ok (.slice (some ⟨w.heap.size, 0, none⟩) (len + n) cap') { drew1 w with heap := w.heap.push (.cells (ov.toArray ++ vs.toArray ++ Builtin.zeroCells zv.cells (cap' - (len + n))) e) } := by
        intro hno
        obtain ⟨ov, q1, q2, q3⟩ := hr.drew1.run_loadSlice (P := P) hold hρ haddr (by intro e; rw [e] at hlc; rw [Nat.le_zero.1 hlc]; simp)
        exact ⟨ov, q1, q2, hR.grows _ _ _ ov.toArray (by simpa [Builtin.firstCells] using q3) hno hlim⟩
      split at ha3
      · -- its capacity is known
        rename_i hx
        have hx := beq_of hx
        subst hx
        rw [if_pos rfl] at hcc
        cases ha3
        obtain ⟨ov, q1, q2, cap', q3, q4⟩ := hgrow (by omega)
        obtain ⟨ρ', k3, k4⟩ := new_append (need := len + n) (cap' := cap') (e := e) hr q1 hv (by rw [q2, Nat.add_mul]; omega) hz q3 h0
        exact ⟨_, _, ρ', q4, k3, k4⟩
      · rename_i hx
        have hx : ¬ ext = 0 := fun e => hx (by rw [e]; rfl)
        rw [if_neg hx] at hcc
        obtain ⟨hxe, ha4⟩ := bif_some ha3
        have hxe := beq_of hxe
        subst hxe
        split at ha4
        · rename_i cs e' hg
          obtain ⟨hc, ha5⟩ := bif_some ha4
          obtain ⟨hc1, hc2⟩ := and_bif hc
          have hc1 := beq_of hc1; have hc2 := beq_of hc2
          subst hc2
          cases ha5
          by_cases hin : len + n ≤ c'
          · -- in its place
            obtain ⟨s2, ob, e1, e2, e3⟩ := hr.live b _ hg
            rw [hρ] at e1; cases e1
            simp only [BR] at e3
            obtain ⟨c, rfl, hsz, hsh, hcr⟩ := e3
            have hc0 : c' ≠ 0 := by omega
            have haa : a = rb.shift + o := by rcases haddr with h' | h'; · omega
                                              · exact h'
            subst haa
            have hmul : len * te.size + n * te.size ≤ c' * te.size := by rw [← Nat.add_mul]; exact Nat.mul_le_mul_right _ hin
            have hrun := run_storeCells_at P rb.blk (rb.shift + o + len * te.size) e vs 0 c w e2 (by omega) (hv.oneCell hone)
            have holdl : old.length = len * te.size ∧ ∀ i x, old[i]? = some x → cs[o + i]? = some x := by
              unfold AH.loadN at hold
              rw [hg] at hold
              simp only at hold
              obtain ⟨rfl, hle⟩ := sub_eq _ _ _ _ hold
              refine ⟨by simp; omega, fun i x hi => ?_⟩
              rw [List.getElem?_take] at hi
              split at hi
              · rwa [List.getElem?_drop] at hi
              · cases hi
            have hext := hr.ext_upd (Nat.le_refl _) ⟨rb.blk, rb.shift + o, rb.size⟩
            refine ⟨_, _, upd ρ H.next ⟨rb.blk, rb.shift + o, rb.size⟩, hR.fits _ _ _ _ hin (by rw [addr_add]; exact hrun), ?_, ?_⟩
            · simp only [VR]
              exact ⟨_, _, c', upd_same _ _ _, rfl, hin, .inr (by simp), by rw [if_neg hx]; exact ⟨hin, by simp; omega⟩⟩
            · refine hr.alias hg hρ (setRow_size _ _ _) (setRow_heap w rb.blk c _ e _ e2) (fun j hj => setRow_other _ _ _ _ hj) rfl rfl rfl ?_
              simp only [BR]
              refine ⟨_, rfl, by simp; omega, by simp [holdl.1]; omega, ?_⟩
              intro i x hi
              simp only [Nat.add_zero, List.getElem?_toArray]
              have htc : (List.take (rb.shift + o + len * te.size) c.toList).length = rb.shift + o + len * te.size := by simp; omega
              rw [List.append_assoc, List.getElem?_append, htc]
              rw [List.getElem?_append, holdl.1] at hi
              by_cases hlt : i < len * te.size
              · rw [if_pos hlt] at hi
                rw [if_pos (by omega), List.getElem?_take, if_pos (by omega)]
                obtain ⟨v, u1, u2⟩ := hcr _ _ (holdl.2 i x hi)
                exact ⟨v, by rw [show rb.shift + o + i = rb.shift + (o + i) by omega]; simpa using u1, u2.mono hext⟩
              · rw [if_neg hlt] at hi
                rw [if_neg (by omega), List.getElem?_append]
                obtain ⟨y, u1, u2⟩ := hv.get _ hi
                have hlt2 : i - len * te.size < vs.length := by
                  rcases Nat.lt_or_ge (i - len * te.size) vs.length with h' | h'
                  · exact h'
                  · rw [List.getElem?_eq_none h'] at u1; cases u1
                rw [if_pos (by omega)]
                exact ⟨y, by rw [show rb.shift + o + i - (rb.shift + o + len * te.size) = i - len * te.size by omega]; exact u1, u2.mono hext⟩
          · -- a new one
            obtain ⟨ov, q1, q2, cap', q3, q4⟩ := hgrow hin
            obtain ⟨ρ', k3, k4⟩ := new_append (need := len + n) (cap' := cap') (e := e) (hr.kill b).hr q1 hv (by rw [q2, Nat.add_mul]; omega) hz q3 h0
            exact ⟨_, _, ρ', q4, k3, (hr.kill b).trans k4⟩
        · cases ha4
  · cases ha
end Go.Sh
namespace Go.Sh
variable {σ : Env} {ρ ρ' : Rho} {C : Ctx} {H H' : AH} {w w' : World} {P : Program} {fr : AFr} {tmps : Array Value}
theorem symSlc_mem {i z : Nat} : ∀ {l : List (Nat × Nat)}, symSlc i z l = true → (i, z) ∈ l
  | [], h => by simp [symSlc] at h
  | (j, q) :: l, h => by
    simp only [symSlc, bif_ite] at h
    split at h
    · rename_i e
      simp only [Bool.and_eq_true] at e
      rw [beq_of e.1, beq_of e.2]; simp
    · exact List.mem_cons_of_mem _ (symSlc_mem h)
/-- the cells of a slice that no run touches -/
theorem HR.symCells (hr : HR C σ ρ H w) {p : Option Addr} {n z : Nat} {c : Nat}
    (h : n = 0 ∨ ∃ blk off cells e fz, p = some ⟨blk, off, none⟩ ∧ σ.old blk = some (.cells cells e fz) ∧ off + n * z ≤ cells.size) :
    ∃ vs : List Value, ∀ w', w'.heap = w.heap → (Builtin.firstCells z n (.slice p n c)).run P w' = .ok vs.toArray w' := by
  rcases h with rfl | ⟨blk, off, cells, e, fz, rfl, ho, hsz⟩
  · refine ⟨[], fun w' _ => ?_⟩
    cases p <;> simp [Builtin.firstCells, loadCells, loadCellsFrom, Sem.run_pure]
  · have hb := (hr.old blk _ ho).1
    refine ⟨(cells.toList.drop off).take (n * z), fun w' hw => ?_⟩
    have := run_loadCells_list (P := P) w' ⟨blk, off, none⟩ ((cells.toList.drop off).take (n * z)) (fun j v hv => by
      rw [addr_add]
      rw [List.getElem?_take] at hv
      split at hv
      · rw [List.getElem?_drop] at hv
        simp only [World.cell?, hw, hb]
        simpa using hv
      · cases hv)
    have hl : ((cells.toList.drop off).take (n * z)).length = n * z := by simp; omega
    rw [hl] at this
    simpa [Builtin.firstCells] using this
/-- a slice that no run touches, behind an empty one: a value of which nothing is known -/
theorem run_appendSym (hC : COK P C σ) (hr : HR C σ ρ H w) {ts tx ty e : TypeId} {trest : List TypeId} {te : TI} {i : Nat} {s : AV} {sv xv : Value} {xrest : List Value} {d : TypeDesc}
    (hu : P.underlying ts = some (.slice e)) (hux : P.underlying tx = some d) (hne : ∀ k, d ≠ .int k) (hte : C.ty.get e = some te) (hok : appendOk te = true)
    (h1 : symSlc i te.size C.slc = true) (h2 : emptyS s = true) (hs : VR σ ρ s sv) (hx : VR σ ρ (.sym i) xv) :
    ∃ r' w' ρ', (Builtin.append_ (List.toArray (ts :: tx :: trest)) ty (List.toArray (sv :: xv :: xrest))).run P w = .ok r' w' ∧ VR σ ρ' .junk r' ∧ Post C σ ρ H w ρ' H w' := by
  obtain ⟨z, hz, g0, g1, g2⟩ := appendOk_spec hok
  obtain ⟨_, _, inf, i1, i2, i3, i4⟩ := hC.ty e te hte
  obtain ⟨zv, z1, z2, z3⟩ := hC.run_zeroCells hte w hz g2
  obtain ⟨zv', z4, z5⟩ := i4 z hz
  have hzrun : ∀ w', (zeroValue e).run P w' = .ok zv' w' := fun w' => by simp [zeroValue, typeInfo, i1, z4]
  obtain ⟨p, n, c, e1, e2, e3⟩ := hC.slc _ _ (symSlc_mem h1)
  simp only [VR] at hx
  obtain ⟨rfl, _⟩ := hx
  rw [e1]
  obtain ⟨vs, hvs⟩ := hr.symCells (P := P) (c := c) e3
  have hlen : (Builtin.lenOf (.slice p n c)).run P w = .ok n w := by simp [Builtin.lenOf, Sem.run_pure]
  have hsv : ∃ q, sv = .slice q 0 0 := by
    unfold emptyS at h2
    split at h2
    · simp only [VR] at hs; exact ⟨none, hs⟩
    · rename_i b o len cap ext
      simp only [Bool.and_eq_true] at h2
      have a1 := beq_of h2.1.1; have a2 := beq_of h2.1.2; have a3 := beq_of h2.2
      subst a1; subst a2; subst a3
      simp only [VR, if_true] at hs
      obtain ⟨r, a, c', _, rfl, _, _, rfl⟩ := hs
      exact ⟨_, rfl⟩
    · cases h2
  obtain ⟨q, rfl⟩ := hsv
  by_cases hn : n = 0
  · subst hn
    have hv0 : vs = [] := by
      have := hvs w rfl
      rcases p with _ | p <;> simp [Builtin.firstCells, loadCells, loadCellsFrom, Sem.run_pure] at this <;> exact this
    subst hv0
    cases q with
    | none => exact ⟨_, w, ρ, run_append_none hu (hC.run_sizeOf hte w) hux hne hlen (hvs w rfl) (by omega), by simp only [VR]; rfl, Post.refl hr⟩
    | some q => exact ⟨_, w, ρ, run_append_fits hu (hC.run_sizeOf hte w) hux hne hlen (hvs w rfl) (by omega) storeCells_nil, by simp only [VR]; rfl, Post.refl hr⟩
  · obtain ⟨cap', k1, k2⟩ := run_append_grows (ty := ty) (trest := trest) (xrest := xrest) (sLen := 0) (sCap := 0) (old := #[]) (base := q) hu i1 i2 (by omega) hux hne hlen (hvs (drew1 w) rfl)
      (by cases q <;> simp [Builtin.firstCells, loadCells, loadCellsFrom, Sem.run_pure]) (hzrun _) (by omega) (by omega)
    refine ⟨_, _, ρ, k2, by simp only [VR]; rfl, hr.below ⟨rfl, rfl, rfl, by simp, fun k hk => ?_⟩⟩
    simp only [Array.getElem?_push]
    rw [if_neg (by omega)]
theorem run_appendA (hC : COK P C σ) (hr : HR C σ ρ H w) {ts tx ty : TypeId} {trest : List TypeId} {s x r : AV} {sv xv : Value} {xrest : List Value} (h : appendA C H ts tx s x = some (r, H')) (hs : VR σ ρ s sv) (hx : VR σ ρ x xv) :
    ∃ r' w' ρ', (Builtin.append_ (List.toArray (ts :: tx :: trest)) ty (List.toArray (sv :: xv :: xrest))).run P w = .ok r' w' ∧ VR σ ρ' r r' ∧ Post C σ ρ H w ρ' H' w' := by
  unfold appendA at h
  obtain ⟨ti, ht, h1⟩ := bind_some h
  obtain ⟨tix, htx, h2⟩ := bind_some h1
  have hu := (hC.ty ts ti ht).1
  have hux := (hC.ty tx tix htx).1
  generalize hd : ti.under = d at h2
  rw [hd] at hu
  split at h2
  · rename_i e
    generalize hdx : tix.under = dx at h2
    rw [hdx] at hux
    split at h2
    · -- zeros
      rename_i kx
      obtain ⟨te, hte, h3⟩ := bind_some h2
      obtain ⟨hok, h4⟩ := bif_some h3
      obtain ⟨z, hz, g0, g1, g2⟩ := appendOk_spec hok
      split at h4
      · rename_i k n
        obtain ⟨z', hz', h5⟩ := bind_some h4
        rw [hz] at hz'; cases hz'
        obtain ⟨hn, h6⟩ := bif_some h5
        have hn := ble_of hn
        simp only [VR] at hx; subst hx
        obtain ⟨_, _, i, i1, i2, i3, i4⟩ := hC.ty e te hte
        obtain ⟨zv, z1, z2, z3⟩ := hC.run_zeroCells hte w hz g2
        obtain ⟨zv', z4, z5⟩ := i4 z hz
        have hzrun : ∀ w', (zeroValue e).run P w' = .ok zv' w' := fun w' => by simp [zeroValue, typeInfo, i1, z4]
        have : zv = zv' := by have := hzrun w; rw [z1] at this; cases this; rfl
        subst this
        have hrep := repA_rel (z3 ρ) n
        have hzn : (zeroNew zv n te.size) = ((Array.range (n * zv.cells.size)).map fun i => zv.cells[i % zv.cells.size]!) := by
          unfold zeroNew Builtin.zeroCells
          rw [z2]
          split
          · rename_i h0; rw [h0]; simp
          · rfl
        refine run_append2 (P := P) (run := fun v => (Builtin.append_ (List.toArray (ts :: tx :: trest)) ty (List.toArray (v :: .int k (Int.ofNat n) :: xrest))).run P w) hr h6 g0 z2 hs (by rw [← hzn] at hrep; exact hrep)
          (by rw [repA_length, (zeroOk_spec g2).1]) (repA_one (zeroOk_spec g2).2 n) (by omega) ?_
        refine ⟨fun sLen sCap hf => ?_, fun a sLen sCap w' hf hst => ?_, fun base sLen sCap old ho hf hlim => ?_⟩
        · exact run_appendZ_none (kx := kx) hu i1 i2 (by omega) hux hn z1 hf
        · exact run_appendZ_fits (kx := kx) hu i1 i2 (by omega) hux hn z1 hf hst
        · have := run_appendZ_grows (kx := kx) (k := k) (trest := trest) (ty := ty) (xrest := xrest) hu i1 i2 (by omega) hux hn ho hzrun hf hlim
          simpa using this
      · cases h4
    · -- what is there
      rename_i hne
      obtain ⟨te, hte, h3⟩ := bind_some h2
      obtain ⟨hok, h4⟩ := bif_some h3
      split at h4
      · rename_i j
        obtain ⟨k1, k2⟩ := bif_some h4
        simp only [Bool.and_eq_true] at k1
        cases k2
        exact run_appendSym hC hr hu hux (fun k e => hne k e) hte hok k1.1 k1.2 hs hx
      obtain ⟨z, hz, g0, g1, g2⟩ := appendOk_spec hok
      obtain ⟨src, hsrc, h5⟩ := bind_some h4
      obtain ⟨hn, h6⟩ := bif_some h5
      obtain ⟨hone, hn⟩ := and_bif hn
      have hn := ble_of hn
      obtain ⟨n, cs⟩ := src
      obtain ⟨_, _, i, i1, i2, i3, i4⟩ := hC.ty e te hte
      obtain ⟨zv, z1, z2, z3⟩ := hC.run_zeroCells hte w hz g2
      obtain ⟨zv', z4, z5⟩ := i4 z hz
      have hzrun : ∀ w', (zeroValue e).run P w' = .ok zv' w' := fun w' => by simp [zeroValue, typeInfo, i1, z4]
      have : zv = zv' := by have := hzrun w; rw [z1] at this; cases this; rfl
      subst this
      obtain ⟨vs, v1, v2, v3, v4, v5⟩ := srcCells_rel (P := P) hr hsrc hx
      refine run_append2 (P := P) (run := fun v => (Builtin.append_ (List.toArray (ts :: tx :: trest)) ty (List.toArray (v :: xv :: xrest))).run P w) hr h6 g0 z2 hs v1 v2 hone hn ?_
      refine ⟨fun sLen sCap hf => ?_, fun a sLen sCap w' hf hst => ?_, fun base sLen sCap old ho hf hlim => ?_⟩
      · exact run_append_none hu (hC.run_sizeOf hte w) hux (fun k e => hne k e) v3 (v4 w rfl) hf
      · exact run_append_fits hu (hC.run_sizeOf hte w) hux (fun k e => hne k e) v3 (v4 w rfl) hf hst
      · exact run_append_grows hu i1 i2 (by omega) hux (fun k e => hne k e) v3 (v4 (drew1 w) rfl) ho (hzrun _) hf hlim
  · cases h2
end Go.Sh
namespace Go.Sh
variable {σ : Env} {ρ ρ' : Rho} {C : Ctx} {H H' : AH} {w w' : World} {P : Program} {fr : AFr} {tmps : Array Value}
/-! maps -/
theorem HR.putMap (hr : HR C σ ρ H w) {b : Nat} {es : List AE} {clock : Nat} (hb : H.get b = some (.map es clock)) {r : RB} (hρ : ρ b = some r) {es' : List AE} {ms' : List MapEntry} {clock' : Nat} (he : ERs σ ρ es' ms') :
    ∃ w', (setObj r.blk (.map ms'.toArray clock')).run P w = .ok () w' ∧ Post C σ ρ H w ρ (H.put b (.map es' clock')) w' := by
  obtain ⟨h0, ms, e2, _, _⟩ := hr.getMap (P := P) hb hρ
  have hlt : r.blk < w.heap.size := hr.rng _ _ hρ
  refine ⟨{ w with heap := w.heap.setIfInBounds r.blk (.map ms'.toArray clock') }, by simp [setObj, Sem.run, e2], ?_⟩
  refine hr.put hb hρ (by simp) (o' := .map ms'.toArray clock') (by simp [hlt]) (fun j hj => by simp [Ne.symm hj]) rfl rfl rfl ?_
  simp only [BR]
  exact ⟨h0, ms', rfl, he⟩
theorem modAt_rel (f : AE → AE) (g : MapEntry → MapEntry) : ∀ {es : List AE} {ms : List MapEntry} (i : Nat), ERs σ ρ es ms →
    (∀ e m, es[i]? = some e → VR σ ρ e.key m.key → VR σ ρ e.val m.val → m.born = e.born → ms[i]? = some m → VR σ ρ (f e).key (g m).key ∧ VR σ ρ (f e).val (g m).val ∧ (g m).born = (f e).born) → ERs σ ρ (modAt es i f) (ms.modify i g)
  | [], ms, i, h, _ => by simp only [ERs] at h; subst h; simp [modAt, ERs]
  | e :: es, ms, i, h, hf => by
    simp only [ERs] at h
    obtain ⟨m, ms, rfl, h1, h2, h3, h4⟩ := h
    simp only [modAt, bif_ite]
    cases i with
    | zero =>
      obtain ⟨k1, k2, k3⟩ := hf e m rfl h1 h2 h3 rfl
      simp only [Nat.beq_eq, if_true]
      rw [List.modify_zero_cons]
      simp only [ERs]
      exact ⟨_, _, rfl, k1, k2, k3, h4⟩
    | succ i =>
      simp only [Nat.beq_eq, Nat.add_eq_zero_iff, Nat.succ_ne_self, and_false, if_false, Nat.add_sub_cancel, List.modify_succ_cons]
      simp only [ERs]
      exact ⟨m, _, rfl, h1, h2, h3, modAt_rel f g i h4 (fun e' m' a b c d x => hf e' m' (by simpa using a) b c d (by simpa using x))⟩
theorem eraseAt_rel : ∀ {es : List AE} {ms : List MapEntry} (i : Nat), ERs σ ρ es ms → ERs σ ρ (eraseAt es i) (ms.eraseIdx i)
  | [], ms, i, h => by simp only [ERs] at h; subst h; simp [eraseAt, ERs]
  | e :: es, ms, i, h => by
    simp only [ERs] at h
    obtain ⟨m, ms, rfl, h1, h2, h3, h4⟩ := h
    simp only [eraseAt, bif_ite]
    cases i with
    | zero => simpa using h4
    | succ i =>
      simp only [Nat.beq_eq, Nat.add_eq_zero_iff, Nat.succ_ne_self, and_false, if_false, Nat.add_sub_cancel, List.eraseIdx_cons_succ]
      simp only [ERs]
      exact ⟨m, _, rfl, h1, h2, h3, eraseAt_rel i h4⟩
theorem ERs.append : ∀ {es fs : List AE} {ms ns : List MapEntry}, ERs σ ρ es ms → ERs σ ρ fs ns → ERs σ ρ (es ++ fs) (ms ++ ns)
  | [], _, _, _, h, k => by simp only [ERs] at h; subst h; exact k
  | _ :: _, _, _, _, h, k => by
    simp only [ERs] at h
    obtain ⟨m, ms, rfl, h1, h2, h3, h4⟩ := h
    simp only [List.cons_append, ERs]
    exact ⟨m, _, rfl, h1, h2, h3, h4.append k⟩
theorem ERs.get : ∀ {es : List AE} {ms : List MapEntry} (_ : ERs σ ρ es ms) (i : Nat) {m : MapEntry}, ms[i]? = some m → ∃ e, es[i]? = some e ∧ VR σ ρ e.key m.key ∧ VR σ ρ e.val m.val ∧ m.born = e.born
  | [], _, h, i, m, hi => by simp only [ERs] at h; subst h; simp at hi
  | _ :: _, _, h, 0, m, hi => by
    simp only [ERs] at h
    obtain ⟨m', ms, rfl, h1, h2, h3, h4⟩ := h
    simp at hi; subst hi; exact ⟨_, rfl, h1, h2, h3⟩
  | _ :: _, _, h, i + 1, m, hi => by
    simp only [ERs] at h
    obtain ⟨m', ms, rfl, h1, h2, h3, h4⟩ := h
    simpa using h4.get i (by simpa using hi)
/-- the key that was found is the one that was asked for -/
theorem findNow_key {d : TypeDesc} {kv : Value} : ∀ {ms : List MapEntry} {i j : Nat} {v : Value}, Instr.findNow d kv ms i = some (some (j, v)) → ∃ m, i ≤ j ∧ ms[j - i]? = some m ∧ Instr.sameNow d kv m.key = some true ∧ m.val = v
  | [], i, j, v, h => by simp [Instr.findNow] at h
  | e :: es, i, j, v, h => by
    unfold Instr.findNow at h
    split at h
    · rename_i hs
      cases h
      exact ⟨e, Nat.le_refl _, by simp, hs, rfl⟩
    · obtain ⟨m, h1, h2, h3, h4⟩ := findNow_key h
      exact ⟨m, by omega, by rw [show j - i = (j - (i + 1)) + 1 by omega]; simpa using h2, h3, h4⟩
    · cases h
theorem sameNow_bits {d : TypeDesc} {k : AV} {kv e : Value} (hk : keyKind d k = true) (hkv : VR σ ρ k kv) (h : Instr.sameNow d kv e = some true) (n : Nat) : Instr.sameBits n e kv = true := by
  unfold keyKind at hk
  split at hk
  · simp only [VR] at hkv; subst hkv
    cases e <;> simp only [Instr.sameNow] at h <;> (try cases h)
    split at h
    · rename_i hkk; subst hkk
      have := Option.some.inj h
      simp at this; subst this
      cases n <;> simp [Instr.sameBits]
    · cases h
  · simp only [VR] at hkv; subst hkv
    cases e <;> simp only [Instr.sameNow] at h <;> (try cases h)
    rename_i s t
    have h := Option.some.inj h
    have hst : ∀ (a b : ByteArray), (a == b) = true → (b == a) = true := by
      intro a b hab
      have : ByteArray.beq a b = true := hab
      unfold ByteArray.beq at this
      show ByteArray.beq b a = true
      unfold ByteArray.beq
      simp at this ⊢; exact this.symm
    cases n <;> simp only [Instr.sameBits] <;> exact hst _ _ h
  · cases hk
theorem run_findKey2 {d : TypeDesc} {k : AV} {kv : Value} {t : TypeId} (hk : keyKind d k = true) (hkv : VR σ ρ k kv) (hu : P.underlying t = some d) {es : List AE} {ms : List MapEntry} {r : Option (Nat × AV)}
    (h : findE k es 0 = some r) (he : ERs σ ρ es ms) : (r = none ∧ (Instr.findKey t kv ms).run P w = .ok none w) ∨
      ∃ i a v m, r = some (i, a) ∧ (Instr.findKey t kv ms).run P w = .ok (some (i, v)) w ∧ VR σ ρ a v ∧ ms[i]? = some m ∧ (Instr.keyThatStays m.key kv).run P w = .ok kv w ∧ m.val = v := by
  obtain ⟨r', h1, h2⟩ := findE_rel hk hkv h he
  have hrun : (Instr.findKey t kv ms).run P w = .ok r' w := by
    simp only [Instr.findKey, Sem.run_bind, Go.run_underlying hu, Result.andThen_ok, h1, Sem.run_pure]
  cases r with
  | none =>
    cases r' with
    | none => exact .inl ⟨rfl, hrun⟩
    | some _ => simp [FR2] at h2
  | some p =>
    cases r' with
    | none => simp [FR2] at h2
    | some q =>
      obtain ⟨i, a⟩ := p; obtain ⟨j, v⟩ := q
      obtain ⟨rfl, hav⟩ := h2
      obtain ⟨m, _, hm, hs, hmv⟩ := findNow_key h1
      refine .inr ⟨i, a, v, m, rfl, hrun, hav, by simpa using hm, ?_, hmv⟩
      simp [Instr.keyThatStays, sameNow_bits hk hkv hs]
theorem run_mapUpdateA (hC : COK P C σ) (hr : HR C σ ρ H w) {t : TypeId} {m k v : AV} {mv kv vv : Value} (h : mapUpdateA C H t m k v = some H') (hm : VR σ ρ m mv) (hk : VR σ ρ k kv) (hv : VR σ ρ v vv) :
    ∃ w', (Instr.mapUpdate t mv kv vv).run P w = .ok () w' ∧ Post C σ ρ H w ρ H' w' := by
  unfold mapUpdateA at h
  obtain ⟨mk, hmk, h1⟩ := bind_some h
  obtain ⟨kt, et, hu, huk, hte⟩ := mapOf_spec hC hmk
  obtain ⟨hkk, h2⟩ := bif_some h1
  split at h2
  · rename_i b
    split at h2
    · rename_i es clock hb
      simp only [VR] at hm
      obtain ⟨s, hρ, rfl⟩ := hm
      obtain ⟨_, ms, _, he, hg⟩ := hr.getMap (P := P) hb hρ
      obtain ⟨q, hq, h3⟩ := bind_some h2
      rcases run_findKey2 (P := P) (w := w) hkk hk huk hq he with ⟨rfl, hf⟩ | ⟨i, a, v', me, rfl, hf, hav, hme, hkey, _⟩
      · simp only at h3; cases h3
        obtain ⟨w', k1, k2⟩ := hr.putMap (P := P) hb hρ (es' := es ++ [⟨k, v, clock⟩]) (ms' := ms ++ [{ key := kv, val := vv, born := clock }]) (clock' := clock + 1)
          (he.append (by simp only [ERs]; exact ⟨_, [], rfl, hk, hv, rfl, rfl⟩))
        refine ⟨w', ?_, k2⟩
        simp only [Instr.mapUpdate, Sem.run_bind, Go.run_underlying hu, Result.andThen_ok, hg, run_checkKey hkk hk huk, hf]
        rw [← k1]; simp
      · simp only at h3; cases h3
        obtain ⟨w', k1, k2⟩ := hr.putMap (P := P) hb hρ (es' := modAt es i fun e => ⟨k, v, e.born⟩) (ms' := ms.modify i fun e => { e with key := kv, val := vv }) (clock' := clock)
          (modAt_rel _ _ i he (fun e m _ _ _ hb _ => ⟨hk, hv, hb⟩))
        refine ⟨w', ?_, k2⟩
        simp only [Instr.mapUpdate, Sem.run_bind, Go.run_underlying hu, Result.andThen_ok, hg, run_checkKey hkk hk huk, hf, List.getElem?_toArray, hme, Option.map_some, Option.getD_some, hkey]
        rw [← k1]; simp
    · cases h2
  · cases h2
theorem bornAt_rel : ∀ {es : List AE} {ms : List MapEntry} (_ : ERs σ ρ es ms) (i : Nat) {m : MapEntry}, ms[i]? = some m → bornAt es i = m.born
  | [], _, h, i, m, hi => by simp only [ERs] at h; subst h; simp at hi
  | _ :: _, _, h, 0, m, hi => by
    simp only [ERs] at h
    obtain ⟨m', ms, rfl, h1, h2, h3, h4⟩ := h
    simp at hi; subst hi; simp [bornAt, h3]
  | _ :: _, _, h, i + 1, m, hi => by
    simp only [ERs] at h
    obtain ⟨m', ms, rfl, h1, h2, h3, h4⟩ := h
    have := bornAt_rel h4 i (m := m) (by simpa using hi)
    simpa [bornAt, bif_ite] using this
theorem run_mapEntryA (hC : COK P C σ) (hr : HR C σ ρ H w) {t : TypeId} {m k r : AV} {mv kv : Value} (h : mapEntryA C H t m k = some (r, H')) (hm : VR σ ρ m mv) (hk : VR σ ρ k kv) :
    ∃ r' w', (Instr.mapEntry t mv kv).run P w = .ok r' w' ∧ VR σ ρ r r' ∧ Post C σ ρ H w ρ H' w' := by
  unfold mapEntryA at h
  obtain ⟨mk, hmk, h1⟩ := bind_some h
  obtain ⟨kt, et, hu, huk, hte⟩ := mapOf_spec hC hmk
  obtain ⟨hkk, h2⟩ := bif_some h1
  split at h2
  · rename_i b
    split at h2
    · rename_i es clock hb
      simp only [VR] at hm
      obtain ⟨s, hρ, rfl⟩ := hm
      obtain ⟨_, ms, _, he, hg⟩ := hr.getMap (P := P) hb hρ
      obtain ⟨q, hq, h3⟩ := bind_some h2
      rcases run_findKey2 (P := P) (w := w) hkk hk huk hq he with ⟨rfl, hf⟩ | ⟨i, a, v', me, rfl, hf, hav, hme, hkey, _⟩
      · obtain ⟨z, hz, h4⟩ := map_some h3
        cases h4
        obtain ⟨zv, z1, z2⟩ := hC.run_zero hte w hz
        obtain ⟨w', k1, k2⟩ := hr.putMap (P := P) hb hρ (es' := es ++ [⟨k, z, clock⟩]) (ms' := ms ++ [{ key := kv, val := zv, born := clock }]) (clock' := clock + 1)
          (he.append (by simp only [ERs]; exact ⟨_, [], rfl, hk, z2 ρ, rfl, rfl⟩))
        refine ⟨.tuple #[zv, goInt clock], w', ?_, VR.tup (VRs.cons (z2 ρ) (VRs.cons (AV.i_rel _) VRs.nil)), k2⟩
        have k1' : (setObj s.blk (.map (ms.toArray.push { key := kv, val := zv, born := clock }) (clock + 1))).run P w = .ok () w' := by rw [← k1]; simp
        simp only [Instr.mapEntry, Sem.run_bind, Go.run_underlying hu, Result.andThen_ok, hg, run_checkKey hkk hk huk, hf, z1, k1', Sem.run_pure]
      · simp only at h3; cases h3
        obtain ⟨w', k1, k2⟩ := hr.putMap (P := P) hb hρ (es' := modAt es i fun e => ⟨k, e.val, e.born⟩) (ms' := ms.modify i fun e => { e with key := kv }) (clock' := clock)
          (modAt_rel _ _ i he (fun e m _ _ hv hb _ => ⟨hk, hv, hb⟩))
        refine ⟨.tuple #[v', goInt me.born], w', ?_, VR.tup (VRs.cons hav (VRs.cons (by rw [bornAt_rel he i hme]; exact AV.i_rel _) VRs.nil)), k2⟩
        have k1' : (setObj s.blk (.map (ms.toArray.modify i fun e => { e with key := kv }) clock)).run P w = .ok () w' := by rw [← k1]; simp
        simp only [Instr.mapEntry, Sem.run_bind, Go.run_underlying hu, Result.andThen_ok, hg, run_checkKey hkk hk huk, hf, List.getElem?_toArray, hme, Option.map_some, Option.getD_some, hkey, k1', Sem.run_pure]
    · cases h2
  · cases h2
theorem setBorn_rel {v : AV} {vv : Value} (hv : VR σ ρ v vv) {born : Nat} : ∀ {es es' : List AE} {ms : List MapEntry}, setBorn es born v = some es' → ERs σ ρ es ms →
    ∃ i, ms.findIdx? (fun e => (e.born : Int) == (born : Int)) = some i ∧ ERs σ ρ es' (ms.modify i fun e => { e with val := vv })
  | [], _, _, h, _ => by simp [setBorn] at h
  | e :: es, es', ms, h, he => by
    simp only [ERs] at he
    obtain ⟨m, ms, rfl, h1, h2, h3, h4⟩ := he
    simp only [setBorn, bif_ite] at h
    split at h
    · rename_i hb
      cases h
      have hb := beq_of hb
      refine ⟨0, by simp [List.findIdx?_cons, h3, hb], ?_⟩
      rw [List.modify_zero_cons]
      simp only [ERs]
      exact ⟨_, _, rfl, h1, hv, h3, h4⟩
    · rename_i hb
      have hb : e.born ≠ born := fun e1 => hb (by rw [e1]; simp)
      obtain ⟨es1, h5, rfl⟩ := map_some h
      obtain ⟨i, k1, k2⟩ := setBorn_rel hv h5 h4
      refine ⟨i + 1, ?_, ?_⟩
      · rw [List.findIdx?_cons, k1]
        have : ((m.born : Int) == (born : Int)) = false := by rw [h3]; simp; omega
        simp [this]
      · rw [List.modify_succ_cons]
        simp only [ERs]
        exact ⟨m, _, rfl, h1, h2, h3, k2⟩
theorem run_entryStoreA (hr : HR C σ ρ H w) {t : TypeId} {m s v : AV} {mv sv vv : Value} (h : entryStoreA H m s v = some H') (hm : VR σ ρ m mv) (hs : VR σ ρ s sv) (hv : VR σ ρ v vv) :
    ∃ w', (Instr.entryStore t mv sv vv).run P w = .ok () w' ∧ Post C σ ρ H w ρ H' w' := by
  unfold entryStoreA at h
  split at h
  · rename_i b kk born
    split at h
    · rename_i es clock hb
      simp only [VR] at hm hs
      obtain ⟨s', hρ, rfl⟩ := hm
      subst hs
      obtain ⟨_, ms, _, he, hg⟩ := hr.getMap (P := P) hb hρ
      obtain ⟨es', h1, rfl⟩ := map_some h
      obtain ⟨i, k1, k2⟩ := setBorn_rel hv h1 he
      obtain ⟨w', k3, k4⟩ := hr.putMap (P := P) hb hρ (clock' := clock) k2
      refine ⟨w', ?_, k4⟩
      simp only [Instr.entryStore, Sem.run_bind, hg, Result.andThen_ok, asInt, asIntOf, Sem.run_pure]
      have k1' : ms.toArray.findIdx? (fun e => (e.born : Int) == Int.ofNat born) = some i := by rw [List.findIdx?_toArray]; exact k1
      rw [k1']
      simp only
      rw [← k3]; simp
    · cases h
  · cases h
theorem run_deleteA (hC : COK P C σ) (hr : HR C σ ρ H w) {t ty : TypeId} {ts : List TypeId} {rest : List Value} {m k : AV} {mv kv : Value} (h : deleteA C H t m k = some H') (hm : VR σ ρ m mv) (hk : VR σ ρ k kv) :
    ∃ w', (Builtin.delete_ (List.toArray (t :: ts)) ty (List.toArray (mv :: kv :: rest))).run P w = .ok (.tuple #[]) w' ∧ Post C σ ρ H w ρ H' w' := by
  unfold deleteA at h
  obtain ⟨mk, hmk, h1⟩ := bind_some h
  obtain ⟨kt, et, hu, huk, hte⟩ := mapOf_spec hC hmk
  obtain ⟨hkk, h2⟩ := bif_some h1
  split at h2
  · cases h2
    simp only [VR] at hm; subst hm
    refine ⟨w, ?_, Post.refl hr⟩
    simp [Builtin.delete_, Go.run_underlying hu, run_checkKey hkk hk huk]
  · split at h2
    · rename_i es clock hb
      simp only [VR] at hm
      obtain ⟨s, hρ, rfl⟩ := hm
      obtain ⟨_, ms, _, he, hg⟩ := hr.getMap (P := P) hb hρ
      obtain ⟨q, hq, h3⟩ := bind_some h2
      rcases run_findKey2 (P := P) (w := w) hkk hk huk hq he with ⟨rfl, hf⟩ | ⟨i, a, v', me, rfl, hf, hav, hme, hkey, _⟩
      · simp only at h3; cases h3
        obtain ⟨w', k1, k2⟩ := hr.putMap (P := P) hb hρ (es' := es) (ms' := ms) (clock' := clock) he
        refine ⟨w', ?_, k2⟩
        simp [Builtin.delete_, Go.run_underlying hu, run_checkKey hkk hk huk, hg, hf, k1]
      · simp only at h3; cases h3
        obtain ⟨w', k1, k2⟩ := hr.putMap (P := P) hb hρ (es' := eraseAt es i) (ms' := ms.eraseIdx i) (clock' := clock) (eraseAt_rel i he)
        refine ⟨w', ?_, k2⟩
        simp [Builtin.delete_, Go.run_underlying hu, run_checkKey hkk hk huk, hg, hf, k1]
    · cases h2
  · cases h2
end Go.Sh
namespace Go.Sh
variable {σ : Env} {ρ ρ' : Rho} {C : Ctx} {H H' : AH} {w w' : World} {P : Program} {fr : AFr} {tmps : Array Value}
/-! walks over maps -/
theorem HR.newObj (hr : HR C σ ρ H w) {ab : AB} {o : Obj} (hB : ∀ ρ', Ext ρ ρ' → BR C σ ρ' ab ⟨w.heap.size, 0, 0⟩ o) :
    Post C σ ρ H w (upd ρ H.next ⟨w.heap.size, 0, 0⟩) (H.new ab) { w with heap := w.heap.push o } :=
  hr.new (o' := o) (by simp) (by simp) (fun j hj => by simp only [Array.getElem?_push]; rw [if_neg (by omega)]) rfl rfl rfl (hB _ (hr.ext_upd (Nat.le_refl _) _))
theorem run_rangeA (hC : COK P C σ) (hr : HR C σ ρ H w) {t : TypeId} {x r : AV} {v : Value} (h : rangeA C H t x = some (r, H')) (hx : VR σ ρ x v) :
    ∃ r' w' ρ', (Instr.range t v).run P w = .ok r' w' ∧ VR σ ρ' r r' ∧ Post C σ ρ H w ρ' H' w' := by
  unfold rangeA at h
  obtain ⟨ti, ht, h1⟩ := bind_some h
  have hu := (hC.ty t ti ht).1
  generalize hd : ti.under = d at h1
  rw [hd] at hu
  have hp : VR σ (upd ρ H.next ⟨w.heap.size, 0, 0⟩) (.ptr H.next 0) (.pointer (some ⟨w.heap.size, 0, none⟩)) := by
    simp only [VR]; exact ⟨_, upd_same _ _ _, rfl⟩
  split at h1
  · cases h1
    simp only [VR] at hx; subst hx
    refine ⟨_, _, _, ?_, hp, hr.newObj (o := .stringIter ⟨List.toArray _⟩ 0) (fun ρ' _ => by simp only [BR]; exact ⟨trivial, rfl⟩)⟩
    simp [Instr.range, Go.run_underlying hu]
  · cases h1
    simp only [VR] at hx; subst hx
    refine ⟨_, _, _, ?_, hp, hr.newObj (o := .mapIter none 0 #[] 0) (fun ρ' _ => by simp only [BR]; exact ⟨trivial, none, rfl, rfl⟩)⟩
    simp [Instr.range, Go.run_underlying hu]
  · split at h1
    · rename_i es clock hb
      cases h1
      simp only [VR] at hx
      obtain ⟨s, hρ, rfl⟩ := hx
      obtain ⟨_, ms, _, he, hg⟩ := hr.getMap (P := P) hb hρ
      refine ⟨_, _, _, ?_, hp, hr.newObj (o := .mapIter (some s.blk) clock #[] clock) (fun ρ' hx => by simp only [BR]; exact ⟨trivial, some s.blk, rfl, s, hx _ _ hρ, rfl⟩)⟩
      simp [Instr.range, Go.run_underlying hu, hg]
    · cases h1
  · cases h1
theorem memN_eq (x : Nat) : ∀ (l : List Nat), memN x l = l.contains x
  | [] => rfl
  | y :: ys => by
    simp only [memN, bif_ite, Nat.beq_eq, List.contains_cons, memN_eq x ys]
    by_cases h : x = y <;> simp [h]
theorem leftOf_rel (seen : List Nat) : ∀ {es : List AE} {ms : List MapEntry}, ERs σ ρ es ms → ERs σ ρ (leftOf seen es) (ms.filter fun e => !seen.toArray.contains e.born)
  | [], ms, h => by simp only [ERs] at h; subst h; simp [leftOf, ERs]
  | e :: es, ms, h => by
    simp only [ERs] at h
    obtain ⟨m, ms, rfl, h1, h2, h3, h4⟩ := h
    have ih := leftOf_rel seen h4
    simp only [leftOf, memN_eq, bif_ite, List.filter_cons]
    have hc : seen.toArray.contains m.born = seen.contains e.born := by rw [h3]; simp
    rw [hc]
    cases hs : seen.contains e.born
    · simp only [Bool.not_false, if_true, Bool.false_eq_true, if_false]
      simp only [ERs]
      exact ⟨m, _, rfl, h1, h2, h3, ih⟩
    · simpa using ih
theorem anyBorn_rel (last : Nat) : ∀ {es : List AE} {ms : List MapEntry}, ERs σ ρ es ms → anyBorn last es = true → (ms.all fun e => decide (e.born ≥ last)) = false
  | [], ms, _, h => by simp [anyBorn] at h
  | e :: es, ms, he, h => by
    simp only [ERs] at he
    obtain ⟨m, ms, rfl, h1, h2, h3, h4⟩ := he
    simp only [anyBorn, bif_ite] at h
    split at h
    · rename_i hb
      have := blt_of hb
      simp [List.all_cons, h3]; intro; omega
    · have := anyBorn_rel last h4 h
      simp only [List.all_cons, this, Bool.and_false]
theorem HR.getIter (hr : HR C σ ρ H w) {b : Nat} {m : Option Nat} {since : Nat} {seen : List Nat} {last : Nat} (hb : H.get b = some (.miter m since seen last)) {r : RB} (hρ : ρ b = some r) :
    r.shift = 0 ∧ ∃ m', w.heap[r.blk]? = some (.mapIter m' since seen.toArray last) ∧ (getObj r.blk).run P w = .ok (.mapIter m' since seen.toArray last) w ∧ (m = none → m' = none) ∧ (∀ c, m = some c → ∃ r', ρ c = some r' ∧ m' = some r'.blk) := by
  obtain ⟨s, o, e1, e2, e3⟩ := hr.live b _ hb
  rw [hρ] at e1; cases e1
  simp only [BR] at e3
  obtain ⟨h0, m', rfl, he⟩ := e3
  refine ⟨h0, m', e2, by simp [getObj, Sem.run, e2], fun e => by subst e; exact he, fun c e => by subst e; exact he⟩
theorem run_nextA (hr : HR C σ ρ H w) {ty : TypeId} {it r : AV} {v : Value} {isS : Bool} (h : nextA H it isS = some (r, H')) (hx : VR σ ρ it v) :
    ∃ r' w', (Instr.next v isS ty).run P w = .ok r' w' ∧ VR σ ρ r r' ∧ Post C σ ρ H w ρ H' w' := by
  have hfalse : VR σ ρ (.tup [.bool false]) (.tuple #[.bool false]) := VR.tup (VRs.cons (by simp [VR]) VRs.nil)
  unfold nextA at h
  split at h
  · rename_i b
    simp only [VR] at hx
    obtain ⟨s, hρ, rfl⟩ := hx
    split at h
    · rename_i since seen last hb
      cases h
      obtain ⟨h0, m', hw, hg, hm, _⟩ := hr.getIter (P := P) hb hρ
      have hm := hm rfl; subst hm
      refine ⟨_, w, ?_, hfalse, Post.refl hr⟩
      simp [Instr.next, h0, hg]
    · rename_i mb since seen last hb
      obtain ⟨h0, m', hw, hg, _, hm⟩ := hr.getIter (P := P) hb hρ
      obtain ⟨rm, hρm, rfl⟩ := hm _ rfl
      split at h
      · rename_i es clock hmb
        obtain ⟨hwalk, h2⟩ := bif_none h
        obtain ⟨_, ms, hwm, he, hgm⟩ := hr.getMap (P := P) hmb hρm
        have hl := leftOf_rel seen he
        have hwk : (!seen.toArray.isEmpty && !ms.toArray.isEmpty && ms.toArray.all fun e => decide (e.born ≥ last)) = false := by
          simp only [Bool.not_eq_false', walkOk] at hwalk
          split at hwalk
          · simp
          · simp only [ERs] at he; subst he; simp
          · have := anyBorn_rel last he hwalk
            simp only [List.all_toArray, this, Bool.and_false]
        have hs0 : s.shift + 0 = 0 := by omega
        rw [hs0]
        have hfil : (ms.toArray.filter fun e => !seen.toArray.contains e.born) = (ms.filter fun e => !seen.toArray.contains e.born).toArray := by simp
        split at h2
        · rename_i hle
          cases h2
          rw [hle] at hl
          simp only [ERs] at hl
          refine ⟨.tuple #[.bool false], w, ?_, hfalse, Post.refl hr⟩
          simp only [Instr.next, Sem.run_bind, hg, hgm, Result.andThen_ok, hwk, Bool.false_eq_true, if_false, hfil, hl]
          simp [Question.forced]
        · rename_i e hle
          obtain ⟨hlt, h3⟩ := bif_some h2
          cases h3
          rw [hle] at hl
          simp only [ERs] at hl
          obtain ⟨m, ms0, hl, q1, q2, q3, rfl⟩ := hl
          have hlt := blt_of hlt
          have hmlt : m.born < since := by omega
          obtain ⟨w', k1, k2⟩ : ∃ w', (setObj s.blk (.mapIter (some rm.blk) since (seen ++ [m.born]).toArray clock)).run P w = .ok () w' ∧ Post C σ ρ H w ρ (H.put b (.miter (some mb) since (seen ++ [e.born]) clock)) w' := by
            refine ⟨{ w with heap := w.heap.setIfInBounds s.blk (.mapIter (some rm.blk) since (seen ++ [m.born]).toArray clock) }, by simp [setObj, Sem.run, hw], ?_⟩
            have hlt := hr.rng _ _ hρ
            refine hr.put hb hρ (by simp) (o' := .mapIter (some rm.blk) since (seen ++ [m.born]).toArray clock) (by simp [hlt]) (fun j hj => by simp [Ne.symm hj]) rfl rfl rfl ?_
            simp only [BR]
            exact ⟨h0, some rm.blk, by rw [q3], rm, hρm, rfl⟩
          refine ⟨.tuple #[.bool true, m.key, m.val], w', ?_, VR.tup (VRs.cons (by simp [VR]) (VRs.cons q1 (VRs.cons q2 VRs.nil))), k2⟩
          simp only [Instr.next, Sem.run_bind, hg, hgm, Result.andThen_ok, hwk, Bool.false_eq_true, if_false, hfil, hl]
          simp [Question.forced, hmlt, Nat.not_le.2 hmlt, k1]
        · cases h2
      · cases h
    · cases h
  · cases h
theorem findBorn_rel (b : Nat) : ∀ {es : List AE} {ms : List MapEntry} {e : AE}, ERs σ ρ es ms → findBorn b es = some e → ∃ m, ms.find? (fun m => m.born == b) = some m ∧ VR σ ρ e.key m.key ∧ VR σ ρ e.val m.val
  | [], _, e, _, h => by simp [findBorn] at h
  | x :: es, ms, e, he, h => by
    simp only [ERs] at he
    obtain ⟨m, ms, rfl, h1, h2, h3, h4⟩ := he
    simp only [findBorn, bif_ite] at h
    split at h
    · rename_i hb
      cases h
      have hb := beq_of hb
      exact ⟨m, by simp [h3, hb], h1, h2⟩
    · rename_i hb
      have hb : x.born ≠ b := fun e1 => hb (by rw [e1]; simp)
      obtain ⟨m', k1, k2⟩ := findBorn_rel b h4 h
      refine ⟨m', ?_, k2⟩
      rw [List.find?_cons]
      have : (m.born == b) = false := by rw [h3]; simpa using hb
      rw [this]; exact k1
theorem lastN_eq : ∀ (l : List Nat) (x : Nat), lastN l = some x → l.toArray.back? = some x
  | [], _, h => by simp [lastN] at h
  | [y], x, h => by simp only [lastN] at h; cases h; rfl
  | y :: z :: l, x, h => by
    have := lastN_eq (z :: l) x (by simpa [lastN] using h)
    simpa using this
theorem run_entryA (hr : HR C σ ρ H w) {it r : AV} {v : Value} (h : entryA H it = some r) (hx : VR σ ρ it v) : ∃ r', (Instr.entry v).run P w = .ok r' w ∧ VR σ ρ r r' := by
  unfold entryA at h
  split at h
  · rename_i b
    simp only [VR] at hx
    obtain ⟨s, hρ, rfl⟩ := hx
    split at h
    · rename_i mb since seen last hb
      obtain ⟨h0, m', hw, hg, _, hm⟩ := hr.getIter (P := P) hb hρ
      obtain ⟨rm, hρm, rfl⟩ := hm _ rfl
      obtain ⟨st, hst, h1⟩ := bind_some h
      split at h1
      · rename_i es clock hmb
        obtain ⟨hc, h2⟩ := bif_some h1
        have hc := beq_of hc
        subst hc
        obtain ⟨e, he1, rfl⟩ := map_some h2
        obtain ⟨_, ms, hwm, he, hgm⟩ := hr.getMap (P := P) hmb hρm
        obtain ⟨m, k1, k2, k3⟩ := findBorn_rel st he he1
        have hs0 : s.shift + 0 = 0 := by omega
        rw [hs0]
        refine ⟨.tuple #[m.key, m.val], ?_, VR.tup (VRs.cons k2 (VRs.cons k3 VRs.nil))⟩
        have hbk := lastN_eq _ _ hst
        have k1' : ms.toArray.find? (fun m => m.born == st) = some m := by rw [← k1]; simp
        simp only [Instr.entry, Sem.run_bind, hg, hgm, hbk, Result.andThen_ok]
        simp [k1]
      · cases h1
    · cases h
  · cases h
/-! the rest -/
theorem sub_take {a : List AV} {v : List Value} (h : VRs σ ρ a v) {n : Nat} {r : List AV} (hs : Sh.sub a 0 n = some r) : VRs σ ρ r (v.take n) := by
  have := h.sub hs; simpa using this
theorem lenS_rel {x : AV} {v : Value} {m : Nat} (h : lenS x = some m) (hx : VR σ ρ x v) : (Builtin.lenOf v).run P w = .ok m w ∧ ∀ size, (Builtin.firstCells size 0 v).run P w = .ok #[] w := by
  unfold lenS at h
  split at h
  · cases h; simp only [VR] at hx; subst hx; exact ⟨rfl, fun _ => rfl⟩
  · cases h; simp only [VR] at hx; obtain ⟨r, a, c', _, rfl, _⟩ := hx
    refine ⟨rfl, fun size => ?_⟩
    simp only [Builtin.firstCells, Nat.zero_mul]; rfl
  · cases h; simp only [VR] at hx; subst hx
    refine ⟨by simp [Builtin.lenOf, bsize], fun size => ?_⟩
    simp only [Builtin.firstCells, Sem.run_pure]
    congr 1
    apply Array.ext'
    simp
  · cases h
theorem firstS_rel (hr : HR C σ ρ H w) {size n : Nat} {x : AV} {cs : List AV} {v : Value} {m : Nat} (h : firstS H size n x = some cs) (hx : VR σ ρ x v) (hm : lenS x = some m) (hn : n ≤ m) :
    ∃ vs : List Value, VRs σ ρ cs vs ∧ (Builtin.firstCells size n v).run P w = .ok vs.toArray w := by
  unfold firstS at h
  split at h
  · simp only [VR] at hx
    obtain ⟨r, a, c', hρ, rfl, hlc, ha, hc⟩ := hx
    simp only [lenS] at hm; cases hm
    obtain ⟨vs, h1, h2, h3⟩ := hr.run_loadSlice (P := P) h hρ ha (by intro e; have : n = 0 := by omega
                                                                     rw [this]; simp)
    exact ⟨vs, h1, h3⟩
  · obtain ⟨e1, h2⟩ := bif_some h
    have e1 := beq_of e1
    subst e1
    simp only [VR] at hx; subst hx
    have := sub_take (σ := σ) (ρ := ρ) (toBytes_rel _) h2
    refine ⟨_, this, ?_⟩
    simp only [Builtin.firstCells, Sem.run_pure]
    congr 1
    apply Array.ext'
    simp
  · cases h
theorem run_copyA (hC : COK P C σ) (hr : HR C σ ρ H w) {td ts ty : TypeId} {trest : List TypeId} {d s r : AV} {dv sv : Value} {rest : List Value} (h : copyA C H td d s = some (r, H')) (hd : VR σ ρ d dv) (hs : VR σ ρ s sv) :
    ∃ r' w', (Builtin.copy_ (List.toArray (td :: ts :: trest)) ty (List.toArray (dv :: sv :: rest))).run P w = .ok r' w' ∧ VR σ ρ r r' ∧ Post C σ ρ H w ρ H' w' := by
  unfold copyA at h
  obtain ⟨ti, ht, h1⟩ := bind_some h
  have hu := (hC.ty td ti ht).1
  generalize hdd : ti.under = dd at h1
  rw [hdd] at hu
  split at h1
  · rename_i e
    obtain ⟨te, hte, h2⟩ := bind_some h1
    obtain ⟨m, hm, h3⟩ := bind_some h2
    obtain ⟨l1, l2⟩ := lenS_rel (P := P) (w := w) hm hs
    split at h3
    · cases h3
      simp only [VR] at hd; subst hd
      refine ⟨goInt (0 : Nat), w, ?_, AV.i_rel 0, Post.refl hr⟩
      have : Nat.min m 0 = 0 := by simp
      simp [Builtin.copy_, Go.run_underlying hu, l1, hC.run_sizeOf hte, l2]
    · rename_i b o len c x
      simp only [VR] at hd
      obtain ⟨r, a, c', hρ, rfl, hlc, ha, hc⟩ := hd
      rw [bif_ite] at h3
      split at h3
      · rename_i hn
        have hn := beq_of hn
        cases h3
        refine ⟨goInt (0 : Nat), w, ?_, AV.i_rel 0, Post.refl hr⟩
        simp only [Builtin.copy_, List.getElem?_toArray, List.getElem?_cons_zero, List.getElem?_cons_succ, Sem.run_bind, Go.run_underlying hu, Result.andThen_ok, l1, hC.run_sizeOf hte, hn, l2]
        rfl
      · rename_i hn
        have hn : Nat.min m len ≠ 0 := fun e => by rw [e] at hn; simp at hn
        obtain ⟨l, hl, h4⟩ := bind_some h3
        obtain ⟨H1, hst, h5⟩ := map_some h4
        cases h5
        obtain ⟨vs, v1, v2⟩ := firstS_rel (P := P) hr hl hs hm (Nat.min_le_left _ _)
        obtain ⟨w', k1, k2⟩ := hr.run_storeCells (P := P) hst hρ v1
        have haa : a = r.shift + o := by
          rcases ha with h' | h'
          · exfalso; apply hn; have : len = 0 := by omega
            rw [this]; simp
          · exact h'
        subst haa
        refine ⟨goInt (Nat.min m len : Nat), w', ?_, AV.i_rel _, k2⟩
        simp only [Builtin.copy_, List.getElem?_toArray, List.getElem?_cons_zero, List.getElem?_cons_succ, Sem.run_bind, Go.run_underlying hu, Result.andThen_ok, l1, hC.run_sizeOf hte, v2, k1]
        rfl
    · cases h3
  · cases h1
theorem run_clearA (hC : COK P C σ) (hr : HR C σ ρ H w) {t ty : TypeId} {ts : List TypeId} {x : AV} {v : Value} {rest : List Value} (h : clearA C H t x = some H') (hx : VR σ ρ x v) :
    ∃ w', (Builtin.clear_ (List.toArray (t :: ts)) ty (List.toArray (v :: rest))).run P w = .ok (.tuple #[]) w' ∧ Post C σ ρ H w ρ H' w' := by
  unfold clearA at h
  obtain ⟨ti, ht, h1⟩ := bind_some h
  have hu := (hC.ty t ti ht).1
  generalize hd : ti.under = d at h1
  rw [hd] at hu
  split at h1
  · cases h1
    simp only [VR] at hx; subst hx
    exact ⟨w, by simp [Builtin.clear_, Go.run_underlying hu], Post.refl hr⟩
  · rename_i e b o n c x
    rw [bif_ite] at h1
    simp only [VR] at hx
    obtain ⟨r, a, c', hρ, rfl, hlc, ha, hc⟩ := hx
    split at h1
    · rename_i hn
      cases h1
      have hn := beq_of hn; subst hn
      exact ⟨w, by simp [Builtin.clear_, Go.run_underlying hu], Post.refl hr⟩
    · rename_i hn
      have hn : n ≠ 0 := fun e => by subst e; simp at hn
      obtain ⟨te, hte, h2⟩ := bind_some h1
      obtain ⟨z, hz, h3⟩ := bind_some h2
      obtain ⟨hzo, h4⟩ := bif_some h3
      obtain ⟨zv, z1, z2, z3⟩ := hC.run_zeroCells hte w hz hzo
      have haa : a = r.shift + o := by rcases ha with h' | h'; · omega
                                       · exact h'
      subst haa
      obtain ⟨w', k1, k2⟩ := hr.run_storeCells (P := P) h4 hρ (repA_rel (z3 ρ) n)
      refine ⟨w', ?_, k2⟩
      have k1' : (storeCells ⟨r.blk, r.shift + o, none⟩ (Builtin.zeroCells zv.cells n).toList).run P w = .ok () w' := by
        rw [← k1]; rfl
      cases n with
      | zero => exact absurd rfl hn
      | succ n => simp [Builtin.clear_, Go.run_underlying hu, z1, k1']
  · cases h1
    simp only [VR] at hx; subst hx
    exact ⟨w, by simp [Builtin.clear_, Go.run_underlying hu], Post.refl hr⟩
  · split at h1
    · rename_i es clock hb
      cases h1
      simp only [VR] at hx
      obtain ⟨s, hρ, rfl⟩ := hx
      obtain ⟨_, ms, _, he, hg⟩ := hr.getMap (P := P) hb hρ
      obtain ⟨w', k1, k2⟩ := hr.putMap (P := P) hb hρ (es' := []) (ms' := []) (clock' := clock) rfl
      refine ⟨w', ?_, k2⟩
      simp [Builtin.clear_, Go.run_underlying hu, hg, k1]
    · cases h1
  · cases h1
end Go.Sh
namespace Go.Sh
variable {σ : Env} {ρ ρ' : Rho} {C : Ctx} {H H' : AH} {w w' : World} {P : Program} {fr : AFr} {tmps : Array Value}
theorem heap_push_modify {h : Array Obj} {o o' : Obj} {f : Obj → Obj} (hf : f o = o') : (h.push o).modify h.size f = h.push o' := by
  apply Array.ext
  · simp
  · intro i h1 h2
    simp only [Array.getElem_modify, Array.getElem_push]
    split
    · rename_i e; subst e; simp [hf]
    · rename_i e
      have : i < h.size := by simp at h2; omega
      simp [this]
theorem run_convA (hC : COK P C σ) (hr : HR C σ ρ H w) {s d : TypeId} {x r : AV} {v : Value} (h : convA C H s d x = some (r, H')) (hx : VR σ ρ x v) :
    ∃ r' w' ρ', (convert s d v).run P w = .ok r' w' ∧ VR σ ρ' r r' ∧ Post C σ ρ H w ρ' H' w' := by
  unfold convA at h
  obtain ⟨ts, hs, h1⟩ := bind_some h
  obtain ⟨td, hd, h2⟩ := bind_some h1
  have hus := (hC.ty s ts hs).1
  have hud := (hC.ty d td hd).1
  generalize e1 : ts.under = us at h2
  generalize e2 : td.under = ud at h2
  rw [e1] at hus; rw [e2] at hud
  split at h2
  · obtain ⟨q, h3, h4⟩ := map_some h2
    cases h4
    obtain ⟨r', k1, k2⟩ := run_convStrA (P := P) hC hr hus hud h3 hx
    exact ⟨r', w, ρ, k1, k2, Post.refl hr⟩
  · split at h2
    · cases h2
      simp only [VR] at hx; subst hx
      exact ⟨_, w, ρ, run_convSame hus hud, by simp only [VR], Post.refl hr⟩
    · cases h2
  · rename_i e
    obtain ⟨hb, h3⟩ := bif_some h2
    obtain ⟨te, hte, he1, hue⟩ := isByteT_spec hC hb
    split at h3
    · rename_i b
      cases h3
      simp only [VR] at hx; subst hx
      let cap := (Question.appendCap b.length 0 e).cut (w.tape w.drawn (.appendCap b.length 0 e))
      have hcap : b.length ≤ cap := by simp only [cap, Question.cut]; omega
      let row : Array Value := (b.map fun c => Value.int .u8 c.toNat).toArray ++ Array.replicate (cap - b.length) (.int .u8 0)
      have hrow : row.size = cap := by simp [row]; omega
      refine ⟨.slice (some ⟨w.heap.size, 0, none⟩) b.length cap, { drew1 w with heap := w.heap.push (.cells row e (cap, cap + 1)) }, upd ρ H.next ⟨w.heap.size, 0, cap⟩, ?_, ?_, ?_⟩
      · simp only [convert, Sem.run_bind, Go.run_underlying hus, Go.run_underlying hud, Go.run_underlying hue, Result.andThen_ok, Conv.stringToBytes, run_choose, Question.forced, Bool.false_eq_true, if_false, bsize, newRow, run_newObj, Sem.run_pure, markStringish, run_shape]
        have hb1 : (Array.map (fun (b : UInt8) => Value.int IntKind.u8 (b.toNat : Int)) b.toArray ++ Array.replicate (cap - b.length) (Value.int IntKind.u8 0)) = row := by simp [row]
        have hsh : World.shape? { heap := w.heap.push (.cells row e), tape := w.tape, drawn := w.drawn + 1, os := w.os, output := w.output } w.heap.size = some (e, row.size) := by simp [World.shape?]
        rw [show (Question.appendCap b.length 0 e).cut (w.tape w.drawn (Question.appendCap b.length 0 e)) = cap from rfl, hb1, hsh]
        simp only [run_freeze, World.freeze, Nat.succ_ne_self, if_false, Result.andThen_ok]
        congr 1
        have := heap_push_modify (h := w.heap) (o := .cells row e (0, 0)) (o' := .cells row e (cap, cap + 1)) (f := fun
          | .cells c elem (lo, hi) => .cells c elem (if lo == hi then (row.size, row.size + 1) else (min lo row.size, max hi (row.size + 1)))
          | o => o) (by simp [hrow])
        simp only [drew1]
        congr 1
      · simp only [VR]
        exact ⟨_, 0, cap, upd_same _ _ _, rfl, hcap, .inr rfl, by simp [hcap]⟩
      · refine hr.new (o' := .cells row e (cap, cap + 1)) (by simp) (by simp) (fun j hj => by simp only [Array.getElem?_push]; rw [if_neg (by omega)]) rfl rfl rfl ?_
        simp only [BR]
        refine ⟨row, _, rfl, hrow, fun i a hi => ?_⟩
        obtain ⟨y, k1, k2⟩ := (toBytes_rel (σ := σ) (ρ := upd ρ H.next ⟨w.heap.size, 0, cap⟩) b).get i hi
        refine ⟨y, ?_, k2⟩
        have hlt : i < (b.map fun c => Value.int .u8 c.toNat).length := by
          rcases Nat.lt_or_ge i (b.map fun c => Value.int .u8 c.toNat).length with h' | h'
          · exact h'
          · rw [List.getElem?_eq_none h'] at k1; cases k1
        rw [Nat.zero_add, Array.getElem?_append_left (by simpa using hlt)]
        rw [← k1]; simp
    · cases h3
  · cases h2
/-- a block is gone, and was turned -/
theorem HR.killput (h : HR C σ ρ H w) {b : Nat} {ab : AB} {r : RB} (hb : H.get b = some ab) (hρ : ρ b = some r) (h1 : w'.heap.size = w.heap.size) (h3 : ∀ j, j ≠ r.blk → w'.heap[j]? = w.heap[j]?)
    (hos : w'.os = w.os) (ht : w'.tape = w.tape) (ho : w'.output = w.output) : Post C σ ρ H w ρ (H.kill b) w' := by
  have f : ∀ c ac, (H.kill b).get c = some ac → c ≠ b ∧ H.get c = some ac := by
    intro c ac e; rw [AH.get_kill] at e; split at e
    · cases e
    · exact ⟨by assumption, e⟩
  refine ⟨Ext.refl _, ⟨h.dom, fun c s e => by rw [h1]; exact h.rng c s e, fun c ac e => ?_, fun c c' ac ac' s s' e e' => h.inj c c' ac ac' s s' (f _ _ e).2 (f _ _ e').2, h.glob, fun i o e => ⟨(h3 i (fun hh => (h.old i o e).2 b r hρ hh.symm)).trans (h.old i o e).1, (h.old i o e).2⟩⟩, ⟨hos, ht, ho, by omega, fun i hi hn => h3 i (fun e => hn ⟨b, ab, r, hb, hρ, e.symm⟩), ?_⟩, fun _ _ => rfl, Nat.le_refl _⟩
  · obtain ⟨hc, e⟩ := f c ac e
    obtain ⟨s, o, e1, e2, e3⟩ := h.live c ac e
    exact ⟨s, o, e1, by rw [h3 _ (fun hs => hc (h.inj _ _ _ _ _ _ e hb e1 hρ hs))]; exact e2, e3⟩
  · rintro i hi ⟨c, ac, s, e, k, rfl⟩
    exact ⟨c, ac, s, (f _ _ e).2, k, rfl⟩
theorem liesAt_byte {e : TypeId} (hc : P.cellsOf e = 1) (count off n : Nat) (hn : off + n ≤ count) : liesAt P P.depth e count off e n = true := by
  have hd : P.depth = (2 * (P.types.size + Made.depth) + 1) + 1 := rfl
  rw [hd]
  simp only [liesAt, Bool.or_eq_true]
  left
  rw [hd]
  simp [rowAt, hc, hn, sameLayout, Nat.mod_one]
theorem run_loadByteInts : ∀ (l : List Int) (a : Addr) (acc : ByteArray), (∀ j x, l[j]? = some x → w.cell? (a.add j) = some (.int .u8 x)) →
    (loadBytes a acc l.length).run P w = .ok ⟨acc.data ++ (l.map fun n => UInt8.ofNat n.toNat).toArray⟩ w
  | [], a, acc, _ => by simp [loadBytes]
  | x :: l, a, acc, h => by
    have h0 : w.cell? a = some (.int .u8 x) := by
      have := h 0 x rfl
      simpa [Addr.add] using this
    have ih := run_loadByteInts l (a.add 1) (acc.push (UInt8.ofNat x.toNat)) (fun j y hy => by
      have := h (j + 1) y (by simpa using hy)
      have e : (a.add 1).add j = a.add (j + 1) := by
        unfold Addr.add
        by_cases hj : j = 0
        · subst hj; simp
        · simp [hj]; omega
      rw [e]; exact this)
    simp only [List.length_cons, loadBytes, Sem.run_bind, run_load, h0, Result.andThen]
    rw [show x.toNat.toUInt8 = UInt8.ofNat x.toNat from rfl, ih]
    congr 1
    apply ByteArray.ext
    simp [ByteArray.push]
theorem run_unsafeString_at {pt u ty : TypeId} {ts : List TypeId} {a : Addr} (v : Value) {n : Int} {s : ByteArray} (hv : (asInt v).run P w = .ok n w) (h0 : ¬ n < 0) (hmx : ¬ n > IntKind.i64.max) (hz : ¬ n = 0)
    (hel : (elemOf pt).run P w = .ok u w) (hva : (variablesAt a u n.toNat).run P w = .ok true w) (hl : (loadBytes a .empty n.toNat).run P w = .ok s w) :
    (Builtin.unsafeString_ (List.toArray (pt :: ts)) ty (List.toArray [.pointer (some a), v])).run P w = .ok (.string s) (w.freeze a n.toNat) := by
  delta Builtin.unsafeString_
  conv => lhs; arg 2; whnf
  rw [Sem.run_bind']
  change ((asInt v).run P w).andThen _ = _
  rw [hv]
  simp only [Sem.run_bind, Sem.run_pure, Result.andThen_ok, List.getElem?_toArray, List.getElem?_cons_zero, h0, if_false, hmx, hz, hel, hva, if_true, hl, run_freeze]
theorem run_unsafeStringA (hC : COK P C σ) (hr : HR C σ ρ H w) {pt ty : TypeId} {ts : List TypeId} {p n r : AV} {pv nv : Value} (h : unsafeStringA C H pt p n = some (r, H')) (hp : VR σ ρ p pv) (hn : VR σ ρ n nv) :
    ∃ r' w', (Builtin.unsafeString_ (List.toArray (pt :: ts)) ty (List.toArray [pv, nv])).run P w = .ok r' w' ∧ VR σ ρ r r' ∧ Post C σ ρ H w ρ H' w' := by
  have hmax : IntKind.i64.max = 9223372036854775807 := by decide
  unfold unsafeStringA at h
  split at h
  · simp only [VR] at hn; subst hn
    split at h
    · cases h
      simp only [VR] at hp; subst hp
      refine ⟨.string .empty, w, ?_, by simp only [VR]; rfl, Post.refl hr⟩
      delta Builtin.unsafeString_
      conv => lhs; arg 2; whnf
      rfl
    · cases h
      simp only [VR] at hp
      obtain ⟨s, _, rfl⟩ := hp
      refine ⟨.string .empty, w, ?_, by simp only [VR]; rfl, Post.refl hr⟩
      delta Builtin.unsafeString_
      conv => lhs; arg 2; whnf
      rfl
    · cases h
  · rename_i b o k m hne
    simp only [VR] at hp hn
    obtain ⟨rb, hρ, rfl⟩ := hp
    subst hn
    split at h
    · rename_i cs e hb
      obtain ⟨te, hte, h1⟩ := bind_some h
      obtain ⟨tp, htp, h2⟩ := bind_some h1
      have hue := (hC.ty e te hte).1
      have hup := (hC.ty pt tp htp).1
      generalize g1 : te.under = ue at h2
      generalize g2 : tp.under = up at h2
      rw [g1] at hue; rw [g2] at hup
      split at h2
      · rename_i u
        obtain ⟨hc, h3⟩ := bif_some h2
        obtain ⟨hc1, hc2⟩ := and_bif hc
        obtain ⟨hc0, hc3⟩ := and_bif hc1
        have hc0 := beq_of hc0; have hc2 := ble_of hc2; have hsz1 := beq_of hc3
        subst hc0
        obtain ⟨l, hl, h4⟩ := bind_some h3
        obtain ⟨s, hs, h5⟩ := bind_some h4
        cases h5
        have hload : H.loadN b o m = some l := by unfold AH.loadN; rw [hb]; exact hl
        obtain ⟨vs, v1, v2, v3⟩ := hr.loadN hload hρ
        obtain ⟨ns, rfl, rfl⟩ := bytesOf_rel hs v1
        have hm0 : m ≠ 0 := fun e => hne e
        obtain ⟨sb, ob, q1, q2, q3⟩ := hr.live b _ hb
        rw [hρ] at q1; cases q1
        simp only [BR] at q3
        obtain ⟨c, rfl, hcs, hsh, hcr⟩ := q3
        obtain ⟨rfl, hle⟩ := sub_eq _ _ _ _ hl
        obtain ⟨_, _, i, i1, i2, _⟩ := hC.ty u te hte
        have hcell : P.cellsOf u = 1 := by simp [Program.cellsOf, i1, i2, hsz1]
        have hlb := run_loadByteInts (P := P) (w := w) ns ⟨rb.blk, rb.shift + o, none⟩ .empty (fun j x hj => by
          rw [addr_add]
          exact v3 j _ (by simp [hj]))
        have hnl : ns.length = m := by simpa using v2
        rw [hnl] at hlb
        refine ⟨.string ⟨(ns.map fun n => UInt8.ofNat n.toNat).toArray⟩, w.freeze ⟨rb.blk, rb.shift + o, none⟩ m, ?_, by simp only [VR], ?_⟩
        · have h0 : ¬ (Int.ofNat m) < 0 := by simp only [Int.ofNat_eq_natCast]; omega
          have hz : ¬ (Int.ofNat m) = 0 := by simp only [Int.ofNat_eq_natCast]; omega
          have hmx : ¬ (Int.ofNat m) > IntKind.i64.max := by rw [hmax]; simp only [Int.ofNat_eq_natCast]; omega
          have hsh1 : w.shape? rb.blk = some (u, c.size) := by simp [World.shape?, q2]
          have hva : (variablesAt ⟨rb.blk, rb.shift + o, none⟩ u (Int.ofNat m).toNat).run P w = .ok true w := by
            simp only [variablesAt, Sem.run_bind, run_program, run_shape, Result.andThen_ok, hsh1, Sem.run_pure]
            rw [hcell, liesAt_byte hcell _ _ _ (by simp; omega)]
          have hel : (elemOf pt).run P w = .ok u w := by simp [elemOf, Go.run_underlying hup]
          have hlb' : (loadBytes ⟨rb.blk, rb.shift + o, none⟩ .empty (Int.ofNat m).toNat).run P w = .ok ⟨(ns.map fun n => UInt8.ofNat n.toNat).toArray⟩ w := by
            have : ByteArray.empty.data = #[] := rfl
            rw [show (Int.ofNat m).toNat = m from rfl, hlb, this]; simp
          exact run_unsafeString_at (.int k (Int.ofNat m)) (by simp [asInt, asIntOf]) h0 hmx hz hel hva hlb'
        · have hf : ∀ (f : Obj → Obj), Post C σ ρ H w ρ (H.kill b) { w with heap := w.heap.modify rb.blk f } := fun f =>
            hr.killput hb hρ (by simp) (fun j hj => by simp only [Array.getElem?_modify]; rw [if_neg (Ne.symm hj)]) rfl rfl rfl
          unfold World.freeze
          rw [if_neg hm0]
          exact hf _
      · cases h2
    · cases h
  · cases h
end Go.Sh
namespace Go.Sh
variable {σ : Env} {ρ ρ' : Rho} {C : Ctx} {H H' : AH} {w w' : World} {P : Program} {fr : AFr} {tmps : Array Value}
theorem run_makeSliceA (hC : COK P C σ) (hr : HR C σ ρ H w) {t e : TypeId} {te : TI} {z : AV} {l c : Nat} {kl kc : IntKind} (hu : P.underlying t = some (.slice e)) (hte : C.ty.get e = some te) (hz : te.zero = some z) (hzo : zeroOk te z = true)
    (hlc : l ≤ c) (hc : c ≤ 10000) (hb : te.bytes ≤ 65536) :
    ∃ r' w' ρ', (Instr.makeSlice t (.int kl (Int.ofNat l)) (.int kc (Int.ofNat c))).run P w = .ok r' w' ∧ VR σ ρ' (.slice H.next 0 l c 0) r' ∧ Post C σ ρ H w ρ' (H.new (.cells (repA z.cells c) e)) w' := by
  obtain ⟨zv, z1, z2, z3⟩ := hC.run_zeroCells hte w hz hzo
  obtain ⟨_, _, i, i1, i2, i3, _⟩ := hC.ty e te hte
  have hti : ∀ w, (typeInfo e).run P w = .ok i w := fun w => by simp [typeInfo, i1]
  have hrep := repA_rel (z3 (upd ρ H.next ⟨w.heap.size, 0, c * te.size⟩)) c
  have hw1 : IntKind.i64.wrap (Int.ofNat l) = (l : Int) := IntWalk.i64_in _ ⟨by simp only [Int.ofNat_eq_natCast]; omega, by simp only [Int.ofNat_eq_natCast]; omega⟩
  have hw2 : IntKind.i64.wrap (Int.ofNat c) = (c : Int) := IntWalk.i64_in _ ⟨by simp only [Int.ofNat_eq_natCast]; omega, by simp only [Int.ofNat_eq_natCast]; omega⟩
  let row : Array Value := (Array.range (c * zv.cells.size)).map fun i => zv.cells[i % zv.cells.size]!
  have hrow : row.size = c * te.size := by simp [row, z2]
  have hbig : ¬ (i.bytes : Int) * (c : Int) > 2 ^ 48 := by
    have : i.bytes * c ≤ 65536 * 10000 := Nat.mul_le_mul (by omega) hc
    have : ((i.bytes * c : Nat) : Int) ≤ 655360000 := by omega
    simp only [Int.natCast_mul] at this
    omega
  refine ⟨.slice (some ⟨w.heap.size, 0, none⟩) l c, { w with heap := w.heap.push (.cells row e) }, upd ρ H.next ⟨w.heap.size, 0, c * te.size⟩, ?_, ?_, ?_⟩
  · have hcond : ((decide ((c : Int) < 0) || decide ((i.bytes : Int) * (c : Int) > 2 ^ 48)) || decide ((l : Int) < 0) || decide ((l : Int) > (c : Int))) = false := by
      simp only [Bool.or_eq_false_iff, decide_eq_false_iff_not]
      exact ⟨⟨⟨by omega, hbig⟩, by omega⟩, by omega⟩
    simp only [Instr.makeSlice, Sem.run_bind, Go.run_underlying hu, Result.andThen_ok, asInt, asIntOf, Sem.run_pure, hti, hw1, hw2, hcond, Bool.false_eq_true, if_false, run_askRoom, Int.toNat_natCast, hC.run_sizeOf hte]
    by_cases h0 : c * te.size = 0
    · rw [if_pos h0]
      have e0 : ∀ f : Nat → Value, Array.map f (Array.range 0) = #[] := fun f => by simp
      have : row = #[] := Array.eq_empty_of_size_eq_zero (by rw [hrow, h0])
      rw [h0, this]
      simp [newRow, e0]
    · rw [if_neg h0]
      have hz2 : c * te.size = c * zv.cells.size := by rw [z2]
      simp only [Sem.run_bind, z1, Result.andThen_ok, Sem.run_pure, newRow, run_newObj]
      rw [hz2]
  · simp only [VR]
    exact ⟨_, 0, c, upd_same _ _ _, rfl, hlc, .inr rfl, by simp⟩
  · refine hr.new (o' := .cells row e) (by simp) (by simp) (fun j hj => by simp only [Array.getElem?_push]; rw [if_neg (by omega)]) rfl rfl rfl ?_
    simp only [BR]
    refine ⟨row, rfl, hrow, by rw [hrow]; simp [repA_length, (zeroOk_spec hzo).1], ?_⟩
    have := CR_of_VRs hrep
    rw [Array.toArray_toList] at this
    exact this
theorem run_builtinA (hC : COK P C σ) (hr : HR C σ ρ H w) {b : Builtin} {ts : List TypeId} {ty : TypeId} {cs : Array Bool} {args : List AV} {vs : List Value} {r : AV} (h : builtinA C H b ts args = some (r, H')) (hv : VRs σ ρ args vs) :
    ∃ r' w' ρ', (builtin b (List.toArray ts) ty cs (List.toArray vs)).run P w = .ok (.value r') w' ∧ VR σ ρ' r r' ∧ Post C σ ρ H w ρ' H' w' := by
  unfold builtinA at h
  split at h
  · rename_i ts tx trest s x rest
    simp only [VRs] at hv
    obtain ⟨sv, v1, rfl, k1, xv, v2, rfl, k2, k3⟩ := hv
    obtain ⟨r', w', ρ', m1, m2, m3⟩ := run_appendA (P := P) (ty := ty) (trest := trest) (xrest := v2) hC hr h k1 k2
    exact ⟨r', w', ρ', run_v m1, m2, m3⟩
  · obtain ⟨v, h1, h2⟩ := map_some h
    cases h2
    simp only [VRs] at hv
    obtain ⟨x, xs, rfl, k1, k2⟩ := hv
    obtain ⟨r', m1, m2⟩ := run_lenA (P := P) hC hr h1 k1
    exact ⟨r', w, ρ, run_v m1, m2, Post.refl hr⟩
  · obtain ⟨v, h1, h2⟩ := map_some h
    cases h2
    simp only [VRs] at hv
    obtain ⟨x, xs, rfl, k1, k2⟩ := hv
    obtain ⟨r', m1, m2⟩ := run_capA (P := P) (w := w) hC h1 k1
    exact ⟨r', w, ρ, run_v m1, m2, Post.refl hr⟩
  · rename_i t ts' d s rest
    simp only [VRs] at hv
    obtain ⟨dv, v1, rfl, k1, sv, v2, rfl, k2, k3⟩ := hv
    obtain ⟨r', w', m1, m2, m3⟩ := run_copyA (P := P) (ts := ts'.headD 0) (trest := ts'.tail) (ty := ty) (rest := v2) hC hr h k1 k2
    refine ⟨r', w', ρ, run_v ?_, m2, m3⟩
    rw [← m1]
    simp only [Builtin.copy_, List.getElem?_toArray, List.getElem?_cons_zero]
  · rename_i t ts' m k rest
    obtain ⟨H1, h1, h2⟩ := map_some h
    cases h2
    simp only [VRs] at hv
    obtain ⟨mv, v1, rfl, k1, kv, v2, rfl, k2, k3⟩ := hv
    obtain ⟨w', m1, m2⟩ := run_deleteA (P := P) (ts := ts') (ty := ty) (rest := v2) hC hr h1 k1 k2
    exact ⟨_, w', ρ, run_v m1, VR.tup VRs.nil, m2⟩
  · rename_i t ts' x rest
    obtain ⟨H1, h1, h2⟩ := map_some h
    cases h2
    simp only [VRs] at hv
    obtain ⟨xv, v1, rfl, k1, k2⟩ := hv
    obtain ⟨w', m1, m2⟩ := run_clearA (P := P) (ts := ts') (ty := ty) (rest := v1) hC hr h1 k1
    exact ⟨_, w', ρ, run_v m1, VR.tup VRs.nil, m2⟩
  · obtain ⟨v, h1, h2⟩ := map_some h
    cases h2
    simp only [VRs] at hv
    obtain ⟨x, xs, rfl, k1, k2⟩ := hv
    obtain ⟨r', m1, m2⟩ := run_minMaxA (P := P) (w := w) h1 k1 k2
    exact ⟨r', w, ρ, run_v m1, m2, Post.refl hr⟩
  · obtain ⟨v, h1, h2⟩ := map_some h
    cases h2
    simp only [VRs] at hv
    obtain ⟨x, xs, rfl, k1, k2⟩ := hv
    obtain ⟨r', m1, m2⟩ := run_minMaxA (P := P) (w := w) h1 k1 k2
    exact ⟨r', w, ρ, run_v m1, m2, Post.refl hr⟩
  · -- unsafe.SliceData of a slice with room
    obtain ⟨hc0, h1⟩ := bif_none h
    cases h1
    simp only [VRs] at hv
    obtain ⟨x, xs, rfl, k1, rfl⟩ := hv
    simp only [VR] at k1
    obtain ⟨r, a, c', hρ, rfl, hlc, ha, hc⟩ := k1
    have hcc : c' ≠ 0 := by
      intro e; subst e
      split at hc
      · subst hc; simp at hc0
      · have : _ = 0 := Nat.le_zero.1 hc.1
        rw [this] at hc0; simp at hc0
    have haa := ha.resolve_left hcc
    subst haa
    exact ⟨_, w, ρ, run_v (Lib.run_unsafeSliceData_row w _ _ _ _ _ hcc), by simp only [VR]; exact ⟨r, hρ, rfl⟩, Post.refl hr⟩
  · cases h
    simp only [VRs] at hv
    obtain ⟨x, xs, rfl, k1, rfl⟩ := hv
    simp only [VR] at k1; subst k1
    exact ⟨_, w, ρ, run_v (Lib.run_unsafeSliceData_nil w _ _ _ _), by simp only [VR], Post.refl hr⟩
  · simp only [VRs] at hv
    obtain ⟨pv, v1, rfl, k1, nv, v2, rfl, k2, rfl⟩ := hv
    rename_i pt ts' p n
    obtain ⟨r', w', m1, m2, m3⟩ := run_unsafeStringA (P := P) (ts := ts') (ty := ty) hC hr h k1 k2
    exact ⟨r', w', ρ, run_v m1, m2, m3⟩
  · cases h
/-- an operation that acts, and is no call of a function -/
theorem run_act (hC : COK P C σ) (hr : HR C σ ρ H w) (hf : FR C σ ρ fr tmps) {cf : CallF} {o : Oper} {v : AV} (hne : ∀ c f, o.op = .call c → c.callee ≠ .value f) (h : actA C cf fr o.op H = some (v, H')) :
    ∃ n v' w' ρ', (execOp (evC tmps) o).run P w = .ok n w' ∧ OkNext n v' ∧ VR σ ρ' v v' ∧ Post C σ ρ H w ρ' H' w' := by
  obtain ⟨dst, op, ty, pos, after, guard⟩ := o
  simp only at h hne
  have hmap : ∀ t m k x (H1 : AH), ((fr.ev m).bind fun m => (fr.ev k).bind fun k => (fr.ev x).bind fun v => (mapUpdateA C H t m k v).map fun H => (AV.undef, H)) = some (v, H') →
      ∃ n v' w' ρ', ((do Instr.mapUpdate t (evC tmps m) (evC tmps k) (evC tmps x); pure .skip) : Sem Next).run P w = .ok n w' ∧ OkNext n v' ∧ VR σ ρ' v v' ∧ Post C σ ρ H w ρ' H' w' := by
    intro t m k x _ h
    obtain ⟨m', h1, h2⟩ := bind_some h
    obtain ⟨k', h3, h4⟩ := bind_some h2
    obtain ⟨x', h5, h6⟩ := bind_some h4
    obtain ⟨H1, h7, h8⟩ := map_some h6
    cases h8
    obtain ⟨w', k1, k2⟩ := run_mapUpdateA (P := P) hC hr h7 (hf.ev hr h1) (hf.ev hr h3) (hf.ev hr h5)
    exact ⟨_, _, w', ρ, run_unit k1, .inr ⟨rfl, rfl⟩, VR.undef, k2⟩
  cases op <;> simp only [actA] at h <;> (try (cases h; done)) <;> simp only [execOp]
  case store t a x =>
    obtain ⟨a', h1, h2⟩ := bind_some h
    obtain ⟨x', h3, h4⟩ := bind_some h2
    have ha := hf.ev hr h1
    split at h4
    · obtain ⟨H1, h5, h6⟩ := map_some h4
      cases h6
      simp only [VR] at ha
      obtain ⟨r, hρ, ha⟩ := ha
      obtain ⟨w', k1, k2⟩ := run_storeVarA hC hr h5 hρ (hf.ev hr h3)
      refine ⟨_, _, w', ρ, run_unit ?_, .inr ⟨rfl, rfl⟩, VR.undef, k2⟩
      rw [ha]
      simpa [Instr.storeAt, Instr.sureAddr] using k1
    · cases h4
  case convert s d x =>
    obtain ⟨x', h1, h2⟩ := bind_some h
    obtain ⟨r', w', ρ', k1, k2, k3⟩ := run_convA (P := P) hC hr h2 (hf.ev hr h1)
    exact ⟨_, r', w', ρ', run_v k1, .inl rfl, k2, k3⟩
  case makeMap t r =>
    cases r with
    | none => simp only at h; cases h
    | some r =>
      simp only at h
      obtain ⟨ti, ht, h1⟩ := bind_some h
      have hu := (hC.ty t ti ht).1
      generalize hd : ti.under = d at h1
      rw [hd] at hu
      split at h1
      · obtain ⟨x', h2, h3⟩ := bind_some h1
        have hx := hf.ev hr h2
        split at h3
        · cases h3
          simp only [VR] at hx
          refine ⟨_, .map (some w.heap.size), _, _, run_v ?_, .inl rfl, ?_, hr.newObj (o := .map #[] 0) (fun ρ' _ => by simp only [BR]; exact ⟨trivial, [], rfl, rfl⟩)⟩
          · simp only [Option.map_some, hx]
            simp [Instr.makeMap, Go.run_underlying hu, asInt, asIntOf]
          · simp only [VR]; exact ⟨_, upd_same _ _ _, rfl⟩
        · cases h3
      · cases h1
  case makeSlice t l c =>
    obtain ⟨ti, ht, h1⟩ := bind_some h
    have hu := (hC.ty t ti ht).1
    generalize hd : ti.under = d at h1
    rw [hd] at hu
    split at h1
    · obtain ⟨te, hte, h2⟩ := bind_some h1
      obtain ⟨z, hz, h3⟩ := bind_some h2
      obtain ⟨l', hl, h4⟩ := bind_some h3
      obtain ⟨c', hc, h5⟩ := bind_some h4
      have hl' := hf.ev hr hl
      have hc' := hf.ev hr hc
      split at h5
      · obtain ⟨hcond, h6⟩ := bif_some h5
        cases h6
        obtain ⟨hcond, g4⟩ := and_bif hcond
        obtain ⟨hcond, g3⟩ := and_bif hcond
        obtain ⟨g1, g2⟩ := and_bif hcond
        simp only [VR] at hl' hc'
        obtain ⟨r', w', ρ', k1, k2, k3⟩ := run_makeSliceA (P := P) hC hr hu hte hz g4 (ble_of g1) (ble_of g2) (ble_of g3)
        refine ⟨_, r', w', ρ', run_v ?_, .inl rfl, k2, k3⟩
        rw [hl', hc']
        exact k1
      · cases h5
    · cases h1
  case mapUpdate t m k x => exact hmap t m k x H h
  case insert t m k x => exact hmap t m k x H h
  case mapEntry t m k =>
    obtain ⟨m', h1, h2⟩ := bind_some h
    obtain ⟨k', h3, h4⟩ := bind_some h2
    obtain ⟨r', w', k1, k2, k3⟩ := run_mapEntryA (P := P) hC hr h4 (hf.ev hr h1) (hf.ev hr h3)
    exact ⟨_, r', w', ρ, run_v k1, .inl rfl, k2, k3⟩
  case entryStore t m s x =>
    obtain ⟨m', h1, h2⟩ := bind_some h
    obtain ⟨s', h3, h4⟩ := bind_some h2
    obtain ⟨x', h5, h6⟩ := bind_some h4
    obtain ⟨H1, h7, h8⟩ := map_some h6
    cases h8
    obtain ⟨w', k1, k2⟩ := run_entryStoreA (P := P) (t := t) hr h7 (hf.ev hr h1) (hf.ev hr h3) (hf.ev hr h5)
    exact ⟨_, _, w', ρ, run_unit k1, .inr ⟨rfl, rfl⟩, VR.undef, k2⟩
  case range t x =>
    obtain ⟨x', h1, h2⟩ := bind_some h
    obtain ⟨r', w', ρ', k1, k2, k3⟩ := run_rangeA (P := P) hC hr h2 (hf.ev hr h1)
    exact ⟨_, r', w', ρ', run_v k1, .inl rfl, k2, k3⟩
  case next it s =>
    obtain ⟨x', h1, h2⟩ := bind_some h
    obtain ⟨r', w', k1, k2, k3⟩ := run_nextA (P := P) (ty := ty) hr h2 (hf.ev hr h1)
    exact ⟨_, r', w', ρ, run_v k1, .inl rfl, k2, k3⟩
  case entry it =>
    obtain ⟨x', h1, h2⟩ := bind_some h
    obtain ⟨v1, h3, h4⟩ := map_some h2
    cases h4
    obtain ⟨r', k1, k2⟩ := run_entryA (P := P) hr h3 (hf.ev hr h1)
    exact ⟨_, r', w, ρ, run_v k1, .inl rfl, k2, Post.refl hr⟩
  case call c =>
    obtain ⟨callee, args, ats⟩ := c
    obtain ⟨vs, h1, h2⟩ := bind_some h
    cases callee with
    | value f => exact absurd rfl (hne _ f rfl)
    | invoke _ _ => simp only at h2; cases h2
    | builtin b =>
      simp only at h2
      have hv := hf.evs hr h1
      obtain ⟨r', w', ρ', k1, k2, k3⟩ := run_builtinA (P := P) (ty := ty) (cs := args.map fun | .const _ => true | _ => false) hC hr h2 hv
      refine ⟨_, r', w', ρ', ?_, .inl rfl, k2, k3⟩
      simp only [resolve, Sem.run_bind, Sem.run_pure, Result.andThen_ok, invoke]
      rw [← k1]
      congr 1
      rw [Array.toArray_toList]
      congr 1
      apply Array.ext'
      simp
end Go.Sh
namespace Go.Sh
variable {P : Program}
/-- a running frame with the number, kind and round of 'b' -/
def mkF (b : Frame) (tmps : Array Value) (todo : List Item) (defers : List Deferred) : Frame := { fn := b.fn, tmps, todo, defers, mode := .run, kind := b.kind, roundOf := b.roundOf }
section steps
variable {b : Frame} {t : Array Value} {k : List Item} {d : List Deferred} {cs : List Frame} {w : World}
theorem eval_mkF (todo : List Item) : (mkF b t todo d).eval = evC t := by funext x; cases x <;> rfl
theorem s_skip : step P (lone (mkF b t (.code .skip :: k) d) cs w) = .next (lone (mkF b t k d) cs w) := step_lone_go (by simp [stepG, stepG.exec, mkF])
theorem s_label {l : Nat} : step P (lone (mkF b t (.code (.label l) :: k) d) cs w) = .next (lone (mkF b t k d) cs w) := step_lone_go (by simp [stepG, stepG.exec, mkF])
theorem s_inBlock {id : Nat} : step P (lone (mkF b t (.inBlock id :: k) d) cs w) = .next (lone (mkF b t k d) cs w) := step_lone_go (by simp [stepG, stepG.exec, mkF])
theorem s_inScope {c : Code} : step P (lone (mkF b t (.inScope c :: k) d) cs w) = .next (lone (mkF b t k d) cs w) := step_lone_go (by simp [stepG, stepG.exec, mkF])
theorem s_seq {x y : Code} : step P (lone (mkF b t (.code (.seq x y) :: k) d) cs w) = .next (lone (mkF b t (.code x :: .code y :: k) d) cs w) := step_lone_go (by simp [stepG, stepG.exec, mkF])
theorem s_cond {c : Operand} {x y : Code} {q : Bool} (h : evC t c = .bool q) : step P (lone (mkF b t (.code (.cond c x y) :: k) d) cs w) = .next (lone (mkF b t (.code (if q then x else y) :: k) d) cs w) :=
  step_lone_go (by
    have he : (mkF b t (.code (.cond c x y) :: k) d).eval c = .bool q := by rw [eval_mkF]; exact h
    simp only [mkF] at he
    simp [stepG, stepG.exec, mkF, he])
theorem s_block {id : Nat} {c : Code} : step P (lone (mkF b t (.code (.block id c) :: k) d) cs w) = .next (lone (mkF b t (.code c :: .inBlock id :: k) d) cs w) := step_lone_go (by simp [stepG, stepG.exec, mkF])
theorem s_loop {c : Code} : step P (lone (mkF b t (.code (.loop c) :: k) d) cs w) = .next (lone (mkF b t (.code c :: .inLoop c :: k) d) cs w) := step_lone_go (by simp [stepG, stepG.exec, mkF])
theorem s_inLoop {c : Code} : step P (lone (mkF b t (.inLoop c :: k) d) cs w) = .next (lone (mkF b t (.code c :: .inLoop c :: k) d) cs w) := step_lone_go (by simp [stepG, stepG.exec, mkF])
theorem s_scope {c : Code} : step P (lone (mkF b t (.code (.scope c) :: k) d) cs w) = .next (lone (mkF b t (.code c :: .inScope c :: k) d) cs w) := step_lone_go (by simp [stepG, stepG.exec, mkF])
theorem s_exit {id : Nat} {k' : List Item} (h : exitTo id k = some k') : step P (lone (mkF b t (.code (.exit id) :: k) d) cs w) = .next (lone (mkF b t k' d) cs w) := step_lone_go (by simp [stepG, stepG.exec, mkF, h])
theorem s_goto {l : Nat} {k' : List Item} (h : gotoIn l k = some k') : step P (lone (mkF b t (.code (.goto l) :: k) d) cs w) = .next (lone (mkF b t k' d) cs w) := step_lone_go (by simp [stepG, stepG.exec, mkF, h])
theorem s_region {id : Nat} {ops : Array Oper} : step P (lone (mkF b t (.code (.region id ops false) :: k) d) cs w) = .next (lone (mkF b t (.inRegion ops (List.range ops.size) :: k) d) cs w) := step_lone_go (by simp [stepG, stepG.exec, mkF])
theorem s_regionDraw {id : Nat} {ops : Array Oper} : step P (lone (mkF b t (.code (.region id ops true) :: k) d) cs w) =
    .next (lone (mkF b t (.inRegion ops (Region.schedule (P.follows .mixedOrders) ops (w.tape w.drawn (.order b.fn id))) :: k) d) cs (drew1 w)) :=
  step_lone_go (by simp [stepG, stepG.exec, mkF, choose, Sem.run, Question.forced, Question.cut, drew1])
theorem s_regionEnd {ops : Array Oper} : step P (lone (mkF b t (.inRegion ops [] :: k) d) cs w) = .next (lone (mkF b t k d) cs w) := step_lone_go (by simp [stepG, stepG.exec, mkF])
/-- a value into its slot -/
def putC (t : Array Value) (dst : Option Tmp) (v : Value) : Array Value :=
  match dst with
  | some d => t.setIfInBounds d v
  | none => t
variable {ops : Array Oper} {i : Nat} {rest : List Nat} {o : Oper} {w' : World}
theorem finish_mkF (ho : ops[i]? = some o) (v : Value) : (mkF b t (.inRegion ops (i :: rest) :: k) d).finish v = mkF b (putC t o.dst v) (.inRegion ops rest :: k) d := by
  cases h : o.dst <;> simp [Frame.finish, mkF, ho, h, putC]
theorem s_opSkip (ho : ops[i]? = some o) (hw : Region.wanted o (yielded ops t) = false) :
    step P (lone (mkF b t (.inRegion ops (i :: rest) :: k) d) cs w) = .next (lone (mkF b (putC t o.dst undef) (.inRegion ops rest :: k) d) cs w) := by
  rw [← finish_mkF (b := b) (k := k) (d := d) (t := t) (rest := rest) ho]
  exact step_lone_go (by simp [stepG, stepG.exec, mkF, ho, hw])
theorem stepG_opF (ho : ops[i]? = some o) (hw : Region.wanted o (yielded ops t) = true) (hnd : ∀ c, o.op ≠ .defer c) :
    stepG P true { frame := mkF b t (.inRegion ops (i :: rest) :: k) d, callers := cs, status := .running, dying := none } w =
      stepG.apply P true (mkF b t (.inRegion ops (i :: rest) :: k) d) cs none (execOp (evC t) o) w := by
  have he := eval_mkF (b := b) (t := t) (d := d) (.inRegion ops (i :: rest) :: k)
  simp only [mkF] at he
  cases hr : b.roundOf with
  | none => rw [hr] at he; simp [stepG, stepG.exec, stepG.oper, Frame.oper?, mkF, ho, hw, he, hr]
  | some l =>
    rw [hr] at he
    simp only [stepG, stepG.exec, mkF, hr, ho, Option.map_some, Option.getD_some, hw, if_true, stepG.oper, Frame.oper?]
    cases hop : o.op <;> first
      | (exact absurd hop (hnd _))
      | (simp only [he])
theorem s_op {n : Next} {v : Value} (ho : ops[i]? = some o) (hw : Region.wanted o (yielded ops t) = true) (hnd : ∀ c, o.op ≠ .defer c) (hr : (execOp (evC t) o).run P w = .ok n w') (hn : OkNext n v) :
    step P (lone (mkF b t (.inRegion ops (i :: rest) :: k) d) cs w) = .next (lone (mkF b (putC t o.dst v) (.inRegion ops rest :: k) d) cs w') := by
  refine step_lone_go ?_
  rw [stepG_opF ho hw hnd, ← finish_mkF (b := b) (k := k) (d := d) (t := t) (rest := rest) ho]
  rcases hn with rfl | ⟨rfl, rfl⟩ <;> simp [stepG.apply, hr]
theorem s_opEnter {f : FuncId} {args : Array Value} (ho : ops[i]? = some o) (hw : Region.wanted o (yielded ops t) = true) (hnd : ∀ c, o.op ≠ .defer c) (hr : (execOp (evC t) o).run P w = .ok (.enter f args) w') :
    step P (lone (mkF b t (.inRegion ops (i :: rest) :: k) d) cs w) = .next (lone (Frame.enter P f args .normal) (mkF b t (.inRegion ops (i :: rest) :: k) d :: cs) w') := by
  refine step_lone_go ?_
  rw [stepG_opF ho hw hnd]
  simp [stepG.apply, hr, mkF]
theorem s_opRound {l : Nat} {f : FuncId} {tm : Array Value} {as bd : Code} (ho : ops[i]? = some o) (hw : Region.wanted o (yielded ops t) = true) (hnd : ∀ c, o.op ≠ .defer c) (hr : (execOp (evC t) o).run P w = .ok (.round l f tm as bd) w') :
    step P (lone (mkF b t (.inRegion ops (i :: rest) :: k) d) cs w) = .next (lone (Frame.round l f tm as bd .normal) (mkF b t (.inRegion ops (i :: rest) :: k) d :: cs) w') := by
  refine step_lone_go ?_
  rw [stepG_opF ho hw hnd]
  simp [stepG.apply, hr, mkF]
theorem s_opDefer {df : Deferred} {c : Call} (hrn : b.roundOf = none) (ho : ops[i]? = some o) (hw : Region.wanted o (yielded ops t) = true) (hop : o.op = .defer c) (hr : (execOp (evC t) o).run P w = .ok (.defer df) w') :
    step P (lone (mkF b t (.inRegion ops (i :: rest) :: k) d) cs w) = .next (lone (mkF b (putC t o.dst undef) (.inRegion ops rest :: k) (df :: d)) cs w') := by
  refine step_lone_go ?_
  have he := eval_mkF (b := b) (t := t) (d := d) (.inRegion ops (i :: rest) :: k)
  simp only [mkF] at he
  have hg : stepG P true { frame := mkF b t (.inRegion ops (i :: rest) :: k) d, callers := cs, status := .running, dying := none } w =
      stepG.apply P true (mkF b t (.inRegion ops (i :: rest) :: k) d) cs none (execOp (evC t) o) w := by
    rw [hrn] at he; simp [stepG, stepG.exec, stepG.oper, Frame.oper?, mkF, ho, hw, he, hrn]
  rw [hg, ← finish_mkF (b := b) (k := k) (d := df :: d) (t := t) (rest := rest) ho]
  simp [stepG.apply, hr, mkF]
end steps
end Go.Sh
