import Derived.Test.YtipampcmhklndaaGreatDoorShD
set_option linter.unusedVariables false
set_option linter.unusedSimpArgs false
set_option linter.unusedSectionVars false
/- The tables of a program for the evaluator, its start heap (the one variable: the names of the types), and what a run that ends in 'true' says. No program in sight. -/
namespace Go.Sh
open Go.RowKit (Below)
def mkTI (t u : TypeInfo) : TI := ⟨u.desc, t.size, t.bytes, isAggD u.desc, t.zero.bind AV.ofV⟩
def mkFI (f : Func) : FI := ⟨match f.body with | some b => b | none => .skip, f.ntmps, f.results.toList⟩
def AllT {α : Type} (p : Nat → α → Prop) : T α → (Nat → Nat) → Prop
  | .e, _ => True
  | .n v l r, f => (match v with | some x => p (f 0) x | none => True) ∧ AllT p l (fun k => f (2 * k + 1)) ∧ AllT p r (fun k => f (2 * k + 2))
theorem AllT.get {α : Type} {p : Nat → α → Prop} : ∀ {t : T α} {f : Nat → Nat} {k : Nat} {v : α}, AllT p t f → t.get k = some v → p (f k) v
  | .e, f, k, v, _, h => by simp [T.get] at h
  | .n w l r, f, k, v, ha, h => by
    obtain ⟨h1, h2, h3⟩ := ha
    rw [T.get_n] at h
    split at h
    · rename_i hk; subst hk; subst h; exact h1
    · split at h
      · have := h2.get h
        rwa [show 2 * (k / 2) + 1 = k by omega] at this
      · have := h3.get h
        rwa [show 2 * (k / 2 - 1) + 2 = k by omega] at this
def tyP (P : Program) (t : Nat) (ti : TI) : Prop := P.underlying t = some ti.under ∧ ti.agg = isAggD ti.under ∧
    ∃ i, P.info? t = some i ∧ i.size = ti.size ∧ i.bytes = ti.bytes ∧ ∀ z, ti.zero = some z → ∃ v, i.zero = some v ∧ ∀ σ ρ, VR σ ρ z v
theorem info_of {P : Program} {t : Nat} {a : TypeInfo} (h : P.types[t]? = some a) : P.info? t = some a := by
  have hlt : t < P.types.size := (Array.getElem?_eq_some_iff.1 h).1
  show Tables.info? P.toTables t = some a
  unfold Tables.info?
  rw [if_pos hlt]; exact h
theorem tyP_mk {P : Program} {t : Nat} {a u : TypeInfo} (h1 : P.types[t]? = some a) (h2 : P.underlying t = some u.desc) : tyP P t (mkTI a u) := by
  refine ⟨h2, rfl, a, info_of h1, rfl, rfl, fun z hz => ?_⟩
  obtain ⟨v, hv, hz⟩ := bind_some hz
  exact ⟨v, hv, fun σ ρ => ofV_rel hz⟩
def fnP (P : Program) (f : Nat) (fi : FI) : Prop := ∃ fn, P.funcs[f]? = some fn ∧ fn.body = some fi.body ∧ fn.ntmps = fi.ntmps ∧ fn.results.toList = fi.results ∧ (fn.name == "runtime.NumGoroutine") = false
theorem fnP_mk {P : Program} {f : Nat} {fn : Func} (h1 : P.funcs[f]? = some fn) (h2 : fn.body.isSome = true) (h3 : (fn.name == "runtime.NumGoroutine") = false) : fnP P f (mkFI fn) := by
  refine ⟨fn, h1, ?_, rfl, rfl, h3⟩
  unfold mkFI
  cases hb : fn.body with
  | none => rw [hb] at h2; cases h2
  | some b => rfl
variable {P : Program} {C : Ctx} {σ : Env}
theorem cok_of (hty : AllT (tyP P) C.ty id)
    (hb : ∀ op x y r, (op, x, y, r) ∈ C.bin → ∀ ρ v u, VR σ ρ x v → VR σ ρ y u → ∃ r', VR σ ρ r r' ∧ ∀ w t X Y, ((do eqGuard op t X Y v u; binOp op t v u) : Sem Value).run P w = .ok r' w)
    (hc : ∀ t x r, (t, x, r) ∈ C.conv → ∀ ρ v, VR σ ρ x v → ∃ r', VR σ ρ r r' ∧ ∀ w s k, P.underlying s = some (.int k) → (convert s t v).run P w = .ok r' w)
    (hl : ∀ i r, (i, r) ∈ C.len → ∃ p n c, σ.val i = .slice p n c ∧ ∀ ρ, VR σ ρ r (goInt n))
    (hs : ∀ i z, (i, z) ∈ C.slc → ∃ p n c, σ.val i = .slice p n c ∧ n ≤ 1000000 ∧ (n = 0 ∨ ∃ blk off cells e fz, p = some ⟨blk, off, none⟩ ∧ σ.old blk = some (.cells cells e fz) ∧ off + n * z ≤ cells.size))
    (hi : ∀ s z i r, (s, z, i, r) ∈ C.idx → ∃ blk off len c n, σ.val s = .slice (some ⟨blk, off, none⟩) len c ∧ n < len ∧ (∀ ρ v, VR σ ρ i v → v = .int .i64 (Int.ofNat n)) ∧ ∀ ρ, VR σ ρ r (.pointer (some ⟨blk, off + n * z, none⟩)))
    (ho : ∀ p n cs, (p, n, cs) ∈ C.lod → ∃ blk off cells e fz, σ.val p = .pointer (some ⟨blk, off, none⟩) ∧ σ.old blk = some (.cells cells e fz) ∧ off + n ≤ cells.size ∧ ∀ ρ, VRs σ ρ cs ((cells.toList.drop off).take n))
    (hf : ∀ t xs ys, C.flatEq t xs ys = true → P.eqGuardType P.depth t = false ∧ ∀ r ρ vs us w, scalarsEq xs ys = some r → VRs σ ρ xs vs → VRs σ ρ ys us →
      (Op.equal t (.agg vs.toArray) (.agg us.toArray)).run P w = .ok r w) : COK P C σ := by
  refine ⟨fun t ti h => ?_, hb, hc, hl, hs, hi, ho, hf⟩
  obtain ⟨h1, h2, i, h3, h4, h5, h6⟩ := AllT.get hty h
  exact ⟨h1, h2, i, h3, h4, h5, fun z hz => by obtain ⟨v, k1, k2⟩ := h6 z hz; exact ⟨v, k1, k2 σ⟩⟩
theorem fok_of (hfn : AllT (fnP P) C.fn id)
    (hs : ∀ f args H v H', C.summed f = true → C.sum f args H = some (v, H') → ∀ ρ w vs cs, HR C σ ρ H w → VRs σ ρ args vs →
      ∃ ρ' v' w', VR σ ρ' v v' ∧ Post C σ ρ H w ρ' H' w' ∧ FnOK P f vs w v' w' .normal cs) : FOK P C σ :=
  ⟨fun _ _ h => AllT.get hfn h, hs⟩

/-! the start heap: the names of the types of objects -/
def u8s (l : List Nat) : AV := .str (l.map fun n => UInt8.ofNat n)
def names : List AV := [u8s [], u8s [106, 111, 98], u8s [112, 114, 111, 99, 101, 115, 115], u8s [116, 104, 114, 101, 97, 100], u8s [99, 104, 97, 110, 110, 101, 108], u8s [115, 111, 99, 107, 101, 116], u8s [102, 105, 102, 111], u8s [101, 118, 101, 110, 116], u8s [101, 118, 101, 110, 116, 112, 97, 105, 114], u8s [112, 111, 114, 116], u8s [116, 105, 109, 101, 114], u8s [118, 109, 111]]
def namesV : List Value := names.map fun a => match a with | .str s => .string ⟨s.toArray⟩ | _ => .nilIface
def H0 (nt : TypeId) : AH := ⟨T.set .e 0 (.cells names nt), 1⟩
def NamesAt (nt : TypeId) (W : World) : Prop := W.heap[0]? = some (.cells namesV.toArray nt (0, 0))
/-- the names are as they were -/
def namesOk (nt : TypeId) (H : AH) : Bool := match H.get 0 with
  | some (.cells cs e) => Nat.beq e nt && AV.beqs cs names
  | _ => false
/-- it answered true, and the names are as they were -/
def isTrue (nt : TypeId) : Option (AV × AH) → Bool
  | some (.bool true, H) => namesOk nt H
  | _ => false
def ρ0 : Rho := fun b => if b = 0 then some ⟨0, 0, 12⟩ else none
/-- what no run touches lies beside the names -/
def Beside (σ : Env) (W : World) : Prop := ∀ i o, σ.old i = some o → W.heap[i]? = some o ∧ i ≠ 0
theorem names_rel (σ : Env) (ρ : Rho) : VRs σ ρ names namesV := by
  unfold namesV
  simp only [names, List.map, u8s, VRs, VR]
  simp
theorem ρ0_some {b : Nat} {r : RB} (e : ρ0 b = some r) : b = 0 ∧ r = ⟨0, 0, 12⟩ := by
  unfold ρ0 at e; split at e
  · cases e; exact ⟨by assumption, rfl⟩
  · cases e
theorem start_rel {nt : TypeId} (hng : C.ng = 1) {W : World} (h : NamesAt nt W) (ho : Beside σ W) : HR C σ ρ0 (H0 nt) W := by
  have h0 : ∀ b ab, (H0 nt).get b = some ab → b = 0 ∧ ab = .cells names nt := by
    intro b ab e
    have : (H0 nt).get b = (T.set .e 0 (.cells names nt)).get b := rfl
    rw [this, T.get_set] at e
    split at e
    · cases e; exact ⟨by assumption, rfl⟩
    · simp [T.get] at e
  have hlt : 0 < W.heap.size := (Array.getElem?_eq_some_iff.1 h).1
  refine ⟨fun b r e => by rw [(ρ0_some e).1]; exact Nat.one_pos, fun b r e => by rw [(ρ0_some e).2]; exact hlt, fun b ab e => ?_, fun b b' ab ab' r r' e e' _ _ _ => by rw [(h0 b ab e).1, (h0 b' ab' e').1], fun g hg => ?_,
    fun i o e => ⟨(ho i o e).1, fun b r k hh => (ho i o e).2 (by rw [(ρ0_some k).2] at hh; exact hh.symm)⟩⟩
  · obtain ⟨rfl, rfl⟩ := h0 b ab e
    refine ⟨⟨0, 0, 12⟩, _, rfl, h, ?_⟩
    refine ⟨_, rfl, rfl, by decide, fun i a hi => ?_⟩
    obtain ⟨v, hv, hr⟩ := (names_rel σ ρ0).get i hi
    exact ⟨v, by simpa using hv, hr⟩
  · have : g = 0 := by omega
    subst this; exact ⟨_, rfl, rfl, rfl⟩
theorem names_cells {σ : Env} {ρ' : Rho} {c : Array Value} {n sh : Nat} (hsz : c.size = n) (hcr : CR σ ρ' names c sh) (hn : n = 12 := by rfl) (hsh : sh = 0 := by rfl) : c = namesV.toArray := by
  subst hn; subst hsh
  apply Array.ext_getElem?
  intro i
  by_cases hi : i < 12
  · have hi' : names[i]? = some (names[i]'(by simpa [names] using hi)) := List.getElem?_eq_getElem _
    obtain ⟨v1, k1, k2⟩ := hcr i _ hi'
    obtain ⟨v2, k3, k4⟩ := (names_rel σ ρ').get i hi'
    have hstr : ∃ s, names[i]'(by simpa [names] using hi) = .str s := by
      have : ∀ a ∈ names, ∃ s, a = .str s := by simp [names, u8s]
      exact this _ (List.getElem_mem _)
    obtain ⟨s, hs⟩ := hstr
    rw [hs] at k2 k4
    simp only [VR] at k2 k4
    simp only [Nat.zero_add] at k1
    rw [k1, k2, ← k4]; simpa using k3.symm
  · rw [Array.getElem?_eq_none (by rw [hsz]; simpa using hi), Array.getElem?_eq_none (by simpa [namesV, names] using hi)]
/-- at the end of a run from the start heap nothing old is another one -/
theorem below_of_post {nt : TypeId} {W w' : World} (hW : NamesAt nt W) {ρ' : Rho} {H' : AH} (hp : Post C σ ρ0 (H0 nt) W ρ' H' w') (hn : namesOk nt H' = true) : Below W.heap.size W w' := by
  refine ⟨hp.kr.os, hp.kr.tape, hp.kr.output, hp.kr.size, fun i hi => ?_⟩
  by_cases h0 : i = 0
  · subst h0
    unfold namesOk at hn
    split at hn
    · rename_i cs el hg
      rw [Bool.and_eq_true] at hn
      have hel : el = nt := Nat.eq_of_beq_eq_true hn.1
      have hcs := AV.beqs_of _ _ hn.2
      subst hel; subst hcs
      obtain ⟨r, o, e1, e2, e3⟩ := hp.hr.live 0 _ hg
      have : ρ' 0 = some ⟨0, 0, 12⟩ := hp.ext 0 _ rfl
      rw [this] at e1; cases e1
      obtain ⟨c, rfl, hsz, _, hcr⟩ := e3
      have hc : c = namesV.toArray := names_cells hsz hcr
      subst hc
      rw [e2]; exact hW.symm
    · cases hn
  · refine hp.kr.same i hi ?_
    rintro ⟨b, ab, r, _, k2, rfl⟩
    rw [(ρ0_some k2).2] at h0
    exact h0 rfl
theorem walk_of_run {nt : TypeId} (hng : C.ng = 1) (hC : COK P C σ) (hF : FOK P C σ) (hm : P.follows .mixedOrders = true) {args : List AV} {vs : List Value} (hvs : VRs σ ρ0 args vs) {fuel dep : Nat} {f : FuncId}
    (hrun : isTrue nt (callA C fuel dep (.fn f) args (H0 nt)) = true) {fi : FI} (hfi : C.fn.get f = some fi) {W : World} (hW : NamesAt nt W) (ho : Beside σ W) :
    Calls P f vs.toArray W (fun e w' => e = .returned (.bool true) ∧ Below W.heap.size W w') := by
  cases hq : callA C fuel dep (.fn f) args (H0 nt) with
  | none => rw [hq] at hrun; simp [isTrue] at hrun
  | some r =>
    obtain ⟨v, H'⟩ := r
    rw [hq] at hrun
    refine (calls_of_callA hC hF hm (fi := fi) hfi hq (start_rel hng hW ho) hvs).mono fun e w' ⟨v', ρ', he, hv, hp⟩ => ?_
    unfold isTrue at hrun
    split at hrun
    · rename_i H2 heq
      cases heq
      simp only [VR] at hv
      subst hv
      exact ⟨he, below_of_post hW hp hrun⟩
    · cases hrun
end Go.Sh
/- Operations over unknown numbers: a table's entry is right where the number's own operation says so. -/
namespace Go.Sh
variable {P : Program} {C : Ctx} {σ : Env} {ρ : Rho} {w : World}
/-- the number that a shadow value stands for -/
def IV (σ : Env) : AV → IntKind → Int → Prop
  | .int k n, k', n' => k' = k ∧ n' = n
  | .sym i, k', n' => σ.val i = .int k' n'
  | _, _, _ => False
/-- a table's result for a computed one -/
def RV (σ : Env) : AV → AV → Prop
  | .sym i, .int k n => σ.val i = .int k n
  | .int k n, .int k' n' => k' = k ∧ n' = n
  | .bool b, .bool b' => b' = b
  | _, _ => False
def BinOK (σ : Env) (e : BinOp × AV × AV × AV) : Prop :=
  ∃ k a j b r, IV σ e.2.1 k a ∧ IV σ e.2.2.1 j b ∧ ((k = j ∧ intOp e.1 k a b = some r) ∨ shiftOp e.1 k a b = some r) ∧ RV σ e.2.2.2 r
theorem IV.val {x : AV} {k : IntKind} {n : Int} (h : IV σ x k n) {v : Value} (hv : VR σ ρ x v) : v = .int k n := by
  cases x <;> simp only [IV] at h <;> (try exact h.elim)
  · obtain ⟨rfl, rfl⟩ := h; simpa only [VR] using hv
  · simp only [VR] at hv; rw [hv.1, h]
theorem RV.val {r r0 : AV} (h : RV σ r r0) {v : Value} (hv : VR σ ρ r0 v) : VR σ ρ r v := by
  cases r <;> cases r0 <;> simp only [RV] at h <;> (try exact h.elim)
  · subst h; exact hv
  · obtain ⟨rfl, rfl⟩ := h; exact hv
  · simp only [VR] at hv ⊢
    subst hv
    exact ⟨h.symm, rfl⟩
theorem RV.uniq {r r0 : AV} (h : RV σ r r0) {v u : Value} (hv : VR σ ρ r0 v) (hu : VR σ ρ r0 u) : v = u := by
  cases r <;> cases r0 <;> simp only [RV] at h <;> (try exact h.elim) <;> simp only [VR] at hv hu <;> rw [hv, hu]
theorem bin_run {op : BinOp} {x y r : AV} (h : BinOK σ (op, x, y, r)) (ρ : Rho) (v u : Value) (hv : VR σ ρ x v) (hu : VR σ ρ y u) :
    ∃ r', VR σ ρ r r' ∧ ∀ w t X Y, ((do eqGuard op t X Y v u; binOp op t v u) : Sem Value).run P w = .ok r' w := by
  obtain ⟨k, a, j, b, r0, h1, h2, h3, h4⟩ := h
  have e1 := h1.val hv
  have e2 := h2.val hu
  subst e1; subst e2
  have key : ∀ w t, ∃ r', (binOp op t (.int k a) (.int j b)).run P w = .ok r' w ∧ VR σ ρ r0 r' := by
    intro w t
    rcases h3 with ⟨rfl, h3⟩ | h3
    · exact run_intOp t h3
    · exact run_shiftOp t h3
  obtain ⟨r', _, hr'⟩ := key default 0
  refine ⟨r', h4.val hr', fun w t X Y => ?_⟩
  obtain ⟨r2, k1, k2⟩ := key w t
  rw [h4.uniq hr' k2]
  have hg : (eqGuard op t X Y (.int k a) (.int j b)).run P w = .ok () w := run_guard op t X Y _ _ w (by rintro xs ys ⟨e, _⟩; cases e) (by rintro ⟨e, _⟩; cases e)
  simp only [Sem.run_bind, hg, Result.andThen_ok, k1]
/-- conversions of unknown numbers -/
def ConvOK (σ : Env) (k : IntKind) (x r : AV) : Prop := ∃ k' a, IV σ x k' a ∧ RV σ r (.int k (k.wrap a))
/-- what a table's entries must be -/
def BinsOK (σ : Env) : List (BinOp × AV × AV × AV) → Prop
  | [] => True
  | e :: l => BinOK σ e ∧ BinsOK σ l
theorem BinsOK.mem : ∀ {l : List (BinOp × AV × AV × AV)}, BinsOK σ l → ∀ e ∈ l, BinOK σ e
  | [], _, e, h => by simp at h
  | d :: l, h, e, he => by
    rcases List.mem_cons.1 he with rfl | he
    · exact h.1
    · exact BinsOK.mem h.2 e he
theorem cmp_ok {op : BinOp} {x : Nat} {n m : Int} {b : Bool} (hx : σ.val x = .int .i64 n) (h : intOp op .i64 n m = some (.bool b)) : BinOK σ (op, .sym x, .int .i64 m, .bool b) :=
  ⟨.i64, n, .i64, m, .bool b, hx, ⟨rfl, rfl⟩, .inl ⟨rfl, h⟩, rfl⟩
/-- unknown values over a world, of which no run touches anything but the names -/
def Env.over (W : World) (val : Nat → Value) : Env := ⟨val, fun b => if b = 0 then none else W.heap[b]?⟩
theorem beside_over (W : World) (val : Nat → Value) : Beside (Env.over W val) W := fun i o e => by
  simp only [Env.over] at e
  split at e
  · cases e
  · exact ⟨e, by assumption⟩
/-- a slice of one-cell elements that is there, beside the names -/
def Lies (W : World) (p : Option Addr) (n : Nat) : Prop := n = 0 ∨ ∃ blk off cells e fz, p = some ⟨blk, off, none⟩ ∧ W.heap[blk]? = some (.cells cells e fz) ∧ off + n ≤ cells.size ∧ blk ≠ 0
theorem Lies.slc {W : World} {val : Nat → Value} {p : Option Addr} {n : Nat} (h : Lies W p n) :
    n = 0 ∨ ∃ blk off cells e fz, p = some ⟨blk, off, none⟩ ∧ (Env.over W val).old blk = some (.cells cells e fz) ∧ off + n * 1 ≤ cells.size := by
  rcases h with h | ⟨blk, off, cells, e, fz, h1, h2, h3, h4⟩
  · exact .inl h
  · refine .inr ⟨blk, off, cells, e, fz, h1, ?_, by omega⟩
    simp only [Env.over]; rw [if_neg h4]; exact h2
end Go.Sh
