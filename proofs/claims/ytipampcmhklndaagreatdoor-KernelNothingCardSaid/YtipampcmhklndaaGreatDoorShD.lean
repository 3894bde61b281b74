import Derived.Test.YtipampcmhklndaaGreatDoorShC
import Derived.Orders
import Derived.Maps.Own
import Derived.Maps.Range
import Derived.Lib.SlKeysI
set_option linter.unusedVariables false
set_option linter.unusedSimpArgs false
set_option linter.unusedSectionVars false
namespace Go.Sh
variable {σ : Env} {ρ ρ' : Rho} {C : Ctx} {H H' : AH} {w w' : World} {P : Program} {fr fr2 : AFr} {cf : CallF}
/-! what an operation reads -/
theorem evs_congr : ∀ {xs : List Operand}, (∀ x ∈ xs, fr.ev x = fr2.ev x) → fr.evs xs = fr2.evs xs
  | [], _ => rfl
  | x :: xs, h => by
    simp only [AFr.evs]
    rw [h x (by simp), evs_congr (fun y hy => h y (by simp [hy]))]
theorem evParts_congr : ∀ {ps : List (Nat × Operand)}, (∀ x ∈ ps.map (·.2), fr.ev x = fr2.ev x) → evParts fr ps = evParts fr2 ps
  | [], _ => rfl
  | (i, x) :: ps, h => by
    simp only [evParts]
    rw [h x (by simp), evParts_congr (fun y hy => h y (by simp only [List.map_cons, List.mem_cons]; exact .inr hy))]
theorem optEv_congr {x : Option Operand} (h : ∀ y ∈ x.toList, fr.ev y = fr2.ev y) : stillA.optEv fr x = stillA.optEv fr2 x := by
  cases x with
  | none => rfl
  | some x => simp only [stillA.optEv]; rw [h x (by simp)]
theorem stillA_congr {o : Op} (h : ∀ x ∈ o.operands.toList, fr.ev x = fr2.ev x) (H : AH) : stillA C fr o H = stillA C fr2 o H := by
  cases o <;> simp only [Op.operands] at h <;> (try simp only [stillA])
  case build t ps => rw [evParts_congr (fun x hx => h x (by simpa using hx))]
  case makeFunc f a c =>
    cases f <;> simp only [stillA]
    rw [evs_congr (xs := a.toList) (fun x hx => h x (by simp at hx ⊢; exact .inl hx)), evs_congr (xs := c.toList) (fun x hx => h x (by simp at hx ⊢; exact .inr hx))]
  case call c =>
    obtain ⟨cal, args, at'⟩ := c
    cases cal <;> simp only [stillA]
    rw [evs_congr (xs := args.toList) (fun x hx => h x (by simp [Call.operands] at hx ⊢; exact hx))]
  case slice t x lo hi mx =>
    rw [h x (by simp), optEv_congr (x := lo) (fun y hy => h y (by simp at hy ⊢; simp [hy])), optEv_congr (x := hi) (fun y hy => h y (by simp at hy ⊢; simp [hy])), optEv_congr (x := mx) (fun y hy => h y (by simp at hy ⊢; simp [hy]))]
  case pick c a b => rw [h c (by simp), h a (by simp), h b (by simp)]
  all_goals (first | (simp at h; simp only [h]; done) | skip)
theorem floatA_congr {o : Op} (h : ∀ x ∈ o.operands.toList, fr.ev x = fr2.ev x) (b : Nat) : floatA C fr o b = floatA C fr2 o b := by
  cases o <;> simp only [Op.operands] at h <;> (try simp only [floatA])
  case box t x => rw [h x (by simp)]
  case buildSlice t n ps => rw [evParts_congr (fun x hx => h x (by simpa using hx))]
  case makeMap t r => cases r <;> rfl
theorem actA_congr {o : Op} (h : ∀ x ∈ o.operands.toList, fr.ev x = fr2.ev x) (H : AH) : actA C cf fr o H = actA C cf fr2 o H := by
  cases o <;> simp only [Op.operands] at h <;> (try simp only [actA])
  case call c =>
    obtain ⟨cal, args, at'⟩ := c
    have ha : fr.evs args.toList = fr2.evs args.toList := evs_congr (fun x hx => h x (by simp [Call.operands] at hx ⊢; exact .inr hx))
    simp only [ha]
    cases cal with
    | value f => simp only [h f (by simp [Call.operands])]
    | builtin b => rfl
    | invoke r m => rfl
  case makeMap t r =>
    cases r with
    | none => rfl
    | some r => simp only [actA]; rw [h r (by simp)]
  all_goals (first | (simp at h; simp only [h]; done) | skip)
/-! what comes before what -/
theorem bitOf_eq (n i : Nat) : bitOf n i = n.testBit i := by
  rw [Nat.testBit_eq_decide_div_mod_eq]
  unfold bitOf
  cases h : Nat.beq (n / 2 ^ i % 2) 1 with
  | true => have := Nat.eq_of_beq_eq_true h; simp [this]
  | false => have : n / 2 ^ i % 2 ≠ 1 := fun e => by rw [e] at h; simp at h
             simp [this]
theorem orAll_spec (bs : List Nat) : ∀ (es : List Edge) (acc k : Nat), (orAll bs es acc).testBit k = true → acc.testBit k = true ∨
    ∃ e ∈ es, Region.binds .any e = true ∧ ∃ b, bs[e.on]? = some b ∧ (k = e.on ∨ b.testBit k = true)
  | [], acc, k, h => .inl h
  | e :: es, acc, k, h => by
    simp only [orAll] at h
    rcases orAll_spec bs es _ k h with h1 | ⟨e', he, h1⟩
    · rw [bif_ite] at h1
      split at h1
      · rename_i hb
        rw [getN_eq] at h1
        split at h1
        · rename_i b hg
          rw [Nat.testBit_or, Nat.testBit_or, Bool.or_eq_true, Bool.or_eq_true] at h1
          rcases h1 with (h1 | h1) | h1
          · exact .inl h1
          · exact .inr ⟨e, by simp, hb, b, hg, .inl (by rw [Nat.testBit_two_pow] at h1; simpa using (of_decide_eq_true h1).symm)⟩
          · exact .inr ⟨e, by simp, hb, b, hg, .inr h1⟩
        · exact .inl h1
      · exact .inl h1
    · exact .inr ⟨e', by simp [he], h1⟩
theorem befores_spec : ∀ (ops : List Oper) (bs : List Nat), ∃ more, befores ops bs = bs ++ more ∧ more.length = ops.length ∧
    ∀ i o, ops[i]? = some o → (bs ++ more)[bs.length + i]? = some (orAll ((bs ++ more).take (bs.length + i)) o.after.toList 0)
  | [], bs => ⟨[], by simp [befores], rfl, fun i o h => by simp at h⟩
  | o :: rest, bs => by
    obtain ⟨more, h1, h2, h3⟩ := befores_spec rest (bs ++ [orAll bs o.after.toList 0])
    refine ⟨orAll bs o.after.toList 0 :: more, by simp only [befores]; rw [h1]; simp, by simp [h2], fun i o' h => ?_⟩
    cases i with
    | zero => simp at h; subst h; simp
    | succ i =>
      have := h3 i o' (by simpa using h)
      simp only [List.append_assoc, List.singleton_append, List.length_append, List.length_singleton] at this
      rw [show bs.length + (i + 1) = bs.length + 1 + i by omega]
      exact this
/-- one that comes before is told by an edge -/
theorem bits_spec {ops : List Oper} {i k b : Nat} {o : Oper} (ho : ops[i]? = some o) (hb : (befores ops [])[i]? = some b) (hk : bitOf b k = true) :
    ∃ e ∈ o.after.toList, Region.binds .any e = true ∧ e.on < i ∧ ∃ b', (befores ops [])[e.on]? = some b' ∧ (k = e.on ∨ bitOf b' k = true) := by
  obtain ⟨more, h1, h2, h3⟩ := befores_spec ops []
  rw [h1] at hb ⊢
  have h4 := h3 i o ho
  simp only [List.length_nil, Nat.zero_add, List.nil_append] at h4 hb ⊢
  rw [h4] at hb
  cases hb
  rw [bitOf_eq] at hk
  rcases orAll_spec _ _ _ _ hk with h | ⟨e, he, hbd, b', hb', hk'⟩
  · simp at h
  · rw [List.getElem?_take] at hb'
    split at hb'
    · exact ⟨e, he, hbd, by assumption, b', hb', by rw [bitOf_eq]; exact hk'⟩
    · cases hb'
theorem bits_len (ops : List Oper) : (befores ops []).length = ops.length := by
  obtain ⟨more, h1, h2, _⟩ := befores_spec ops []
  rw [h1]; simpa using h2
theorem bits_down {ops : List Oper} {L : Nat → Prop} (hL : ∀ i o, L i → ops[i]? = some o → ∀ e ∈ o.after.toList, Region.binds .any e = true → L e.on) :
    ∀ (i : Nat) (o : Oper) (b k : Nat), ops[i]? = some o → (befores ops [])[i]? = some b → (∀ e ∈ o.after.toList, Region.binds .any e = true → L e.on) → bitOf b k = true → L k := by
  intro i
  induction i using Nat.strongRecOn with
  | _ i ih =>
    intro o b k ho hb he hk
    obtain ⟨e, he1, he2, he3, b', hb', hk'⟩ := bits_spec ho hb hk
    have hLe := he e he1 he2
    rcases hk' with rfl | hk'
    · exact hLe
    · have hlt : e.on < ops.length := by have := (List.getElem?_eq_some_iff.1 ho).1; omega
      exact ih e.on he3 ops[e.on] b' k (List.getElem?_eq_getElem hlt) hb' (hL _ _ hLe (List.getElem?_eq_getElem hlt)) hk'
theorem pairsOk_spec {all : List Oper} {oi : Oper} {i : Nat} : ∀ {rest : List Oper} {bs : List Nat}, pairsOk C all oi i rest bs = true → ∀ (j : Nat) (oj : Oper) (bj : Nat), rest[j]? = some oj → bs[j]? = some bj →
    bitOf bj i = true ∨ apartA C all oi oj = true
  | [], _, _, j, oj, bj, h, _ => by simp at h
  | o :: rest, [], h, j, oj, bj, h1, h2 => by simp at h2
  | o :: rest, b :: bs, h, j, oj, bj, h1, h2 => by
    simp only [pairsOk] at h
    obtain ⟨h3, h4⟩ := bif_some' h
    cases j with
    | zero =>
      simp at h1 h2; subst h1; subst h2
      rw [bif_ite] at h3
      split at h3
      · exact .inl (by assumption)
      · exact .inr h3
    | succ j => exact pairsOk_spec h4 j oj bj (by simpa using h1) (by simpa using h2)
where bif_some' {a b : Bool} (h : (bif a then b else false) = true) : a = true ∧ b = true := by cases a <;> simp_all
theorem allPairs_spec {all : List Oper} : ∀ {ops : List Oper} {s : Nat} {bs : List Nat}, allPairs C all ops s bs = true → ∀ (i j : Nat) (oi oj : Oper) (bj : Nat), i < j → ops[i]? = some oi → ops[j]? = some oj → bs[j]? = some bj →
    bitOf bj (s + i) = true ∨ apartA C all oi oj = true
  | [], _, _, _, i, j, oi, oj, bj, _, h, _, _ => by simp at h
  | o :: rest, s, bs, h, i, j, oi, oj, bj, hij, h1, h2, h3 => by
    simp only [allPairs] at h
    obtain ⟨h4, h5⟩ := pairsOk_spec.bif_some' h
    cases j with
    | zero => omega
    | succ j =>
      have h3' : (bs.drop 1)[j]? = some bj := by rw [List.getElem?_drop, Nat.add_comm]; exact h3
      cases i with
      | zero =>
        simp at h1; subst h1
        exact pairsOk_spec h4 j oj bj (by simpa using h2) h3'
      | succ i =>
        have := allPairs_spec h5 i j oi oj bj (by omega) (by simpa using h1) (by simpa using h2) h3'
        rw [show s + (i + 1) = s + 1 + i by omega]; exact this
end Go.Sh
namespace Go.Sh
variable {C : Ctx} {H H' : AH} {fr fr' fr0 : AFr} {cf : CallF}
/-! what lies in a slot when some have been carried out -/
def IsVal (L : Nat → Prop) (rs : List ARec) (f : Nat → AV) (q : Nat) (v : AV) : Prop :=
  (∃ i r, rs[i]? = some r ∧ L i ∧ r.o.dst = some q ∧ r.v = v ∧ ∀ i' r', rs[i']? = some r' → L i' → r'.o.dst = some q → i' ≤ i) ∨
  ((∀ (i : Nat) (r : ARec), rs[i]? = some r → L i → r.o.dst ≠ some q) ∧ v = f q)
theorem IsVal.unique {L : Nat → Prop} {rs : List ARec} {f : Nat → AV} {q : Nat} {v v' : AV} (h : IsVal L rs f q v) (k : IsVal L rs f q v') : v = v' := by
  rcases h with ⟨i, r, h1, h2, h3, h4, h5⟩ | ⟨h1, h2⟩ <;> rcases k with ⟨i', r', k1, k2, k3, k4, k5⟩ | ⟨k1, k2⟩
  · have : i = i' := Nat.le_antisymm (k5 i r h1 h2 h3) (h5 i' r' k1 k2 k3)
    subst this; rw [h1] at k1; cases k1; rw [← h4, k4]
  · exact absurd h3 (k1 i r h1 h2)
  · exact absurd k3 (h1 i' r' k1 k2)
  · rw [h2, k2]
theorem IsVal.congr {L L' : Nat → Prop} {rs : List ARec} {f : Nat → AV} {q : Nat} {v : AV} (hl : ∀ i r, rs[i]? = some r → r.o.dst = some q → (L i ↔ L' i)) (h : IsVal L rs f q v) : IsVal L' rs f q v := by
  rcases h with ⟨i, r, h1, h2, h3, h4, h5⟩ | ⟨h1, h2⟩
  · exact .inl ⟨i, r, h1, (hl i r h1 h3).1 h2, h3, h4, fun i' r' e1 e2 e3 => h5 i' r' e1 ((hl i' r' e1 e3).2 e2) e3⟩
  · exact .inr ⟨fun i r e1 e2 e3 => h1 i r e1 ((hl i r e1 e3).2 e2) e3, h2⟩
theorem IsVal.nil {L : Nat → Prop} {f : Nat → AV} {q : Nat} : IsVal L [] f q (f q) := .inr ⟨fun i r h => by simp at h, rfl⟩
theorem IsVal.of_take {rs : List ARec} {p : Nat} {f : Nat → AV} {q : Nat} {v : AV} (h : IsVal (fun _ => True) (rs.take p) f q v) : IsVal (fun i => i < p) rs f q v := by
  have ht : ∀ i r, (rs.take p)[i]? = some r ↔ (rs[i]? = some r ∧ i < p) := by
    intro i r; rw [List.getElem?_take]; split <;> simp_all
  rcases h with ⟨i, r, h1, _, h3, h4, h5⟩ | ⟨h1, h2⟩
  · rw [ht] at h1
    exact .inl ⟨i, r, h1.1, h1.2, h3, h4, fun i' r' e1 e2 e3 => h5 i' r' ((ht _ _).2 ⟨e1, e2⟩) trivial e3⟩
  · exact .inr ⟨fun i r e1 e2 e3 => h1 i r ((ht _ _).2 ⟨e1, e2⟩) trivial e3, h2⟩
theorem IsVal.snoc {rs : List ARec} {f : Nat → AV} {q : Nat} {v v' : AV} {r : ARec} (h : IsVal (fun _ => True) rs f q v) (hv : if r.o.dst = some q then v' = r.v else v' = v) :
    IsVal (fun _ => True) (rs ++ [r]) f q v' := by
  have ha : ∀ i r', (rs ++ [r])[i]? = some r' ↔ (rs[i]? = some r' ∨ (i = rs.length ∧ r' = r)) := by
    intro i r'
    by_cases hi : i < rs.length
    · rw [List.getElem?_append_left hi]; constructor
      · exact .inl
      · rintro (h | ⟨h, _⟩)
        · exact h
        · omega
    · rw [List.getElem?_append_right (by omega)]
      have : rs[i]? = none := List.getElem?_eq_none (by omega)
      rw [this]
      constructor
      · intro h
        have hlt := (List.getElem?_eq_some_iff.1 h).1
        simp at hlt
        have : i = rs.length := by omega
        subst this; simp at h; exact .inr ⟨rfl, h.symm⟩
      · rintro (h | ⟨rfl, rfl⟩)
        · cases h
        · simp
  by_cases hd : r.o.dst = some q
  · rw [if_pos hd] at hv; subst hv
    refine .inl ⟨rs.length, r, (ha _ _).2 (.inr ⟨rfl, rfl⟩), trivial, hd, rfl, fun i' r' e1 _ _ => ?_⟩
    rcases (ha _ _).1 e1 with e | ⟨e, _⟩
    · exact Nat.le_of_lt (List.getElem?_eq_some_iff.1 e).1
    · omega
  · rw [if_neg hd] at hv; subst hv
    rcases h with ⟨i, r1, h1, _, h3, h4, h5⟩ | ⟨h1, h2⟩
    · refine .inl ⟨i, r1, (ha _ _).2 (.inl h1), trivial, h3, h4, fun i' r' e1 _ e3 => ?_⟩
      rcases (ha _ _).1 e1 with e | ⟨_, rfl⟩
      · exact h5 i' r' e trivial e3
      · exact absurd e3 hd
    · refine .inr ⟨fun i r' e1 _ e3 => ?_, h2⟩
      rcases (ha _ _).1 e1 with e | ⟨_, rfl⟩
      · exact h1 i r' e trivial e3
      · exact absurd e3 hd
/-! what acted -/
def plcOf : Acts → Nat → Bool
  | [], _ => false
  | x :: rest, k => bitOf x.2.1 k || plcOf rest k
def lastH (H : AH) : Acts → AH
  | [] => H
  | x :: rest => lastH x.2.2 rest
theorem lastH_snoc (x : Nat × Nat × AH) : ∀ (al : Acts) (H : AH), lastH H (al ++ [x]) = x.2.2
  | [], _ => rfl
  | _ :: rest, _ => lastH_snoc x rest _
theorem plcOf_append : ∀ (a b : Acts) (k : Nat), plcOf (a ++ b) k = (plcOf a k || plcOf b k)
  | [], b, k => by simp [plcOf]
  | x :: a, b, k => by simp [plcOf, plcOf_append a b k, Bool.or_assoc]
theorem addM_congr {s s' : Nat → Bool} (h : ∀ k, s k = s' k) : ∀ (rs : List ARec) (i : Nat) (H : AH), addM s rs i H = addM s' rs i H
  | [], _, _ => rfl
  | r :: rest, i, H => by
    simp only [addM, h, addM_congr h rest]
/-! the whole record -/
def KindOK (C : Ctx) (cf : CallF) (all : List Oper) (bits : List Nat) (Hs : AH) (rs : List ARec) (al : Acts) (i : Nat) (r : ARec) : Prop :=
  match r.k with
  | .skip => wantedA all r.fr r.o = some false ∧ r.v = .undef
  | .look => wantedA all r.fr r.o = some true ∧ still C r.o.op = true
  | .made b ab => wantedA all r.fr r.o = some true ∧ still C r.o.op = false ∧ isFloat r.o.op = true ∧ floatA C r.fr r.o.op b = some (r.v, ab)
  | .acted bi => wantedA all r.fr r.o = some true ∧ still C r.o.op = false ∧ isFloat r.o.op = false ∧ bits[i]? = some bi ∧
      ∃ al1 post al2 H0, al = al1 ++ (i, bi, post) :: al2 ∧ addM (fun k => bitOf bi k && !(plcOf al1 k)) (rs.take i) 0 (lastH Hs al1) = some H0 ∧ actA C cf r.fr r.o.op H0 = some (r.v, post)
structure Rec (C : Ctx) (cf : CallF) (all : List Oper) (bits : List Nat) (fr0 : AFr) (top nb0 : Nat) (Hs : AH) (rs : List ARec) (al : Acts) (fr : AFr) (nb : Nat) : Prop where
  op : ∀ (i : Nat) (r : ARec), rs[i]? = some r → all[i]? = some r.o
  val : ∀ (i : Nat) (r : ARec), rs[i]? = some r → ∀ q, IsVal (fun _ => True) (rs.take i) fr0.tmp q (r.fr.tmp q)
  frs : ∀ (i : Nat) (r : ARec), rs[i]? = some r → r.fr.ng = fr0.ng ∧ r.fr.n = fr0.n ∧ r.fr.fn = fr0.fn ∧ ∀ d, r.o.dst = some d → d < fr0.n
  kind : ∀ (i : Nat) (r : ARec), rs[i]? = some r → KindOK C cf all bits Hs rs al i r
  made : ∀ (i : Nat) (r : ARec) (b : Nat) (ab : AB), rs[i]? = some r → r.k = .made b ab → nb0 ≤ b ∧ b < top ∧ b < nb
  mono : ∀ (i i' : Nat) (r r' : ARec) (b b' : Nat) (ab ab' : AB), rs[i]? = some r → rs[i']? = some r' → r.k = .made b ab → r'.k = .made b' ab' → i < i' → b < b'
  acts : ∀ x ∈ al, x.1 < rs.length ∧ ∃ r : ARec, rs[x.1]? = some r ∧ r.k = .acted x.2.1
  sorted : al.Pairwise (fun x y => x.1 < y.1)
  fin : ∀ q, IsVal (fun _ => True) rs fr0.tmp q (fr.tmp q)
  keep : fr.ng = fr0.ng ∧ fr.n = fr0.n ∧ fr.fn = fr0.fn ∧ fr.defers = fr0.defers ∧ fr.round = fr0.round
  nbs : nb0 ≤ nb
  out : ∀ q, fr0.n ≤ q → fr.tmps.get q = fr0.tmps.get q
variable {all : List Oper} {bits : List Nat} {top nb0 nb : Nat} {Hs : AH} {rs : List ARec} {al : Acts}
theorem put_tmp {dst : Option Tmp} {v : AV} (hp : fr.put dst v = some fr') : (∀ q, if dst = some q then fr'.tmp q = v else fr'.tmp q = fr.tmp q) ∧ ∀ d, dst = some d → d < fr.n := by
  unfold AFr.put at hp
  split at hp
  · cases hp; exact ⟨fun q => by simp, fun d h => by cases h⟩
  · rename_i d
    obtain ⟨hlt, hp⟩ := bif_some hp
    cases hp
    refine ⟨fun q => ?_, fun d' h => by cases h; exact blt_of hlt⟩
    by_cases hq : q = d
    · subst hq; simp [AFr.tmp, T.get_set]
    · rw [if_neg (fun e => hq (by cases e; rfl))]; simp [AFr.tmp, T.get_set, hq]
theorem put_out {dst : Option Tmp} {v : AV} (hp : fr.put dst v = some fr') (q : Nat) (hq : fr.n ≤ q) : fr'.tmps.get q = fr.tmps.get q := by
  unfold AFr.put at hp
  split at hp
  · cases hp; rfl
  · obtain ⟨hlt, hp⟩ := bif_some hp
    cases hp
    have := blt_of hlt
    simp only
    rw [T.get_set, if_neg (by omega)]
theorem get_snoc {α : Type} (rs : List α) (r : α) (i : Nat) (r' : α) : (rs ++ [r])[i]? = some r' ↔ (rs[i]? = some r' ∨ (i = rs.length ∧ r' = r)) := by
  by_cases hi : i < rs.length
  · rw [List.getElem?_append_left hi]; constructor
    · exact .inl
    · rintro (h | ⟨h, _⟩)
      · exact h
      · omega
  · rw [List.getElem?_append_right (by omega)]
    have : rs[i]? = none := List.getElem?_eq_none (by omega)
    rw [this]
    constructor
    · intro h
      have hlt := (List.getElem?_eq_some_iff.1 h).1
      simp at hlt
      have : i = rs.length := by omega
      subst this; simp at h; exact .inr ⟨rfl, h.symm⟩
    · rintro (h | ⟨rfl, rfl⟩)
      · cases h
      · simp
/-- one more -/
theorem Rec.snoc (h : Rec C cf all bits fr0 top nb0 Hs rs al fr nb) {o : Oper} {v : AV} {k : AK} {al' : Acts} {nb' : Nat} (ho : all[rs.length]? = some o) (hp : fr.put o.dst v = some fr')
    (hal : al' = al ∨ ∃ bi post, k = .acted bi ∧ al' = al ++ [(rs.length, bi, post)]) (hnb : nb ≤ nb') (hmade : ∀ b ab, k = .made b ab → nb ≤ b ∧ b < top ∧ b < nb')
    (hk : KindOK C cf all bits Hs (rs ++ [⟨o, fr, v, k⟩]) al' rs.length ⟨o, fr, v, k⟩) : Rec C cf all bits fr0 top nb0 Hs (rs ++ [⟨o, fr, v, k⟩]) al' fr' nb' := by
  obtain ⟨k1, k2, k3, k4, k5⟩ := put_keeps hp
  obtain ⟨p1, p2⟩ := put_tmp hp
  obtain ⟨q1, q2, q3, q4, q5⟩ := h.keep
  have hlt : ∀ i r', rs[i]? = some r' → i < rs.length := fun i r' e => (List.getElem?_eq_some_iff.1 e).1
  have htake : ∀ i, i < rs.length → (rs ++ [(⟨o, fr, v, k⟩ : ARec)]).take i = rs.take i := fun i hi => List.take_append_of_le_length (Nat.le_of_lt hi)
  refine ⟨?_, ?_, ?_, ?_, ?_, ?_, ?_, ?_, ?_, ⟨by rw [k5, q1], by rw [k4, q2], by rw [k1, q3], by rw [k2, q4], by rw [k3, q5]⟩, Nat.le_trans h.nbs hnb, fun q hq => by rw [← h.out q hq]; exact put_out hp q (by rw [q2]; exact hq)⟩
  · intro i r' e
    rcases (get_snoc _ _ _ _).1 e with e | ⟨rfl, rfl⟩
    · exact h.op i r' e
    · exact ho
  · intro i r' e q
    rcases (get_snoc _ _ _ _).1 e with e | ⟨rfl, rfl⟩
    · rw [htake i (hlt i r' e)]; exact h.val i r' e q
    · rw [List.take_left']; exact h.fin q
      rfl
  · intro i r' e
    rcases (get_snoc _ _ _ _).1 e with e | ⟨rfl, rfl⟩
    · exact h.frs i r' e
    · exact ⟨q1, q2, q3, fun d hd => by rw [← q2]; exact p2 d hd⟩
  · intro i r' e
    rcases (get_snoc _ _ _ _).1 e with e | ⟨rfl, rfl⟩
    · have := h.kind i r' e
      unfold KindOK at this ⊢
      rw [htake i (hlt i r' e)]
      generalize r'.k = kk at this ⊢
      cases kk <;> simp only at this ⊢ <;> (try exact this)
      obtain ⟨t1, t2, t3, t4, al1, post, al2, H0, t5, t6, t7⟩ := this
      refine ⟨t1, t2, t3, t4, al1, post, ?_⟩
      rcases hal with rfl | ⟨bi, post', _, rfl⟩
      · exact ⟨al2, H0, t5, t6, t7⟩
      · exact ⟨al2 ++ [(rs.length, bi, post')], H0, by rw [t5]; simp, t6, t7⟩
    · exact hk
  · intro i r' b ab e ek
    rcases (get_snoc _ _ _ _).1 e with e | ⟨rfl, rfl⟩
    · obtain ⟨m1, m2, m3⟩ := h.made i r' b ab e ek; exact ⟨m1, m2, Nat.lt_of_lt_of_le m3 hnb⟩
    · obtain ⟨m1, m2, m3⟩ := hmade b ab ek; exact ⟨Nat.le_trans h.nbs m1, m2, m3⟩
  · intro i i' r1 r2 b b' ab ab' e e' ek ek' hii
    rcases (get_snoc _ _ _ _).1 e with e | ⟨rfl, rfl⟩ <;> rcases (get_snoc _ _ _ _).1 e' with e' | ⟨rfl, rfl⟩
    · exact h.mono i i' r1 r2 b b' ab ab' e e' ek ek' hii
    · exact Nat.lt_of_lt_of_le (h.made i r1 b ab e ek).2.2 (hmade b' ab' ek').1
    · have := hlt _ _ e'; omega
    · omega
  · intro x hx
    have old : x ∈ al → x.1 < (rs ++ [(⟨o, fr, v, k⟩ : ARec)]).length ∧ ∃ r, (rs ++ [(⟨o, fr, v, k⟩ : ARec)])[x.1]? = some r ∧ r.k = .acted x.2.1 := fun hx => by
      obtain ⟨a1, r', a2, a3⟩ := h.acts x hx
      exact ⟨by simp; omega, r', (get_snoc _ _ _ _).2 (.inl a2), a3⟩
    rcases hal with rfl | ⟨bi, post', hkk, rfl⟩
    · exact old hx
    · rcases List.mem_append.1 hx with hx | hx
      · exact old hx
      · simp at hx; subst hx
        exact ⟨by simp, _, (get_snoc _ _ _ _).2 (.inr ⟨rfl, rfl⟩), hkk⟩
  · rcases hal with rfl | ⟨bi, post', hkk, rfl⟩
    · exact h.sorted
    · rw [List.pairwise_append]
      exact ⟨h.sorted, List.pairwise_singleton _ _, fun x hx y hy => by simp at hy; subst hy; exact (h.acts x hx).1⟩
  · intro q
    refine (h.fin q).snoc ?_
    have := p1 q
    simp only
    split <;> simp_all
theorem runDrawn_rec : ∀ (rest : List Oper) (bs : List Nat) (p : Nat) (fr : AFr) (nb : Nat) (rs : List ARec) (plc : Nat) (al : Acts) (H : AH) (rs' : List ARec) (al' : Acts),
    runDrawn C cf all top rest bs p fr nb rs plc al H = some (fr', rs', al', H') → p = rs.length → all.drop p = rest → bits.drop p = bs → (∀ k, bitOf plc k = plcOf al k) → H = lastH Hs al →
    Rec C cf all bits fr0 top nb0 Hs rs al fr nb → (∃ nb', Rec C cf all bits fr0 top nb0 Hs rs' al' fr' nb') ∧ rs'.length = rs.length + rest.length ∧ addM (fun k => !(plcOf al' k)) rs' 0 (lastH Hs al') = some H'
  | [], bs, p, fr, nb, rs, plc, al, H, rs', al', h, hp, hr, hb, hpl, hH, hR => by
    simp only [runDrawn] at h
    obtain ⟨H1, h1, h2⟩ := map_some h
    cases h2
    subst hH
    exact ⟨⟨nb, hR⟩, rfl, by rw [addM_congr (s' := fun k => !(bitOf plc k)) (fun k => by rw [hpl])]; exact h1⟩
  | o :: rest, [], p, fr, nb, rs, plc, al, H, rs', al', h, hp, hr, hb, hpl, hH, hR => by simp [runDrawn] at h
  | o :: rest, bi :: bs, p, fr, nb, rs, plc, al, H, rs', al', h, hp, hr, hb, hpl, hH, hR => by
    subst hp
    have ho : all[rs.length]? = some o := by rw [← List.head?_drop, hr]; rfl
    have hbi : bits[rs.length]? = some bi := by rw [← List.head?_drop, hb]; rfl
    have hr' : all.drop (rs.length + 1) = rest := by rw [← List.tail_drop, hr]; rfl
    have hb' : bits.drop (rs.length + 1) = bs := by rw [← List.tail_drop, hb]; rfl
    simp only [runDrawn] at h
    split at h
    · rename_i hw
      rw [bif_ite] at h
      split at h
      · rename_i hs
        obtain ⟨v, h1, h2⟩ := bind_some h
        obtain ⟨fr1, h3, h4⟩ := bind_some h2
        have hR' := hR.snoc (k := .look) (al' := al) (nb' := nb) ho h3 (.inl rfl) (Nat.le_refl _) (fun _ _ e => by cases e) ⟨hw, hs⟩
        obtain ⟨a1, a2, a3⟩ := runDrawn_rec rest bs _ fr1 nb _ plc al H rs' al' h4 (by simp) hr' hb' hpl hH hR'
        exact ⟨a1, by rw [a2]; simp; omega, a3⟩
      · rename_i hs
        have hs : still C o.op = false := by simpa using hs
        rw [bif_ite] at h
        split at h
        · rename_i hfl
          rw [bif_ite] at h
          split at h
          · rename_i htop
            obtain ⟨⟨v, ab⟩, h1, h2⟩ := bind_some h
            obtain ⟨fr1, h3, h4⟩ := bind_some h2
            have hR' := hR.snoc (k := .made nb ab) (al' := al) (nb' := nb + 1) ho h3 (.inl rfl) (by omega) (fun b ab' e => by cases e; exact ⟨Nat.le_refl _, blt_of htop, by omega⟩) ⟨hw, hs, hfl, h1⟩
            obtain ⟨a1, a2, a3⟩ := runDrawn_rec rest bs _ fr1 _ _ plc al H rs' al' h4 (by simp) hr' hb' hpl hH hR'
            exact ⟨a1, by rw [a2]; simp; omega, a3⟩
          · cases h
        · rename_i hfl
          have hfl : isFloat o.op = false := by simpa using hfl
          obtain ⟨H0, h0, h1⟩ := bind_some h
          obtain ⟨⟨v, H1⟩, h2, h3⟩ := bind_some h1
          obtain ⟨fr1, h4, h5⟩ := bind_some h3
          simp only at h4 h5
          have hpl' : ∀ k, bitOf (plc ||| bi) k = plcOf (al ++ [(rs.length, bi, H1)]) k := by
            intro k
            rw [plcOf_append, ← hpl, bitOf_eq, bitOf_eq, Nat.testBit_or]
            simp [plcOf, bitOf_eq]
          have hR' := hR.snoc (k := .acted bi) (al' := al ++ [(rs.length, bi, H1)]) (nb' := nb) ho h4 (.inr ⟨bi, H1, rfl, rfl⟩) (Nat.le_refl _) (fun _ _ e => by cases e)
            ⟨hw, hs, hfl, hbi, al, H1, [], H0, rfl, by
              rw [List.take_left' rfl, addM_congr (s' := fun k => bitOf bi k && !(bitOf plc k)) (fun k => by rw [hpl]), ← hH]; exact h0, h2⟩
          obtain ⟨a1, a2, a3⟩ := runDrawn_rec rest bs _ fr1 _ _ _ _ H1 rs' al' h5 (by simp) hr' hb' hpl' (by rw [lastH_snoc]) hR'
          exact ⟨a1, by rw [a2]; simp; omega, a3⟩
    · rename_i hw
      obtain ⟨fr1, h3, h4⟩ := bind_some h
      have hR' := hR.snoc (k := .skip) (al' := al) (nb' := nb) ho h3 (.inl rfl) (Nat.le_refl _) (fun _ _ e => by cases e) ⟨hw, rfl⟩
      obtain ⟨a1, a2, a3⟩ := runDrawn_rec rest bs _ fr1 nb _ plc al H rs' al' h4 (by simp) hr' hb' hpl hH hR'
      exact ⟨a1, by rw [a2]; simp; omega, a3⟩
    · cases h
end Go.Sh
namespace Go.Sh
variable {σ : Env} {ρ ρ' ρ0 : Rho} {C : Ctx} {H H' H0 : AH} {w w' w0 : World} {P : Program} {fr fr' fr0 : AFr} {cf : CallF}
/-! blocks that are there, and not in the shadow heap yet -/
theorem HR.pushed (h : HR C σ ρ H w) {b size : Nat} {o : Obj} (hb : ρ b = none) (hlt : b < H.next) : Ext ρ (upd ρ b ⟨w.heap.size, 0, size⟩) ∧
    HR C σ (upd ρ b ⟨w.heap.size, 0, size⟩) H { w with heap := w.heap.push o } ∧ ∀ x, x < w.heap.size ∨ x = w.heap.size → Liv (upd ρ b ⟨w.heap.size, 0, size⟩) H x → x < w.heap.size ∧ Liv ρ H x := by
  have hext : Ext ρ (upd ρ b ⟨w.heap.size, 0, size⟩) := fun c r e => by rw [upd_other _ _ (by rintro rfl; rw [hb] at e; cases e)]; exact e
  have hne : ∀ c ac, H.get c = some ac → c ≠ b := by
    rintro c ac e rfl
    obtain ⟨r, o, e1, _⟩ := h.live c ac e
    rw [hb] at e1; cases e1
  refine ⟨hext, ⟨fun c r e => ?_, fun c r e => ?_, fun c ac e => ?_, fun c c' ac ac' s s' e e' k k' hs => ?_, fun g hg => ?_, fun i o' e => ⟨?_, fun c r k hh => ?_⟩⟩, fun x _ hl => ?_⟩
  · by_cases hc : c = b
    · subst hc; exact hlt
    · rw [upd_other _ _ hc] at e; exact h.dom c r e
  · simp only [Array.size_push]
    by_cases hc : c = b
    · subst hc; rw [upd_same] at e; cases e; simp
    · rw [upd_other _ _ hc] at e; have := h.rng c r e; omega
  · obtain ⟨r, o', e1, e2, e3⟩ := h.live c ac e
    refine ⟨r, o', hext _ _ e1, ?_, e3.mono hext⟩
    have := h.rng c r e1
    simp only [Array.getElem?_push]; rw [if_neg (by omega)]; exact e2
  · rw [upd_other _ _ (hne c ac e)] at k; rw [upd_other _ _ (hne c' ac' e')] at k'
    exact h.inj c c' ac ac' s s' e e' k k' hs
  · obtain ⟨r, e1, e2, e3⟩ := h.glob g hg; exact ⟨r, hext _ _ e1, e2, e3⟩
  · have := h.old_lt e
    simp only [Array.getElem?_push]; rw [if_neg (by omega)]; exact (h.old i o' e).1
  · by_cases hc : c = b
    · subst hc; rw [upd_same] at k; cases k; have := h.old_lt e; simp only at hh; omega
    · rw [upd_other _ _ hc] at k; exact (h.old i o' e).2 c r k hh
  · obtain ⟨c, ac, r, e, k, rfl⟩ := hl
    rw [upd_other _ _ (hne c ac e)] at k
    exact ⟨h.rng c r k, c, ac, r, e, k, rfl⟩
def Pend (C : Ctx) (σ : Env) (ρ : Rho) (H : AH) (w : World) (b : Nat) (ab : AB) (q : RB) : Prop := ρ b = some q ∧ (∃ o, w.heap[q.blk]? = some o ∧ BR C σ ρ ab q o) ∧ ¬ Liv ρ H q.blk
theorem place {sel : Nat → Bool} : ∀ (rs : List ARec) (i : Nat) (H H' : AH), HR C σ ρ H w → addM sel rs i H = some H' →
    (∀ (k : Nat) (r : ARec) (b : Nat) (ab : AB), rs[k]? = some r → r.k = .made b ab → sel (i + k) = true → ∃ q, Pend C σ ρ H w b ab q) →
    (∀ (k k' : Nat) (r r' : ARec) (b b' : Nat) (ab ab' : AB) (q q' : RB), rs[k]? = some r → rs[k']? = some r' → r.k = .made b ab → r'.k = .made b' ab' → sel (i + k) = true → sel (i + k') = true → ρ b = some q → ρ b' = some q' → q.blk = q'.blk → k = k') →
    HR C σ ρ H' w ∧ H'.next = H.next ∧ ∀ x, Liv ρ H' x → Liv ρ H x ∨ ∃ (k : Nat) (r : ARec) (b : Nat) (ab : AB) (q : RB), rs[k]? = some r ∧ r.k = .made b ab ∧ sel (i + k) = true ∧ ρ b = some q ∧ q.blk = x
  | [], i, H, H', hr, h, _, _ => by
    simp only [addM] at h; cases h
    exact ⟨hr, rfl, fun x hx => .inl hx⟩
  | r :: rs, i, H, H', hr, h, hp, hd => by
    have lift : ∀ (H1 : AH), HR C σ ρ H1 w → addM sel rs (i + 1) H1 = some H' → H1.next = H.next → (∀ x, Liv ρ H1 x → Liv ρ H x ∨ ∃ (b : Nat) (ab : AB) (q : RB), r.k = .made b ab ∧ sel i = true ∧ ρ b = some q ∧ q.blk = x) → _ := fun H1 hr1 h1 hn hl1 => by
      have IH := place rs (i + 1) H1 H' hr1 h1 (fun k r' b ab e ek es => by
        obtain ⟨q, q1, q2, q3⟩ := hp (k + 1) r' b ab (by simpa using e) ek (by rw [show i + (k + 1) = i + 1 + k by omega]; exact es)
        refine ⟨q, q1, q2, fun hl => ?_⟩
        rcases hl1 _ hl with hl | ⟨b2, ab2, q4, e2, e3, e4, e5⟩
        · exact q3 hl
        · have := hd 0 (k + 1) r r' b2 b ab2 ab q4 q rfl (by simpa using e) e2 ek (by simpa using e3) (by rw [show i + (k + 1) = i + 1 + k by omega]; exact es) e4 q1 e5
          omega)
        (fun k k' r1 r2 b b' ab ab' q q' e e' ek ek' es es' eq eq' hb => by
          have := hd (k + 1) (k' + 1) r1 r2 b b' ab ab' q q' (by simpa using e) (by simpa using e') ek ek' (by rw [show i + (k + 1) = i + 1 + k by omega]; exact es) (by rw [show i + (k' + 1) = i + 1 + k' by omega]; exact es') eq eq' hb
          omega)
      obtain ⟨a1, a2, a3⟩ := IH
      refine (⟨a1, a2.trans hn, fun x hx => ?_⟩ : HR C σ ρ H' w ∧ H'.next = H.next ∧ ∀ x, Liv ρ H' x → Liv ρ H x ∨ ∃ (k : Nat) (r1 : ARec) (b : Nat) (ab : AB) (q : RB), (r :: rs)[k]? = some r1 ∧ r1.k = .made b ab ∧ sel (i + k) = true ∧ ρ b = some q ∧ q.blk = x)
      rcases a3 x hx with hx | ⟨k, r1, b, ab, q, e1, e2, e3, e4, e5⟩
      · rcases hl1 x hx with hx | ⟨b, ab, q, e2, e3, e4, e5⟩
        · exact .inl hx
        · exact .inr ⟨0, r, b, ab, q, rfl, e2, by simpa using e3, e4, e5⟩
      · exact .inr ⟨k + 1, r1, b, ab, q, by simpa using e1, e2, by rw [show i + (k + 1) = i + 1 + k by omega]; exact e3, e4, e5⟩
    simp only [addM] at h
    split at h
    · rename_i b ab hk
      rw [bif_ite] at h
      split at h
      · rename_i hs
        split at h
        · rename_i hg
          obtain ⟨q, q1, ⟨o, q2, q3⟩, q4⟩ := hp 0 r b ab rfl hk (by simpa using hs)
          have hL : ∀ x, Liv ρ (H.put b ab) x → Liv ρ H x ∨ x = q.blk := by
            rintro x ⟨c, ac, s, e, k, rfl⟩
            rw [AH.get_put] at e
            by_cases hc : c = b
            · subst hc; rw [q1] at k; cases k; exact .inr rfl
            · rw [if_neg hc] at e; exact .inl ⟨c, ac, s, e, k, rfl⟩
          have hr1 : HR C σ ρ (H.put b ab) w := by
            refine ⟨hr.dom, hr.rng, fun c ac e => ?_, fun c c' ac ac' s s' e e' k k' hs' => ?_, hr.glob, hr.old⟩
            · rw [AH.get_put] at e
              by_cases hc : c = b
              · subst hc; rw [if_pos rfl] at e; cases e; exact ⟨q, o, q1, q2, q3⟩
              · rw [if_neg hc] at e; exact hr.live c ac e
            · rw [AH.get_put] at e e'
              by_cases hc : c = b <;> by_cases hc' : c' = b
              · rw [hc, hc']
              · subst hc; rw [q1] at k; cases k; rw [if_neg hc'] at e'; exact absurd ⟨c', ac', s', e', k', hs'.symm⟩ q4
              · subst hc'; rw [q1] at k'; cases k'; rw [if_neg hc] at e; exact absurd ⟨c, ac, s, e, k, hs'⟩ q4
              · rw [if_neg hc] at e; rw [if_neg hc'] at e'; exact hr.inj c c' ac ac' s s' e e' k k' hs'
          exact lift _ hr1 h rfl (fun x hx => (hL x hx).imp id (fun e => ⟨b, ab, q, hk, hs, q1, e.symm⟩))
        · cases h
      · exact lift _ hr h rfl (fun x hx => .inl hx)
    · exact lift _ hr h rfl (fun x hx => .inl hx)
theorem lookOk_spec {o : Op} {v : AV} {i b : Nat} : ∀ (al1 al2 : Acts) (H : AH), lookOk C fr o v i b H (al1 ++ al2) = true → (∀ x ∈ al1, bitOf x.2.1 i = false) → (∀ x ∈ al2.head?, bitOf b x.1 = false) →
    stillA C fr o (lastH H al1) = some v
  | [], al2, H, h, _, h2 => by
    have hs : sameA C fr o v H = true := by
      cases al2 with
      | nil => simpa [lookOk] using h
      | cons x al2 =>
        obtain ⟨p, bp, H'⟩ := x
        simp only [List.nil_append, lookOk] at h
        have := (pairsOk_spec.bif_some' h).1
        have hb := h2 (p, bp, H') (by simp)
        simp only at hb
        rw [hb] at this
        exact this
    unfold sameA at hs
    simp only [lastH]
    split at hs
    · rename_i u hu
      rw [hu, AV.beq_of _ _ hs]
    · cases hs
  | (p, bp, H') :: al1, al2, H, h, h1, h2 => by
    simp only [List.cons_append, lookOk] at h
    have h3 := (pairsOk_spec.bif_some' h).2
    have hb := h1 (p, bp, H') (by simp)
    simp only at hb
    rw [hb] at h3
    exact lookOk_spec al1 al2 H' h3 (fun x hx => h1 x (by simp [hx])) h2
theorem checkLooks_spec {al : Acts} {Hs : AH} : ∀ (rs : List ARec) (bs : List Nat) (s : Nat), checkLooks C al Hs rs bs s = true → ∀ (i : Nat) (r : ARec) (b : Nat), rs[i]? = some r → bs[i]? = some b → r.k = .look →
    lookOk C r.fr r.o.op r.v (s + i) b Hs al = true
  | [], _, _, _, i, r, b, h, _, _ => by simp at h
  | r0 :: rs, [], s, h, i, r, b, _, h2, _ => by simp at h2
  | r0 :: rs, b0 :: bs, s, h, i, r, b, h1, h2, hk => by
    simp only [checkLooks] at h
    obtain ⟨h3, h4⟩ := pairsOk_spec.bif_some' h
    cases i with
    | zero =>
      simp at h1 h2; subst h1; subst h2
      rw [hk] at h3; exact h3
    | succ i =>
      have := checkLooks_spec rs bs (s + 1) h4 i r b (by simpa using h1) (by simpa using h2) hk
      rw [show s + (i + 1) = s + 1 + i by omega]; exact this
end Go.Sh
namespace Go.Sh
variable {σ : Env} {ρ ρ' ρ0 : Rho} {C : Ctx} {H H' H0 Hs : AH} {w w' w0 : World} {P : Program} {fr fr' fr0 frL : AFr} {cf : CallF}
variable {all : List Oper} {top nb nb0 : Nat} {rs : List ARec} {al al1 al2 : Acts} {b : Frame} {t : Array Value} {d : List Deferred}
structure Sim (C : Ctx) (σ : Env) (fr0 : AFr) (H0 Hs : AH) (w0 : World) (ρ0 : Rho) (rs : List ARec) (al : Acts) (top : Nat) (b : Frame) (d : List Deferred)
    (L : Nat → Prop) (al1 al2 : Acts) (frL : AFr) (t : Array Value) (ρ : Rho) (w : World) : Prop where
  split : al = al1 ++ al2
  inL : ∀ x ∈ al1, L x.1
  notL : ∀ x ∈ al2, ¬ L x.1
  hr : HR C σ ρ (lastH Hs al1) w
  fx : FX C σ ρ frL b t d
  keep : frL.ng = fr0.ng ∧ frL.n = fr0.n ∧ frL.fn = fr0.fn ∧ frL.defers = fr0.defers ∧ frL.round = fr0.round
  val : ∀ q, IsVal L rs fr0.tmp q (frL.tmp q)
  pend : ∀ (k : Nat) (r : ARec) (b' : Nat) (ab : AB), rs[k]? = some r → r.k = .made b' ab → L k → plcOf al1 k = false → ∃ q, Pend C σ ρ (lastH Hs al1) w b' ab q ∧ w0.heap.size ≤ q.blk
  dist : ∀ (k k' : Nat) (r r' : ARec) (b1 b2 : Nat) (ab1 ab2 : AB) (q1 q2 : RB), rs[k]? = some r → rs[k']? = some r' → r.k = .made b1 ab1 → r'.k = .made b2 ab2 → L k → L k' → ρ b1 = some q1 → ρ b2 = some q2 → q1.blk = q2.blk → k = k'
  unmade : ∀ (k : Nat) (r : ARec) (b' : Nat) (ab : AB), rs[k]? = some r → r.k = .made b' ab → ¬ L k → ρ b' = none
  kr : KR ρ0 H0 w0 ρ (lastH Hs al1) w
  loc : ∀ b, b < H0.next → ρ b = ρ0 b
  ext : Ext ρ0 ρ
  nx : top ≤ (lastH Hs al1).next
theorem mem_names {all : List Oper} {o : Oper} {x : Nat} : memT x (opNames all o) = true ↔ x ∈ opNames all o := by
  have : ∀ l : List Tmp, memT x l = true ↔ x ∈ l := by
    intro l
    induction l with
    | nil => simp [memT]
    | cons u us ih =>
      simp only [memT, bif_ite, List.mem_cons]
      split
      · rename_i h; have := Nat.eq_of_beq_eq_true h; simp [this]
      · rename_i h
        have : ¬ x = u := by rintro rfl; exact h (Nat.beq_refl x)
        simp [this, ih]
  exact this _
theorem opTmps_mem : ∀ {xs : List Operand} {q : Nat}, .tmp q ∈ xs → q ∈ opTmps xs
  | .tmp t :: xs, q, h => by
    simp only [opTmps, List.mem_cons] at h ⊢
    rcases h with h | h
    · cases h; exact .inl rfl
    · exact .inr (opTmps_mem h)
  | .const _ :: xs, q, h | .global _ :: xs, q, h | .func _ :: xs, q, h => by
    simp only [List.mem_cons] at h
    rcases h with h | h
    · cases h
    · exact opTmps_mem (xs := xs) h
  | [], q, h => by simp at h
theorem wantedA_congr {o : Oper} (hn : fr.n = frL.n) (h : ∀ q ∈ guardTmp all o, fr.tmp q = frL.tmp q) : wantedA all fr o = wantedA all frL o := by
  unfold wantedA
  unfold guardTmp at h
  cases hg : o.guard with
  | none => rfl
  | some p =>
    obtain ⟨j, want⟩ := p
    rw [hg] at h
    simp only at h ⊢
    cases hj : getN all j with
    | none => rfl
    | some oj =>
      rw [hj] at h
      simp only at h ⊢
      cases hd : oj.dst with
      | none => rfl
      | some q =>
        rw [hd] at h
        simp only [Option.toList, List.mem_singleton, forall_eq] at h ⊢
        rw [h, hn]
theorem ev_congr {x : Operand} (hn : fr.ng = frL.ng) (h : ∀ q, x = .tmp q → fr.tmp q = frL.tmp q) : fr.ev x = frL.ev x := by
  cases x with
  | tmp q => simp only [AFr.ev]; rw [h q rfl]
  | const v => rfl
  | global g => simp only [AFr.ev]; rw [hn]
  | func f => rfl
section
variable {L : Nat → Prop} {i : Nat} {r : ARec}
/-- all that names a slot and comes ahead has been carried out, and nothing else that writes it -/
theorem writers (hR : Rec C cf all (befores all []) fr0 top nb0 Hs rs al fr' nb) (hP : allPairs C all all 0 (befores all []) = true)
    (hDC : ∀ i o, L i → all[i]? = some o → ∀ e ∈ o.after.toList, Region.binds .any e = true → L e.on) (hi : rs[i]? = some r) (hn : ¬ L i)
    (hrd : ∀ e ∈ r.o.after.toList, Region.binds .any e = true → L e.on) {q : Nat} (hq : q ∈ opNames all r.o) :
    ∀ k r', rs[k]? = some r' → r'.o.dst = some q → (L k ↔ k < i) := by
  intro k r' hk hd
  have ho := hR.op i r hi
  have ho' := hR.op k r' hk
  have hlen := bits_len all
  have hbi : (befores all [])[i]? = some ((befores all [])[i]'(by rw [hlen]; exact (List.getElem?_eq_some_iff.1 ho).1)) := List.getElem?_eq_getElem _
  have hbk : (befores all [])[k]? = some ((befores all [])[k]'(by rw [hlen]; exact (List.getElem?_eq_some_iff.1 ho').1)) := List.getElem?_eq_getElem _
  have hqd : q ∈ opNames all r'.o := by unfold opNames; rw [hd]; simp
  constructor
  · intro hL
    rcases Nat.lt_trichotomy k i with h | h | h
    · exact h
    · subst h; exact absurd hL hn
    · exfalso
      rcases allPairs_spec hP i k r.o r'.o _ h ho ho' hbk with hb | ha
      · rw [Nat.zero_add] at hb
        exact hn (bits_down hDC k r'.o _ i ho' hbk (hDC k r'.o hL ho') hb)
      · simp only [apartA, Bool.and_eq_true, Bool.not_eq_true', memO, hd] at ha
        have := mem_names.2 hq
        rw [ha.2] at this; cases this
  · intro h
    rcases allPairs_spec hP k i r'.o r.o _ h ho' ho hbi with hb | ha
    · rw [Nat.zero_add] at hb
      exact bits_down hDC i r.o _ k ho hbi hrd hb
    · simp only [apartA, Bool.and_eq_true, Bool.not_eq_true', memO, hd] at ha
      have := mem_names.2 hq
      rw [ha.1.2] at this; cases this
theorem sim_names (hR : Rec C cf all (befores all []) fr0 top nb0 Hs rs al fr' nb) (hP : allPairs C all all 0 (befores all []) = true)
    (hDC : ∀ i o, L i → all[i]? = some o → ∀ e ∈ o.after.toList, Region.binds .any e = true → L e.on) (hi : rs[i]? = some r) (hn : ¬ L i)
    (hrd : ∀ e ∈ r.o.after.toList, Region.binds .any e = true → L e.on) (hS : Sim C σ fr0 H0 Hs w0 ρ0 rs al top b d L al1 al2 frL t ρ w) :
    (∀ x ∈ r.o.op.operands.toList, frL.ev x = r.fr.ev x) ∧ wantedA all frL r.o = wantedA all r.fr r.o := by
  have hq : ∀ q ∈ opNames all r.o, frL.tmp q = r.fr.tmp q := fun q hq =>
    ((hS.val q).congr (L' := fun j => j < i) (fun k r' hk hd => writers hR hP hDC hi hn hrd hq k r' hk hd)).unique (IsVal.of_take (hR.val i r hi q))
  obtain ⟨f1, f2, f3, f4⟩ := hR.frs i r hi
  refine ⟨fun x hx => ev_congr (by rw [hS.keep.1, f1]) (fun q e => hq q ?_), wantedA_congr (by rw [hS.keep.2.1, f2]) (fun q h => hq q ?_)⟩
  · subst e; simp only [opNames, List.mem_append]; exact .inr (.inr (opTmps_mem hx))
  · simp only [opNames, List.mem_append]; exact .inr (.inl h)
theorem sim_put (hR : Rec C cf all (befores all []) fr0 top nb0 Hs rs al fr' nb) (hP : allPairs C all all 0 (befores all []) = true)
    (hDC : ∀ i o, L i → all[i]? = some o → ∀ e ∈ o.after.toList, Region.binds .any e = true → L e.on) (hi : rs[i]? = some r) (hn : ¬ L i)
    (hrd : ∀ e ∈ r.o.after.toList, Region.binds .any e = true → L e.on) (hS : Sim C σ fr0 H0 Hs w0 ρ0 rs al top b d L al1 al2 frL t ρ w) :
    ∃ frL2, frL.put r.o.dst r.v = some frL2 ∧ (∀ q, IsVal (fun j => L j ∨ j = i) rs fr0.tmp q (frL2.tmp q)) ∧
      (frL2.ng = fr0.ng ∧ frL2.n = fr0.n ∧ frL2.fn = fr0.fn ∧ frL2.defers = fr0.defers ∧ frL2.round = fr0.round) := by
  obtain ⟨f1, f2, f3, f4⟩ := hR.frs i r hi
  have : ∃ frL2, frL.put r.o.dst r.v = some frL2 := by
    unfold AFr.put
    cases hd : r.o.dst with
    | none => exact ⟨_, rfl⟩
    | some q =>
      have : Nat.blt q frL.n = true := by
        have := f4 q hd; rw [hS.keep.2.1]; exact Nat.ble_eq_true_of_le this
      simp only [this, bif_ite, if_true]; exact ⟨_, rfl⟩
  obtain ⟨frL2, hp⟩ := this
  obtain ⟨p1, _⟩ := put_tmp hp
  obtain ⟨k1, k2, k3, k4, k5⟩ := put_keeps hp
  obtain ⟨q1, q2, q3, q4, q5⟩ := hS.keep
  refine ⟨frL2, hp, fun q => ?_, ⟨by rw [k5, q1], by rw [k4, q2], by rw [k1, q3], by rw [k2, q4], by rw [k3, q5]⟩⟩
  have hp1 := p1 q
  by_cases hd : r.o.dst = some q
  · rw [if_pos hd] at hp1
    rw [hp1]
    refine .inl ⟨i, r, hi, .inr rfl, hd, rfl, fun i' r' e1 e2 e3 => ?_⟩
    rcases e2 with e2 | e2
    · exact Nat.le_of_lt ((writers hR hP hDC hi hn hrd (by unfold opNames; rw [hd]; simp) i' r' e1 e3).1 e2)
    · omega
  · rw [if_neg hd] at hp1
    rw [hp1]
    refine (hS.val q).congr fun k r' hk hd' => ⟨.inl, ?_⟩
    rintro (h | h)
    · exact h
    · subst h; rw [hi] at hk; cases hk; exact absurd hd' hd
theorem split_unique {α : Type} {Q : α → Prop} : ∀ {l1 l2 m1 m2 : List α}, l1 ++ l2 = m1 ++ m2 → (∀ x ∈ l1, Q x) → (∀ x ∈ l2, ¬ Q x) → (∀ x ∈ m1, Q x) → (∀ x ∈ m2, ¬ Q x) → l1 = m1 ∧ l2 = m2
  | [], l2, [], m2, h, _, _, _, _ => ⟨rfl, h⟩
  | [], l2, y :: m1, m2, h, _, h2, h3, _ => by
    simp only [List.nil_append] at h; subst h
    exact absurd (h3 y (by simp)) (h2 y (by simp))
  | x :: l1, l2, [], m2, h, h1, _, _, h4 => by
    simp only [List.nil_append] at h; subst h
    exact absurd (h1 x (by simp)) (h4 x (by simp))
  | x :: l1, l2, y :: m1, m2, h, h1, h2, h3, h4 => by
    simp only [List.cons_append, List.cons.injEq] at h
    obtain ⟨rfl, h⟩ := h
    obtain ⟨e1, e2⟩ := split_unique h (fun z hz => h1 z (by simp [hz])) h2 (fun z hz => h3 z (by simp [hz])) h4
    exact ⟨by rw [e1], e2⟩
/-- nothing else has come about -/
theorem sim_still (hR : Rec C cf all (befores all []) fr0 top nb0 Hs rs al fr' nb) (hi : rs[i]? = some r) (hS : Sim C σ fr0 H0 Hs w0 ρ0 rs al top b d L al1 al2 frL t ρ w)
    (hk1 : ∀ b ab, r.k ≠ .made b ab) (hk2 : ∀ bi, r.k ≠ .acted bi) {frL2 : AFr} {v' : Value} (hp : frL.put r.o.dst r.v = some frL2) (hv : VR σ ρ r.v v')
    (hval : ∀ q, IsVal (fun j => L j ∨ j = i) rs fr0.tmp q (frL2.tmp q)) (hkeep : frL2.ng = fr0.ng ∧ frL2.n = fr0.n ∧ frL2.fn = fr0.fn ∧ frL2.defers = fr0.defers ∧ frL2.round = fr0.round) :
    Sim C σ fr0 H0 Hs w0 ρ0 rs al top b d (fun j => L j ∨ j = i) al1 al2 frL2 (putC t r.o.dst v') ρ w := by
  have nm : ∀ (k : Nat) (r' : ARec) (b' : Nat) (ab : AB), rs[k]? = some r' → r'.k = .made b' ab → (L k ∨ k = i) → L k := by
    rintro k r' b' ab e ek (h | rfl)
    · exact h
    · rw [hi] at e; cases e; exact absurd ek (hk1 _ _)
  refine ⟨hS.split, fun x hx => .inl (hS.inL x hx), ?_, hS.hr, hS.fx.put hv hp, hkeep, hval, ?_, ?_, ?_, hS.kr, hS.loc, hS.ext, hS.nx⟩
  · rintro x hx (h | h)
    · exact hS.notL x hx h
    · obtain ⟨_, r', e, ek⟩ := hR.acts x (by rw [hS.split]; exact List.mem_append_right _ hx)
      rw [h, hi] at e; cases e; exact hk2 _ ek
  · exact fun k r' b' ab e ek h => hS.pend k r' b' ab e ek (nm k r' b' ab e ek h)
  · exact fun k k' r1 r2 b1 b2 ab1 ab2 q1 q2 e e' ek ek' h h' => hS.dist k k' r1 r2 b1 b2 ab1 ab2 q1 q2 e e' ek ek' (nm _ _ _ _ e ek h) (nm _ _ _ _ e' ek' h')
  · exact fun k r' b' ab e ek h => hS.unmade k r' b' ab e ek (fun hl => h (.inl hl))
theorem sim_step (hC : COK P C σ) (hf : CFOK P C σ cf) (hR : Rec C cf all (befores all []) fr0 top nb0 Hs rs al fr' nb) (hP : allPairs C all all 0 (befores all []) = true)
    (hcl : checkLooks C al Hs rs (befores all []) 0 = true)
    (hDC : ∀ i o, L i → all[i]? = some o → ∀ e ∈ o.after.toList, Region.binds .any e = true → L e.on) (hi : rs[i]? = some r) (hn : ¬ L i)
    (hrd : ∀ e ∈ r.o.after.toList, Region.binds .any e = true → L e.on) (hS : Sim C σ fr0 H0 Hs w0 ρ0 rs al top b d L al1 al2 frL t ρ w)
    {ops : Array Oper} (hops : ops.toList = all) (hnb0 : H0.next ≤ nb0) (htop : H0.next ≤ top) (hw0 : w0.heap.size ≤ w.heap.size) (rest : List Nat) (k : List Item) (cs : List Frame) :
    ∃ al1' al2' frL' t' ρ' w', Steps P (lone (mkF b t (.inRegion ops (i :: rest) :: k) d) cs w) (lone (mkF b t' (.inRegion ops rest :: k) d) cs w') ∧
      Sim C σ fr0 H0 Hs w0 ρ0 rs al top b d (fun j => L j ∨ j = i) al1' al2' frL' t' ρ' w' ∧ w.heap.size ≤ w'.heap.size := by
  obtain ⟨hev, hwa⟩ := sim_names hR hP hDC hi hn hrd hS
  obtain ⟨frL2, hp, hval, hkeep⟩ := sim_put hR hP hDC hi hn hrd hS
  have hall := hR.op i r hi
  have ho : ops[i]? = some r.o := by rw [← hops] at hall; simpa using hall
  have hK := hR.kind i r hi
  unfold KindOK at hK
  have hlen := bits_len all
  have hilt : i < all.length := (List.getElem?_eq_some_iff.1 hall).1
  have hbi : (befores all [])[i]? = some ((befores all [])[i]'(by rw [hlen]; exact hilt)) := List.getElem?_eq_getElem _
  generalize (befores all [])[i]'(by rw [hlen]; exact hilt) = bi at hbi
  have hdown : ∀ k, bitOf bi k = true → L k := fun k hk => bits_down hDC i r.o bi k hall hbi hrd hk
  have hwant : ∀ q, wantedA all r.fr r.o = some q → Region.wanted r.o (yielded ops t) = q := fun q h => by
    have := wantedA_spec hS.fx.tm (ops := all) (o := r.o) (q := q) (by rw [hwa]; exact h)
    rw [← hops, Array.toArray_toList] at this; exact this
  have hback : ∀ x ∈ al1, bitOf x.2.1 i = false := fun x hx => by
    cases hq : bitOf x.2.1 i with
    | false => rfl
    | true =>
      obtain ⟨_, r', e, ek⟩ := hR.acts x (by rw [hS.split]; exact List.mem_append_left _ hx)
      have hK' := hR.kind _ _ e
      unfold KindOK at hK'
      rw [ek] at hK'
      exact absurd (bits_down hDC x.1 r'.o x.2.1 i (hR.op _ _ e) hK'.2.2.2.1 (hDC _ _ (hS.inL x hx) (hR.op _ _ e)) hq) hn
  cases hk : r.k with
  | skip =>
    rw [hk] at hK
    obtain ⟨h1, h2⟩ := hK
    refine ⟨al1, al2, frL2, _, ρ, w, .one (s_opSkip ho (hwant _ h1)), ?_, Nat.le_refl _⟩
    exact sim_still hR hi hS (by rw [hk]; simp) (by rw [hk]; simp) hp (by rw [h2]; exact VR.undef) hval hkeep
  | look =>
    rw [hk] at hK
    obtain ⟨h1, h2⟩ := hK
    have hl := checkLooks_spec rs _ 0 hcl i r bi hi hbi hk
    rw [Nat.zero_add, hS.split] at hl
    have hst := lookOk_spec al1 al2 Hs hl hback (fun x hx => by
      cases hq : bitOf bi x.1 with
      | false => rfl
      | true => exact absurd (hdown _ hq) (hS.notL x (List.mem_of_mem_head? hx)))
    rw [← stillA_congr hev] at hst
    obtain ⟨v', hrun, hv⟩ := run_still hC hS.hr hS.fx.tm h2 hst
    have hnd : ∀ c, r.o.op ≠ .defer c := by intro c e; rw [e] at h2; cases h2
    refine ⟨al1, al2, frL2, _, ρ, w, .one (s_op ho (hwant _ h1) hnd hrun (.inl rfl)), ?_, Nat.le_refl _⟩
    exact sim_still hR hi hS (by rw [hk]; simp) (by rw [hk]; simp) hp hv hval hkeep
  | made b' ab =>
    rw [hk] at hK
    obtain ⟨h1, h2, h3, h4⟩ := hK
    rw [← floatA_congr hev] at h4
    obtain ⟨v', o', size, hrun, hrel⟩ := run_float hC hS.hr hS.fx.tm h4
    have hnd : ∀ c, r.o.op ≠ .defer c := by intro c e; rw [e] at h3; cases h3
    have hnone := hS.unmade i r b' ab hi hk hn
    obtain ⟨m1, m2, _⟩ := hR.made i r b' ab hi hk
    obtain ⟨hext, hr', hlv⟩ := hS.hr.pushed (size := size) (o := o') hnone (Nat.lt_of_lt_of_le m2 hS.nx)
    obtain ⟨hv, hB⟩ := hrel _ hext (upd_same _ _ _)
    refine ⟨al1, al2, frL2, _, upd ρ b' ⟨w.heap.size, 0, size⟩, _, .one (s_op ho (hwant _ h1) hnd hrun (.inl rfl)), ?_, by simp⟩
    have hother : ∀ (k : Nat) (r2 : ARec) (b2 : Nat) (ab2 : AB), rs[k]? = some r2 → r2.k = .made b2 ab2 → k ≠ i → b2 ≠ b' := by
      intro k r2 b2 ab2 e ek hne
      rcases Nat.lt_or_ge k i with h | h
      · have := hR.mono k i r2 r b2 b' ab2 ab e hi ek hk h; omega
      · have := hR.mono i k r r2 b' b2 ab ab2 hi e hk ek (by omega); omega
    have hnl : ∀ x, x < w.heap.size → Liv (upd ρ b' ⟨w.heap.size, 0, size⟩) (lastH Hs al1) x → Liv ρ (lastH Hs al1) x := fun x hx hl => (hlv x (.inl hx) hl).2
    refine ⟨hS.split, fun x hx => .inl (hS.inL x hx), ?_, hr', (hS.fx.mono hext).put hv hp, hkeep, hval, ?_, ?_, ?_, ?_, ?_, hS.ext.trans hext, hS.nx⟩
    · rintro x hx (h | h)
      · exact hS.notL x hx h
      · obtain ⟨_, r', e, ek⟩ := hR.acts x (by rw [hS.split]; exact List.mem_append_right _ hx)
        rw [h, hi] at e; cases e; rw [hk] at ek; cases ek
    · rintro k r2 b2 ab2 e ek (hL | rfl) hpl
      · have hne : k ≠ i := by rintro rfl; exact hn hL
        obtain ⟨q, ⟨q1, ⟨o2, q2, q3⟩, q4⟩, q5⟩ := hS.pend k r2 b2 ab2 e ek hL hpl
        have hlt := hS.hr.rng _ _ q1
        refine ⟨q, ⟨hext _ _ q1, ⟨o2, ?_, q3.mono hext⟩, fun hl => q4 (hnl _ hlt hl)⟩, q5⟩
        simp only [Array.getElem?_push]; rw [if_neg (by omega)]; exact q2
      · rw [hi] at e; cases e
        rw [hk] at ek; cases ek
        refine ⟨_, ⟨upd_same _ _ _, ⟨o', by simp, hB⟩, fun hl => ?_⟩, hw0⟩
        exact absurd (hlv _ (.inr rfl) hl).1 (Nat.lt_irrefl _)
    · rintro k k' r1 r2 b1 b2 ab1 ab2 q1 q2 e e' ek ek' hL hL' hq hq' hb
      by_cases h1 : k = i <;> by_cases h2 : k' = i
      · omega
      · subst h1; rw [hi] at e; cases e; rw [hk] at ek; cases ek
        rw [upd_same] at hq; cases hq
        rw [upd_other _ _ (hother k' r2 b2 ab2 e' ek' h2)] at hq'
        have := hS.hr.rng _ _ hq'
        simp only at hb; omega
      · subst h2; rw [hi] at e'; cases e'; rw [hk] at ek'; cases ek'
        rw [upd_same] at hq'; cases hq'
        rw [upd_other _ _ (hother k r1 b1 ab1 e ek h1)] at hq
        have := hS.hr.rng _ _ hq
        simp only at hb; omega
      · rw [upd_other _ _ (hother k r1 b1 ab1 e ek h1)] at hq
        rw [upd_other _ _ (hother k' r2 b2 ab2 e' ek' h2)] at hq'
        exact hS.dist k k' r1 r2 b1 b2 ab1 ab2 q1 q2 e e' ek ek' (hL.resolve_right h1) (hL'.resolve_right h2) hq hq' hb
    · intro k r2 b2 ab2 e ek h
      have hne : k ≠ i := fun e => h (.inr e)
      rw [upd_other _ _ (hother k r2 b2 ab2 e ek hne)]
      exact hS.unmade k r2 b2 ab2 e ek (fun hl => h (.inl hl))
    · refine ⟨hS.kr.os, hS.kr.tape, hS.kr.output, by simp; exact Nat.le_succ_of_le hS.kr.size, fun j hj hl => ?_, fun j hj hl => hS.kr.liv j hj (hnl j (by omega) hl)⟩
      rw [← hS.kr.same j hj hl]
      simp only [Array.getElem?_push]; rw [if_neg (by omega)]
    · intro c hc
      rw [upd_other _ _ (by omega)]; exact hS.loc c hc
  | acted bi2 =>
    rw [hk] at hK
    obtain ⟨h1, h2, h3, h4, a1, post, a2, Hp, h5, h6, h7⟩ := hK
    rw [hbi] at h4; cases h4
    have hact : acts C r.o = true := by simp [acts, h2, h3]
    have hsort := hR.sorted
    rw [h5, List.pairwise_append] at hsort
    obtain ⟨_, hs2, hs3⟩ := hsort
    have hxi : ∀ x ∈ al, ∃ r', rs[x.1]? = some r' ∧ all[x.1]? = some r'.o ∧ acts C r'.o = true ∧ (befores all [])[x.1]? = some x.2.1 := fun x hx => by
      obtain ⟨_, r', e, ek⟩ := hR.acts x hx
      have hK' := hR.kind _ _ e
      unfold KindOK at hK'
      rw [ek] at hK'
      exact ⟨r', e, hR.op _ _ e, by simp [acts, hK'.2.1, hK'.2.2.1], hK'.2.2.2.1⟩
    have hboth : ∀ (o1 o2 : Oper), acts C o1 = true → acts C o2 = true → apartA C all o1 o2 = true → False := fun o1 o2 e1 e2 e => by
      simp [apartA, e1, e2] at e
    have hu := split_unique (Q := fun x : Nat × Nat × AH => L x.1) (hS.split.symm.trans h5) hS.inL hS.notL
      (fun x hx => by
        have hx' : x ∈ al := by rw [h5]; exact List.mem_append_left _ hx
        obtain ⟨r', e1, e2, e3, e4⟩ := hxi x hx'
        have hlt : x.1 < i := hs3 x hx (i, bi, post) (by simp)
        rcases allPairs_spec hP x.1 i r'.o r.o bi hlt e2 hall hbi with hb | ha
        · rw [Nat.zero_add] at hb; exact hdown _ hb
        · exact (hboth _ _ e3 hact ha).elim)
      (fun x hx hLx => by
        rcases List.mem_cons.1 hx with rfl | hx2
        · exact hn hLx
        · have hx' : x ∈ al := by rw [h5]; exact List.mem_append_right _ hx
          obtain ⟨r', e1, e2, e3, e4⟩ := hxi x hx'
          have hlt : i < x.1 := (List.pairwise_cons.1 hs2).1 x hx2
          rcases allPairs_spec hP i x.1 r.o r'.o x.2.1 hlt hall e2 e4 with hb | ha
          · rw [Nat.zero_add] at hb
            exact hn (bits_down hDC x.1 r'.o x.2.1 i e2 e4 (hDC _ _ hLx e2) hb)
          · exact hboth _ _ hact e3 ha)
    obtain ⟨hu1, hu2⟩ := hu
    subst hu1
    have htk : ∀ (k : Nat) (r' : ARec), (rs.take i)[k]? = some r' → rs[k]? = some r' := fun k r' e => by
      rw [List.getElem?_take] at e; split at e
      · exact e
      · cases e
    have hsel : ∀ k, (bitOf bi (0 + k) && !(plcOf al1 (0 + k))) = true → L k ∧ plcOf al1 k = false := fun k e => by
      rw [Nat.zero_add, Bool.and_eq_true, Bool.not_eq_true'] at e
      exact ⟨hdown k e.1, e.2⟩
    obtain ⟨hrp, hnx, hlv⟩ := place (rs.take i) 0 (lastH Hs al1) Hp hS.hr h6
      (fun k r' b' ab e ek es => by
        obtain ⟨q, hq, _⟩ := hS.pend k r' b' ab (htk _ _ e) ek (hsel k es).1 (hsel k es).2
        exact ⟨q, hq⟩)
      (fun k k' r1 r2 b1 b2 ab1 ab2 q1 q2 e e' ek ek' es es' hq hq' hb => hS.dist k k' r1 r2 b1 b2 ab1 ab2 q1 q2 (htk _ _ e) (htk _ _ e') ek ek' (hsel k es).1 (hsel k' es').1 hq hq' hb)
    rw [← actA_congr hev] at h7
    have hnd : ∀ c, r.o.op ≠ .defer c := by intro c e; rw [e] at h7; simp [actA] at h7
    have hrunx : ∃ v' w' ρ', Steps P (lone (mkF b t (.inRegion ops (i :: rest) :: k) d) cs w) (lone (mkF b (putC t r.o.dst v') (.inRegion ops rest :: k) d) cs w') ∧ VR σ ρ' r.v v' ∧ Post C σ ρ Hp w ρ' post w' := by
      by_cases hcall : ∃ c g, r.o.op = .call c ∧ c.callee = .value g
      · obtain ⟨c, g, hop, hcal⟩ := hcall
        exact s_opCall hf hrp hS.fx hop hcal ho (hwant _ h1) h7
      · obtain ⟨n, v', w', ρ', hrun, hn', hv, hp'⟩ := run_act hC hrp hS.fx.tm (fun c f e1 e2 => hcall ⟨c, f, e1, e2⟩) h7
        exact ⟨v', w', ρ', .one (s_op ho (hwant _ h1) hnd hrun hn'), hv, hp'⟩
    obtain ⟨v', w', ρ', hsteps, hv, hpost⟩ := hrunx
    have hLp : ∀ x, Liv ρ Hp x → Liv ρ (lastH Hs al1) x ∨ (w0.heap.size ≤ x ∧ ∃ (k : Nat) (r' : ARec) (b' : Nat) (ab : AB) (q : RB), rs[k]? = some r' ∧ r'.k = .made b' ab ∧ L k ∧ bitOf bi k = true ∧ ρ b' = some q ∧ q.blk = x) := fun x hx => by
      rcases hlv x hx with h | ⟨k, r', b', ab, q, e1, e2, e3, e4, e5⟩
      · exact .inl h
      · obtain ⟨q', ⟨q1, _, _⟩, q3⟩ := hS.pend k r' b' ab (htk _ _ e1) e2 (hsel k e3).1 (hsel k e3).2
        rw [e4] at q1; cases q1
        rw [Nat.zero_add, Bool.and_eq_true] at e3
        exact .inr ⟨by rw [← e5]; exact q3, k, r', b', ab, q, htk _ _ e1, e2, hdown k e3.1, e3.1, e4, e5⟩
    have nm : ∀ (k : Nat) (r' : ARec) (b' : Nat) (ab : AB), rs[k]? = some r' → r'.k = .made b' ab → (L k ∨ k = i) → L k := by
      rintro k r' b' ab e ek (h | rfl)
      · exact h
      · rw [hi] at e; cases e; rw [hk] at ek; cases ek
    have hb_lt : ∀ (k : Nat) (r' : ARec) (b' : Nat) (ab : AB), rs[k]? = some r' → r'.k = .made b' ab → b' < Hp.next := fun k r' b' ab e ek => by
      rw [hnx]; exact Nat.lt_of_lt_of_le (hR.made k r' b' ab e ek).2.1 hS.nx
    refine ⟨al1 ++ [(i, bi, post)], a2, frL2, _, ρ', w', hsteps, ⟨by rw [h5]; simp, ?_, ?_, by rw [lastH_snoc]; exact hpost.hr, (hS.fx.mono hpost.ext).put hv hp, hkeep, hval, ?_, ?_, ?_, ?_, ?_, hS.ext.trans hpost.ext, ?_⟩, hpost.kr.size⟩
    · intro x hx
      rcases List.mem_append.1 hx with hx | hx
      · exact .inl (hS.inL x hx)
      · simp at hx; subst hx; exact .inr rfl
    · rintro x hx (h | h)
      · exact hS.notL x (by rw [hu2]; simp [hx]) h
      · have := (List.pairwise_cons.1 hs2).1 x hx
        simp only at this; omega
    · intro k r' b' ab e ek h hpl
      rw [plcOf_append, Bool.or_eq_false_iff] at hpl
      have hLk := nm k r' b' ab e ek h
      obtain ⟨q, ⟨q1, ⟨o2, q2, q3⟩, q4⟩, q5⟩ := hS.pend k r' b' ab e ek hLk hpl.1
      have hnb : bitOf bi k = false := by have := hpl.2; simpa [plcOf] using this
      have hnl : ¬ Liv ρ Hp q.blk := fun hl => by
        rcases hLp _ hl with h | ⟨_, k2, r2, b2, ab2, q', e1, e2, e3, e4, e5, e6⟩
        · exact q4 h
        · have := hS.dist k2 k r2 r' b2 b' ab2 ab q' q e1 e e2 ek e3 hLk e5 q1 e6
          subst this; rw [hnb] at e4; cases e4
      have hlt := hS.hr.rng _ _ q1
      rw [lastH_snoc]
      exact ⟨q, ⟨hpost.ext _ _ q1, ⟨o2, by rw [hpost.kr.same _ hlt hnl]; exact q2, q3.mono hpost.ext⟩, fun hl => hnl (hpost.kr.liv _ hlt hl)⟩, q5⟩
    · intro k k' r1 r2 b1 b2 ab1 ab2 q1 q2 e e' ek ek' h h' hq hq' hb
      rw [hpost.loc _ (hb_lt k r1 b1 ab1 e ek)] at hq
      rw [hpost.loc _ (hb_lt k' r2 b2 ab2 e' ek')] at hq'
      exact hS.dist k k' r1 r2 b1 b2 ab1 ab2 q1 q2 e e' ek ek' (nm _ _ _ _ e ek h) (nm _ _ _ _ e' ek' h') hq hq' hb
    · intro k r' b' ab e ek h
      rw [hpost.loc _ (hb_lt k r' b' ab e ek)]
      exact hS.unmade k r' b' ab e ek (fun hl => h (.inl hl))
    · rw [lastH_snoc]
      have : KR ρ0 H0 w0 ρ Hp w := ⟨hS.kr.os, hS.kr.tape, hS.kr.output, hS.kr.size, hS.kr.same, fun j hj hl => by
        rcases hLp j hl with h | ⟨h, _⟩
        · exact hS.kr.liv j hj h
        · omega⟩
      exact this.trans hpost.kr
    · intro c hc
      have : c < Hp.next := by
        rw [hnx]; have := hS.nx; omega
      rw [hpost.loc c this]; exact hS.loc c hc
    · rw [lastH_snoc]
      have := hpost.nx; rw [hnx] at this
      exact Nat.le_trans hS.nx this
end
end Go.Sh
namespace Go.Sh
variable {σ : Env} {ρ ρ' ρ0 : Rho} {C : Ctx} {H H' H0 Hs : AH} {w w' w0 : World} {P : Program} {fr fr' fr0 frL : AFr} {cf : CallF}
variable {all : List Oper} {top nb nb0 : Nat} {rs : List ARec} {al al1 al2 : Acts} {b : Frame} {t : Array Value} {d : List Deferred} {L : Nat → Prop}
theorem shapeOk_spec : ∀ {ops : List Oper} {s : Nat}, shapeOk ops s = true → ∀ (i : Nat) (o : Oper), ops[i]? = some o → ∀ e ∈ o.after.toList, Region.binds .any e = true → e.on < s + i
  | [], s, _, i, o, h, _, _, _ => by simp at h
  | o0 :: rest, s, h, i, o, h1, e, he, hb => by
    simp only [shapeOk] at h
    obtain ⟨h2, h3⟩ := pairsOk_spec.bif_some' h
    cases i with
    | zero =>
      simp at h1; subst h1
      simp only [Bool.and_eq_true, List.all_eq_true] at h2
      have := h2.1.1 e he
      rw [hb] at this
      simp only [Bool.not_true, Bool.false_or] at this
      exact blt_of this
    | succ i =>
      have := shapeOk_spec h3 i o (by simpa using h1) e he hb
      omega
theorem sim_end (hR : Rec C cf all (befores all []) fr0 top nb0 Hs rs al fr' nb) (hS : Sim C σ fr0 H0 Hs w0 ρ0 rs al top b d L al1 al2 frL t ρ w) (hL : ∀ i r, rs[i]? = some r → L i)
    (hfin : addM (fun k => !(plcOf al k)) rs 0 (lastH Hs al) = some H') (hout : ∀ q, fr0.n ≤ q → fr0.tmps.get q = none) (htop : H0.next ≤ top) : FX C σ ρ fr' b t d ∧ Post C σ ρ0 H0 w0 ρ H' w := by
  have ha2 : al2 = [] := by
    cases ha : al2 with
    | nil => rfl
    | cons x rest =>
      obtain ⟨_, r', e, _⟩ := hR.acts x (by rw [hS.split, ha]; simp)
      exact absurd (hL _ _ e) (hS.notL x (by rw [ha]; simp))
  have hal : al = al1 := by rw [hS.split, ha2]; simp
  subst hal
  obtain ⟨hrp, hnx, hlv⟩ := place rs 0 _ H' hS.hr hfin
    (fun k r' b' ab e ek es => by
      obtain ⟨q, hq, _⟩ := hS.pend k r' b' ab e ek (hL _ _ e) (by simpa using es)
      exact ⟨q, hq⟩)
    (fun k k' r1 r2 b1 b2 ab1 ab2 q1 q2 e e' ek ek' es es' hq hq' hb => hS.dist k k' r1 r2 b1 b2 ab1 ab2 q1 q2 e e' ek ek' (hL _ _ e) (hL _ _ e') hq hq' hb)
  obtain ⟨q1, q2, q3, q4, q5⟩ := hR.keep
  obtain ⟨p1, p2, p3, p4, p5⟩ := hS.keep
  have htmp : ∀ q, frL.tmp q = fr'.tmp q := fun q => ((hS.val q).congr (L' := fun _ => True) (fun k r' hk _ => ⟨fun _ => trivial, fun _ => hL _ _ hk⟩)).unique (hR.fin q)
  refine ⟨⟨⟨by rw [q1, ← p1]; exact hS.fx.tm.ng, ?_⟩, by rw [q3, ← p3]; exact hS.fx.fn, by rw [q4, ← p4]; exact hS.fx.ds, by rw [q5, ← p5]; exact hS.fx.rd⟩, ⟨hS.ext, hrp, ?_, hS.loc, ?_⟩⟩
  · obtain ⟨h1, h2, h3⟩ := hS.fx.tm.tr
    refine ⟨by rw [h1, p2, q2], fun i v hv => ?_, fun i hi => ?_⟩
    · have := h2 i v hv
      have e : fr'.tmps.at i = frL.tmps.at i := (htmp i).symm
      rw [e]; exact this
    · rw [q2] at hi; rw [hR.out i hi]; exact hout i hi
  · refine ⟨hS.kr.os, hS.kr.tape, hS.kr.output, hS.kr.size, hS.kr.same, fun j hj hl => ?_⟩
    rcases hlv j hl with h | ⟨k, r', b', ab, q, e1, e2, e3, e4, e5⟩
    · exact hS.kr.liv j hj h
    · obtain ⟨q', ⟨k1, _, _⟩, k3⟩ := hS.pend k r' b' ab e1 e2 (hL _ _ e1) (by simpa using e3)
      rw [e4] at k1; cases k1; omega
  · rw [hnx]; have := hS.nx; omega
theorem sim_sched (hC : COK P C σ) (hf : CFOK P C σ cf) (hR : Rec C cf all (befores all []) fr0 top nb0 Hs rs al fr' nb) (hP : allPairs C all all 0 (befores all []) = true) (hsh : shapeOk all 0 = true)
    (hcl : checkLooks C al Hs rs (befores all []) 0 = true) {ops : Array Oper} (hops : ops.toList = all) (hlen : rs.length = all.length) (hnb0 : H0.next ≤ nb0) (htop : H0.next ≤ top) (k : List Item) (cs : List Frame) :
    ∀ (fuel tt : Nat) (listed : Array Bool) (al1 al2 : Acts) (frL : AFr) (t : Array Value) (ρ : Rho) (w : World), listed.size = ops.size → ((List.range ops.size).filter (fun j => !(listed.getD j false))).length ≤ fuel →
      (∀ i o, listed.getD i false = true → all[i]? = some o → ∀ e ∈ o.after.toList, Region.binds .any e = true → listed.getD e.on false = true) →
      Sim C σ fr0 H0 Hs w0 ρ0 rs al top b d (fun j => listed.getD j false = true) al1 al2 frL t ρ w → w0.heap.size ≤ w.heap.size →
      ∃ L al1' al2' frL' t' ρ' w', Steps P (lone (mkF b t (.inRegion ops (Region.linearise.go .any ops fuel tt listed []) :: k) d) cs w) (lone (mkF b t' (.inRegion ops [] :: k) d) cs w') ∧
        Sim C σ fr0 H0 Hs w0 ρ0 rs al top b d L al1' al2' frL' t' ρ' w' ∧ ∀ i r, rs[i]? = some r → L i := by
  have hn : all.length = ops.size := by rw [← hops]; simp
  intro fuel
  induction fuel with
  | zero =>
    intro tt listed al1 al2 frL t ρ w hsz hcnt hDC hS hw
    refine ⟨_, al1, al2, frL, t, ρ, w, .refl _ _, hS, fun i r hi => ?_⟩
    have hlt : i < ops.size := by have := (List.getElem?_eq_some_iff.1 hi).1; omega
    have hnil := List.eq_nil_of_length_eq_zero (Nat.le_zero.1 hcnt)
    have := List.filter_eq_nil_iff.1 hnil i (List.mem_range.2 hlt)
    simpa using this
  | succ fuel ih =>
    intro tt listed al1 al2 frL t ρ w hsz hcnt hDC hS hw
    have hgo : Region.linearise.go .any ops (fuel + 1) tt listed [] = (match (Region.ready .any ops listed)[tt % (Region.ready .any ops listed).length]? with
      | some i => Region.linearise.go .any ops fuel (tt / (Region.ready .any ops listed).length) (listed.setIfInBounds i true) [i]
      | none => [].reverse) := rfl
    rw [hgo]
    cases hi : (Region.ready .any ops listed)[tt % (Region.ready .any ops listed).length]? with
    | none =>
      have hnil : Region.ready .any ops listed = [] := by
        cases hr : Region.ready .any ops listed with
        | nil => rfl
        | cons x xs =>
          rw [hr] at hi
          have hlt : tt % (x :: xs).length < (x :: xs).length := Nat.mod_lt _ (by simp)
          rw [List.getElem?_eq_getElem hlt] at hi; cases hi
      refine ⟨_, al1, al2, frL, t, ρ, w, .refl _ _, hS, fun i r hi => ?_⟩
      have key : ∀ i, i < ops.size → listed.getD i false = true := by
        intro i
        induction i using Nat.strongRecOn with
        | _ i ihi =>
          intro hlt
          cases hq : listed.getD i false with
          | true => rfl
          | false =>
            exfalso
            have ho : all[i]? = some (all[i]'(by omega)) := List.getElem?_eq_getElem _
            generalize all[i]'(by omega) = o at ho
            have : i ∈ Region.ready .any ops listed := by
              rw [mem_ready]
              refine ⟨?_, o, by rw [← hops] at ho; simpa using ho, fun e he hb => ?_⟩
              · have hl : i < listed.size := by omega
                simp only [Array.getD, hl, dif_pos] at hq ⊢; exact hq
              · have := shapeOk_spec hsh i o ho e (by simpa using he) hb
                exact ihi e.on (by omega) (by omega)
            rw [hnil] at this; cases this
      exact key i (by have := (List.getElem?_eq_some_iff.1 hi).1; omega)
    | some i =>
      simp only
      rw [linearise_go_acc, List.reverse_singleton, List.singleton_append]
      have hmem := List.mem_of_getElem? hi
      obtain ⟨hun, o, ho, hrd⟩ := mem_ready.1 hmem
      have hlt : i < ops.size := (Array.getElem?_eq_some_iff.1 ho).1
      have hltl : i < listed.size := by omega
      have hun' : listed.getD i false = false := by
        simp only [Array.getD, hltl, dif_pos] at hun ⊢; exact hun
      have hri : rs[i]? = some (rs[i]'(by omega)) := List.getElem?_eq_getElem _
      generalize rs[i]'(by omega) = r at hri
      have hro : r.o = o := by
        have := hR.op i r hri
        rw [← hops] at this
        have h2 : ops[i]? = some r.o := by simpa using this
        rw [h2] at ho; cases ho; rfl
      obtain ⟨al1', al2', frL', t', ρ', w', hs, hS', hw'⟩ := sim_step hC hf hR hP hcl hDC hri (by simp [hun']) (fun e he hb => hrd e (by rw [← hro]; simpa using he) hb) hS hops hnb0 htop hw
        (Region.linearise.go .any ops fuel (tt / (Region.ready .any ops listed).length) (listed.setIfInBounds i true) []) k cs
      have hset : ∀ j, (listed.setIfInBounds i true).getD j false = true ↔ (listed.getD j false = true ∨ j = i) := by
        intro j
        by_cases hj : i = j
        · subst hj; simp [hltl]
        · rw [getD_set_ne false hj]
          exact ⟨.inl, fun h => h.resolve_right (fun e => hj e.symm)⟩
      have hfun : (fun j => listed.getD j false = true ∨ j = i) = (fun j => (listed.setIfInBounds i true).getD j false = true) := funext fun j => propext (hset j).symm
      rw [hfun] at hS'
      obtain ⟨L, a1, a2, a3, a4, a5, a6, b1, b2, b3⟩ := ih (tt / (Region.ready .any ops listed).length) (listed.setIfInBounds i true) al1' al2' frL' t' ρ' w' (by simpa using hsz)
        (by
          have hsub : (List.range ops.size).filter (fun j => !((listed.setIfInBounds i true).getD j false)) = ((List.range ops.size).filter (fun j => !(listed.getD j false))).filter (fun j => !(j == i)) := by
            rw [List.filter_filter]
            apply List.filter_congr
            intro j _
            have := hset j
            cases h1 : (listed.setIfInBounds i true).getD j false <;> cases h2 : listed.getD j false <;> by_cases h3 : j = i <;> simp_all
          have hlt2 : (((List.range ops.size).filter (fun j => !(listed.getD j false))).filter (fun j => !(j == i))).length < ((List.range ops.size).filter (fun j => !(listed.getD j false))).length :=
            List.length_filter_lt_length_iff_exists.2 ⟨i, List.mem_filter.2 ⟨List.mem_range.2 hlt, by simp [hun']⟩, by simp⟩
          rw [hsub]; omega)
        (fun j o' hj ho' e he hb => by
          rw [hset]
          rcases (hset j).1 hj with h | rfl
          · exact .inl (hDC j o' h ho' e he hb)
          · rw [← hops] at ho'
            have h2 : ops[j]? = some o' := by simpa using ho'
            rw [ho] at h2; cases h2
            exact .inl (hrd e (by simpa using he) hb))
        hS' (Nat.le_trans hw hw')
      exact ⟨L, a1, a2, a3, a4, a5, a6, hs.trans b1, b2, b3⟩
theorem draw_sound (hC : COK P C σ) (hm : P.follows .mixedOrders = true) : DrawSound P C σ := by
  intro cf hf ops fr H fr' H' h ρ w b t d k cs id hr hx
  unfold drawnA at h
  rw [bif_ite] at h
  split at h <;> (try (cases h; done))
  rename_i hok
  simp only at h
  split at h <;> (try (cases h; done))
  rename_i fr1 rs al H1 hrun
  rw [bif_ite] at h
  split at h <;> (try (cases h; done))
  rename_i hcl
  cases h
  unfold drawnOk at hok
  obtain ⟨hsh, hP⟩ := pairsOk_spec.bif_some' hok
  generalize htop : H.next + countMade C ops.toList = top at hrun hcl
  have hle : H.next ≤ top := by omega
  have hR0 : Rec C cf ops.toList (befores ops.toList []) fr top H.next ⟨H.blks, top⟩ [] [] fr H.next :=
    ⟨fun i r h => by simp at h, fun i r h => by simp at h, fun i r h => by simp at h, fun i r h => by simp at h, fun i r b ab h => by simp at h, fun i i' r r' b b' ab ab' h => by simp at h,
     fun x hx => by simp at hx, List.Pairwise.nil, fun q => IsVal.nil, ⟨rfl, rfl, rfl, rfl, rfl⟩, Nat.le_refl _, fun _ _ => rfl⟩
  obtain ⟨⟨nb', hR⟩, hlen, hfin⟩ := runDrawn_rec (bits := befores ops.toList []) (fr0 := fr) (nb0 := H.next) (Hs := ⟨H.blks, top⟩) ops.toList _ 0 fr H.next [] 0 [] _ rs al hrun rfl rfl rfl
    (fun k => by simp [bitOf_eq, plcOf]) rfl hR0
  have hget : ∀ c, AH.get ⟨H.blks, top⟩ c = H.get c := fun c => rfl
  have hr1 : HR C σ ρ ⟨H.blks, top⟩ w := ⟨fun b r e => Nat.lt_of_lt_of_le (hr.dom b r e) hle, hr.rng, hr.live, hr.inj, hr.glob, hr.old⟩
  have hsame := hr1.same (w' := drew1 w) rfl rfl rfl rfl
  have hS0 : Sim C σ fr H ⟨H.blks, top⟩ (drew1 w) ρ rs al top b d (fun j => (Array.replicate ops.size false).getD j false = true) [] al fr t ρ (drew1 w) := by
    have hno : ∀ j, ¬ ((Array.replicate ops.size false).getD j false = true) := by
      intro j; simp only [Array.getD]; split <;> simp
    refine ⟨rfl, fun x hx => by simp at hx, fun x _ => hno _, hsame.hr, hx, ⟨rfl, rfl, rfl, rfl, rfl⟩, fun q => .inr ⟨fun i r _ h => absurd h (hno _), rfl⟩, fun k r b' ab _ _ h => absurd h (hno _),
      fun k k' r r' b1 b2 ab1 ab2 q1 q2 _ _ _ _ h => absurd h (hno _), fun k r b' ab e ek _ => ?_, ⟨rfl, rfl, rfl, Nat.le_refl _, fun _ _ _ => rfl, fun _ _ hl => hl⟩, fun _ _ => rfl, Ext.refl _, Nat.le_refl _⟩
    cases hq : ρ b' with
    | none => rfl
    | some q => have := hr.dom _ _ hq; have := (hR.made k r b' ab e ek).1; omega
  obtain ⟨L, a1, a2, frL, t', ρ', w', hs, hS, hL⟩ := sim_sched hC hf hR hP hsh hcl rfl (by simpa using hlen) (Nat.le_refl _) hle k cs ops.size (w.tape w.drawn (.order b.fn id)) (Array.replicate ops.size false) [] al fr t ρ (drew1 w)
    (by simp) (by
      have := List.length_filter_le (fun j => !((Array.replicate ops.size false).getD j false)) (List.range ops.size)
      simpa using this) (fun i o h => by
      exfalso; revert h; simp only [Array.getD]; split <;> simp) hS0 (Nat.le_refl _)
  obtain ⟨hfx, hpost⟩ := sim_end hR hS hL hfin (fun q hq => hx.tm.tr.2.2 q hq) hle
  refine ⟨t', d, w', ρ', ?_, hfx, ?_⟩
  · refine .head s_regionDraw ?_
    have hsc : Region.schedule (P.follows .mixedOrders) ops (w.tape w.drawn (.order b.fn id)) = Region.linearise.go .any ops ops.size (w.tape w.drawn (.order b.fn id)) (Array.replicate ops.size false) [] := by
      simp only [Region.schedule, hm, Bool.true_or, if_true]; rfl
    rw [hsc]
    exact hs.trans (.one s_regionEnd)
  · have h0 := hr.same (w' := drew1 w) rfl rfl rfl rfl
    exact h0.trans hpost
end Go.Sh
namespace Go.Sh
variable {σ : Env} {ρ : Rho} {C : Ctx} {H H' : AH} {w : World} {P : Program}
/-- The evaluator is sound, at every depth. -/
theorem callA_ok (hC : COK P C σ) (hF : FOK P C σ) (hm : P.follows .mixedOrders = true) (fuel : Nat) : ∀ dep, CFOK P C σ (callA C fuel dep)
  | 0 => fun tgt args H v H' h => by simp [callA] at h
  | dep + 1 => call_step hC hF (draw_sound hC hm) fuel (callA_ok hC hF hm fuel dep)
/-- A call that the evaluator answers. -/
theorem calls_of_callA (hC : COK P C σ) (hF : FOK P C σ) (hm : P.follows .mixedOrders = true) {fuel dep : Nat} {f : FuncId} {args : List AV} {v : AV} {fi : FI} (hfi : C.fn.get f = some fi)
    (h : callA C fuel dep (.fn f) args H = some (v, H')) (hr : HR C σ ρ H w) {vs : List Value} (hvs : VRs σ ρ args vs) :
    Calls P f vs.toArray w (fun e w' => ∃ v' ρ', e = .returned v' ∧ VR σ ρ' v v' ∧ Post C σ ρ H w ρ' H' w') := by
  intro cs
  obtain ⟨ρ', v', w', hv, hp, hT⟩ := callA_ok hC hF hm fuel dep (.fn f) args H v H' h ρ w vs .normal cs hr hvs (.inl rfl)
  obtain ⟨fn, hfn, hbody, _, _, hname⟩ := hF.fn f fi hfi
  rcases hT with ⟨_, fr, h1, h2, h3, h4, h5, fn2, h6, h7⟩ | hval
  · exact ⟨.returned v', w', fr, ⟨v', ρ', rfl, hv, hp⟩, h1, h2, h3, h4, h5, fn2, by rw [h2]; exact h6, h7⟩
  · rw [run_callFunc hfn hbody hname] at hval; cases hval
end Go.Sh
/- Summaries of functions out of contracts of the kit's shelf: the keys of a map of numbers, in order. No program in sight. -/
namespace Go.Sh
open Go.RowKit (Below)
variable {σ : Env} {ρ ρ' : Rho} {C : Ctx} {H H' : AH} {w w' : World} {P : Program}
/-- a new block, wherever -/
theorem HR.newBelow (h : HR C σ ρ H w) (hb : Below w.heap.size w w') {ab : AB} {o' : Obj} {g size : Nat} (hg : w.heap.size ≤ g) (h2 : w'.heap[g]? = some o')
    (hB : BR C σ (upd ρ H.next ⟨g, 0, size⟩) ab ⟨g, 0, size⟩ o') :
    Post C σ ρ H w (upd ρ H.next ⟨g, 0, size⟩) (H.new ab) w' := by
  have hgl : g < w'.heap.size := (Array.getElem?_eq_some_iff.1 h2).1
  have hext := h.ext_upd (Nat.le_refl _) ⟨g, 0, size⟩
  refine ⟨hext, ⟨?_, ?_, ?_, ?_, fun g' hg' => ?_, fun i o e => ⟨(hb.block _ (h.old_lt e)).trans (h.old i o e).1, fun b r k hh => ?_⟩⟩, ⟨hb.os, hb.tape, hb.output, hb.size, fun i hi _ => hb.block i hi, ?_⟩, fun c hc => upd_other ρ _ (Nat.ne_of_lt hc), Nat.le_succ _⟩
  · intro b r e
    rw [AH.next_new]
    by_cases hb : b = H.next
    · omega
    · rw [upd_other _ _ hb] at e; have := h.dom b r e; omega
  · intro b r e
    by_cases hbn : b = H.next
    · subst hbn; rw [upd_same] at e; cases e; exact hgl
    · rw [upd_other _ _ hbn] at e; exact Nat.lt_of_lt_of_le (h.rng b r e) hb.size
  · intro b ac e
    rw [AH.get_new] at e
    by_cases hbn : b = H.next
    · subst hbn; rw [if_pos rfl] at e; cases e; exact ⟨_, o', upd_same _ _ _, h2, hB⟩
    · rw [if_neg hbn] at e
      obtain ⟨s, o, e1, e2, e3⟩ := h.live b ac e
      exact ⟨s, o, hext _ _ e1, by rw [hb.block _ (h.rng b s e1)]; exact e2, e3.mono hext⟩
  · intro b b' ac ac' s s' e e' k k' hs
    rw [AH.get_new] at e e'
    by_cases hbn : b = H.next <;> by_cases hbn' : b' = H.next
    · omega
    · subst hbn; rw [upd_same] at k; cases k; rw [upd_other _ _ hbn'] at k'; have := h.rng _ _ k'; simp only at hs; omega
    · subst hbn'; rw [upd_same] at k'; cases k'; rw [upd_other _ _ hbn] at k; have := h.rng _ _ k; simp only at hs; omega
    · rw [if_neg hbn] at e; rw [if_neg hbn'] at e'; rw [upd_other _ _ hbn] at k; rw [upd_other _ _ hbn'] at k'
      exact h.inj _ _ _ _ _ _ e e' k k' hs
  · obtain ⟨r, e, e1, e2⟩ := h.glob g' hg'; exact ⟨r, hext _ _ e, e1, e2⟩
  · by_cases hbn : b = H.next
    · subst hbn; rw [upd_same] at k; cases k; have := h.old_lt e; simp only at hh; omega
    · rw [upd_other _ _ hbn] at k; exact (h.old i o e).2 b r k hh
  · rintro i hi ⟨c, ac, s, e, k, rfl⟩
    rw [AH.get_new] at e
    by_cases hbn : c = H.next
    · subst hbn; rw [upd_same] at k; cases k; simp only at hi; omega
    · rw [if_neg hbn] at e; rw [upd_other _ _ hbn] at k; exact ⟨c, ac, s, e, k, rfl⟩
/-- a contract's call, as the evaluator's law asks for it -/
theorem sum_of_calls {f : FuncId} {fn : Func} {bd : Code} (hfn : P.funcs[f]? = some fn) (hbd : fn.body = some bd) (hname : (fn.name == "runtime.NumGoroutine") = false)
    {vs : List Value} {v : AV} (h : Calls P f vs.toArray w (fun e w' => ∃ v' ρ', e = .returned v' ∧ VR σ ρ' v v' ∧ Post C σ ρ H w ρ' H' w')) (cs : List Frame) :
    ∃ ρ' v' w', VR σ ρ' v v' ∧ Post C σ ρ H w ρ' H' w' ∧ FnOK P f vs w v' w' .normal cs := by
  obtain ⟨e, w', fr, ⟨v', ρ', rfl, hv, hp⟩, hc, hf, hm, hd, hk, fn', hfn', hr⟩ := h cs
  exact ⟨ρ', v', w', hv, hp, .inl ⟨run_callFunc hfn hbd hname _ _, fr, hc, hf, hm, hd, hk, fn', by rw [← hf]; exact hfn', hr⟩⟩

/-! the keys of a map, in order -/
def ins (x : Int) : List Int → List Int
  | [] => [x]
  | y :: ys => bif intLe x y then x :: y :: ys else y :: ins x ys
def sortI : List Int → List Int
  | [] => []
  | x :: xs => ins x (sortI xs)
def memI : Int → List Int → Bool
  | _, [] => false
  | n, m :: ms => bif intEq n m then true else memI n ms
/-- the keys: numbers of their kind, each once; no entry is younger than the clock, no two are as old -/
def fitI (clk : Nat) : List AE → List Int → List Nat → Option (List Int)
  | [], _, _ => some []
  | e :: es, ks, bs => match e.key with
    | .int .i64 n => bif inI64 n then bif Nat.blt e.born clk then bif memI n ks then none else bif memN e.born bs then none else
        (fitI clk es (n :: ks) (e.born :: bs)).map (n :: ·) else none else none
    | _ => none
/-- the keys of the map that a cell holds, in order; 'it': the type of int -/
def idsSum (it : TypeId) (args : List AV) (H : AH) : Option (AV × AH) :=
  match args with
  | [.ptr b o] => match H.loadN b o 1 with
    | some [.map m] => (match H.get m with
      | some (.map es clk) => bif Nat.ble es.length 100000 then (fitI clk es [] []).bind fun ks => match sortI ks with
        | [] => some (.nils, H)
        | l => some (.slice H.next 0 l.length l.length 1, H.new (.cells (l.map (.int .i64)) it)) else none
      | _ => none)
    | _ => none
  | _ => none
theorem memN_of {n : Nat} {l : List Nat} (h : memN n l = false) : n ∉ l := by
  rw [memN_eq] at h; simpa using h
theorem memI_of {n : Int} : ∀ {l : List Int}, memI n l = false → n ∉ l
  | [], _ => by simp
  | m :: ms, h => by
    simp only [memI, bif_ite, intEq_eq] at h
    split at h
    · cases h
    · rename_i hne
      simp only [List.mem_cons, not_or]
      exact ⟨fun e => hne (by subst e; simp), memI_of h⟩
theorem wf_of {n : Int} (h : inI64 n = true) : (Lit.int .i64 n).wf = true := by
  simp only [inI64, bif_ite, intLe_eq, decide_eq_true_eq] at h
  split at h
  · simp only [decide_eq_true_eq] at h
    simp only [Lit.wf, Bool.and_eq_true, decide_eq_true_eq, IntKind.min, IntKind.max, IntKind.signed, IntKind.bits]
    simp
    omega
  · cases h
theorem fitI_spec {clk : Nat} : ∀ {es : List AE} {ks : List Int} {bs : List Nat} {l : List Int} {ms : List MapEntry}, fitI clk es ks bs = some l → ERs σ ρ es ms →
    (∀ m ∈ ms, m.born < clk) ∧ (ms.map (·.born)).Nodup ∧ (∀ m ∈ ms, m.born ∉ bs) ∧ ms.map (·.key) = l.map (Value.int .i64) ∧ l.Nodup ∧ (∀ x ∈ l, x ∉ ks) ∧ ∀ x ∈ l, inI64 x = true
  | [], ks, bs, l, ms, h, hm => by
    simp only [ERs] at hm; subst hm
    simp only [fitI, Option.some.injEq] at h; subst h
    simp
  | e :: es, ks, bs, l, ms, h, hm => by
    simp only [ERs] at hm
    obtain ⟨m, ms', rfl, h1, h2, h3, h4⟩ := hm
    simp only [fitI] at h
    split at h <;> (try (cases h; done))
    rename_i n hk
    obtain ⟨hi, j1⟩ := bif_some h
    obtain ⟨hb, j2⟩ := bif_some j1
    obtain ⟨hmi, j3⟩ := bif_none j2
    obtain ⟨hmn, j4⟩ := bif_none j3
    obtain ⟨l', j5, j6⟩ := map_some j4
    subst j6
    obtain ⟨i1, i2, i3, i4, i5, i6, i7⟩ := fitI_spec j5 h4
    rw [hk] at h1
    simp only [VR] at h1
    have hb' := blt_of hb
    refine ⟨?_, ?_, ?_, ?_, ?_, ?_, ?_⟩
    · intro x hx
      rcases List.mem_cons.1 hx with rfl | hx
      · rw [h3]; exact hb'
      · exact i1 x hx
    · simp only [List.map_cons, List.nodup_cons]
      refine ⟨fun hmem => ?_, i2⟩
      obtain ⟨x, hx, he⟩ := List.mem_map.1 hmem
      exact i3 x hx (by rw [he, h3]; simp)
    · intro x hx
      rcases List.mem_cons.1 hx with rfl | hx
      · rw [h3]; exact memN_of hmn
      · exact fun hm => i3 x hx (by simp [hm])
    · simp [h1, i4]
    · simp only [List.nodup_cons]
      exact ⟨fun hmem => i6 n hmem (by simp), i5⟩
    · intro x hx
      rcases List.mem_cons.1 hx with rfl | hx
      · exact memI_of hmi
      · exact fun hm => i6 x hx (by simp [hm])
    · intro x hx
      rcases List.mem_cons.1 hx with rfl | hx
      · exact hi
      · exact i7 x hx
theorem ins_perm (x : Int) : ∀ l : List Int, (ins x l).Perm (x :: l)
  | [] => .refl _
  | y :: ys => by
    simp only [ins, bif_ite]
    split
    · exact .refl _
    · exact ((ins_perm x ys).cons y).trans (.swap _ _ _)
theorem sortI_perm : ∀ l : List Int, (sortI l).Perm l
  | [] => .refl _
  | x :: xs => (ins_perm x _).trans ((sortI_perm xs).cons x)
theorem ins_sorted (x : Int) : ∀ l : List Int, l.Pairwise (fun a b => leI a b = true) → (ins x l).Pairwise (fun a b => leI a b = true)
  | [], _ => by simp [ins]
  | y :: ys, h => by
    simp only [ins, bif_ite, intLe_eq]
    have h' := List.pairwise_cons.1 h
    split
    · rename_i hxy
      refine List.pairwise_cons.2 ⟨fun z hz => ?_, h⟩
      simp only [leI, decide_eq_true_eq] at hxy ⊢
      rcases List.mem_cons.1 hz with rfl | hz
      · exact hxy
      · have := h'.1 z hz; simp only [leI, decide_eq_true_eq] at this; omega
    · rename_i hxy
      refine List.pairwise_cons.2 ⟨fun z hz => ?_, ins_sorted x ys h'.2⟩
      simp only [leI, decide_eq_true_eq] at hxy ⊢
      rcases List.mem_cons.1 ((ins_perm x ys).mem_iff.1 hz) with rfl | hz
      · omega
      · have := h'.1 z hz; simpa only [leI, decide_eq_true_eq] using this
theorem sortI_sorted : ∀ l : List Int, (sortI l).Pairwise (fun a b => leI a b = true)
  | [] => by simp [sortI]
  | x :: xs => ins_sorted x _ (sortI_sorted xs)
theorem sortI_eq {l l' : List Int} (h : l'.Perm l) : l'.mergeSort (fun x y => decide (x ≤ y)) = sortI l := by
  have tr : ∀ a b c : Int, leI a b = true → leI b c = true → leI a c = true := fun a b c h1 h2 => by simp only [leI, decide_eq_true_eq] at *; exact Int.le_trans h1 h2
  have to : ∀ a b : Int, (leI a b || leI b a) = true := fun a b => by simp only [leI, Bool.or_eq_true, decide_eq_true_eq]; exact Int.le_total a b
  refine List.Perm.eq_of_pairwise (le := fun a b => leI a b = true) (fun a b _ _ h1 h2 => ?_) (List.pairwise_mergeSort tr to l') (sortI_sorted l) (((List.mergeSort_perm l' leI).trans h).trans (sortI_perm l).symm)
  simp only [leI, decide_eq_true_eq] at h1 h2
  exact Int.le_antisymm h1 h2
/-- what the shelf's contracts say of 'slices.Sorted(maps.Keys(x.m))' -/
def IdsLaw (P : Program) (it : TypeId) (f : FuncId) : Prop :=
  ∀ (pb po b nn : Nat) (D0 : DataW Unit) (R : Value → Option (DataW Unit × List MemPlace)) (w : World), w.cell? ⟨pb, po, none⟩ = some (.map (some b)) → w.ownsMap P it R b nn D0 →
    Maps.size D0 ≤ maxLen → Maps.size D0 * 8 ≤ 140737488355328 →
    Calls P f #[.pointer (some ⟨pb, po, none⟩)] w fun e w' => ∃ (v : Value) (ss : List Int), e = .returned v ∧ ss.Perm (intKeys D0) ∧
      w'.ownsRow w.heap.size it 1 v ss.length ((ss.mergeSort (fun x y => decide (x ≤ y))).map encZ) ∧ (v = .slice none 0 0 ↔ ss = []) ∧ Below w.heap.size w w'
theorem ids_sum {it : TypeId} {f : FuncId} {fn : Func} {bd : Code} (hit : P.underlying it = some (.int .i64)) (hfn : P.funcs[f]? = some fn) (hbd : fn.body = some bd)
    (hname : (fn.name == "runtime.NumGoroutine") = false) (hL : IdsLaw P it f) {args : List AV} {v : AV} (h : idsSum it args H = some (v, H')) (vs : List Value) (cs : List Frame)
    (hr : HR C σ ρ H w) (hvs : VRs σ ρ args vs) : ∃ ρ' v' w', VR σ ρ' v v' ∧ Post C σ ρ H w ρ' H' w' ∧ FnOK P f vs w v' w' .normal cs := by
  unfold idsSum at h
  split at h <;> (try (cases h; done))
  rename_i b o
  split at h <;> (try (cases h; done))
  rename_i m hl
  split at h <;> (try (cases h; done))
  rename_i es clk hm
  obtain ⟨hlen, h⟩ := bif_some h
  obtain ⟨ks, hks, h⟩ := bind_some h
  -- the argument, the cell, the map
  simp only [VRs, VR] at hvs
  obtain ⟨_, _, rfl, ⟨r, hρ, rfl⟩, rfl⟩ := hvs
  obtain ⟨us, hus, _, hcell⟩ := hr.loadN hl hρ
  simp only [VRs, VR] at hus
  obtain ⟨_, _, rfl, ⟨rm, hρm, rfl⟩, rfl⟩ := hus
  have hc0 := hcell 0 _ rfl
  obtain ⟨rm', ob, e1, e2, e3⟩ := hr.live m _ hm
  rw [hρm] at e1; cases e1
  simp only [BR] at e3
  obtain ⟨_, ms, rfl, hms⟩ := e3
  obtain ⟨f1, f2, _, f4, f5, _, f7⟩ := fitI_spec hks hms
  have hmsl : ms.length = ks.length := by have := congrArg List.length f4; simpa using this
  have hesl : es.length = ms.length := by
    have : ∀ (es : List AE) (ms : List MapEntry), ERs σ ρ es ms → es.length = ms.length := by
      intro es
      induction es with
      | nil => intro ms h; simp only [ERs] at h; subst h; rfl
      | cons e es ih => intro ms h; simp only [ERs] at h; obtain ⟨m, ms', rfl, _, _, _, h⟩ := h; simp [ih ms' h]
    exact this es ms hms
  have hsmall : ms.length ≤ 100000 := by rw [← hesl]; exact ble_of hlen
  let R : Value → Option (DataW Unit × List MemPlace) := fun _ => some (.lit (.bool false), [])
  have hkey : ∀ n : Int, inI64 n = true → keyOf P it (.int .i64 n) = some (.int .i64 n) := fun n hn => by
    simp [keyOf, hit, mapKey, wf_of hn]
  have hkeys : ∀ x ∈ ms, ∃ n ∈ ks, x.key = .int .i64 n := by
    intro x hx
    have : x.key ∈ ms.map (·.key) := List.mem_map_of_mem hx
    rw [f4] at this
    obtain ⟨n, hn, e⟩ := List.mem_map.1 this
    exact ⟨n, hn, e.symm⟩
  have hrd : ∀ x ∈ ms, ∀ n ∈ ks, x.key = .int .i64 n → WideElems.rd P it R x = some (.int .i64 n, .lit (.bool false)) := fun x _ n hn e => by
    simp [WideElems.rd, e, hkey n (f7 n hn), R]
  have hfit : WideElems.Fit P it R ms.toArray clk := by
    refine ⟨by simp [maxLen]; omega, ⟨by simpa using f1, by simpa using f2, ?_⟩, fun x hx => ?_⟩
    · simp only [f4]
      exact (List.pairwise_map.2 (f5.imp fun {a b} hne e => hne (by cases e; rfl)))
    · have hx' : x ∈ ms := by simpa using hx
      obtain ⟨n, hn, e⟩ := hkeys x hx'
      exact ⟨_, hrd x hx' n hn e⟩
  have hkl : (ms.map (WideElems.rg P it R)).map (fun p => intOf p.1) = ks := by
    have h1 : (ms.map (WideElems.rg P it R)).map (fun p => intOf p.1) = ms.map fun x => intOf ((keyOf P it x.key).getD (.bool false)) := by
      rw [List.map_map]
      refine List.map_congr_left fun x hx => ?_
      obtain ⟨n, hn, e⟩ := hkeys x hx
      simp [WideElems.rg, hrd x hx n hn e, e, hkey n (f7 n hn)]
    have h2 : (ms.map fun x => intOf ((keyOf P it x.key).getD (.bool false))) = (ms.map (·.key)).map fun k => intOf ((keyOf P it k).getD (.bool false)) := by rw [List.map_map]; rfl
    rw [h1, h2, f4, List.map_map]
    conv => rhs; rw [← List.map_id ks]
    refine List.map_congr_left fun n hn => ?_
    simp [hkey n (f7 n hn), intOf]
  have hperm : (intKeys (DataW.map ((ms.map (WideElems.rg P it R)).foldr DataW.insert []))).Perm ks := by
    show (List.map (fun p : Lit × DataW Unit => intOf p.1) _).Perm ks
    exact ((WideShapes.sorted_perm _).map _).trans (by rw [hkl])
  have hsize : Maps.size (DataW.map ((ms.map (WideElems.rg P it R)).foldr DataW.insert [])) = ms.length := by
    simp [Maps.size, length_sorted]
  have hown : w.ownsMap P it R rm.blk ms.length (.map ((ms.map (WideElems.rg P it R)).foldr DataW.insert [])) := ⟨ms.toArray, clk, e2, hfit, by simp, by simp⟩
  have hcall := hL r.blk (r.shift + o) rm.blk ms.length _ R w (by simpa using hc0) hown (by rw [hsize]; simp only [maxLen]; omega) (by rw [hsize]; omega)
  refine sum_of_calls hfn hbd hname (hcall.mono ?_) cs
  rintro e w' ⟨v', ss, rfl, hss, hrow, hnil, hbel⟩
  have hss' : ss.Perm ks := hss.trans hperm
  rw [sortI_eq hss'] at hrow
  have hsl : ss.length = (sortI ks).length := (hss'.trans (sortI_perm ks).symm).length_eq
  split at h
  · rename_i hs
    cases h
    have : ss = [] := List.eq_nil_of_length_eq_zero (by rw [hsl, hs]; rfl)
    exact ⟨v', ρ, rfl, by simp only [VR]; exact hnil.2 this, hr.below hbel⟩
  · rename_i l hne
    cases h
    obtain ⟨_, ⟨hv, h0⟩ | ⟨g, cap, cur, rfl, hg, hgb, hc1, hc2, hc3, hc4⟩⟩ := hrow
    · exact absurd (List.eq_nil_of_length_eq_zero (by rw [← hsl]; exact h0)) hne
    · refine ⟨_, upd ρ H.next ⟨g, 0, cur.size⟩, rfl, ?_, hr.newBelow hbel hg hgb ?_⟩
      · simp only [VR]
        refine ⟨_, 0, cap, upd_same _ _ _, by rw [hsl], by rw [← hsl]; exact hc1, .inr (by simp), ?_⟩
        rw [if_neg (by decide)]
        refine ⟨by rw [← hsl]; exact hc1, ?_⟩
        simp; omega
      · simp only [BR]
        refine ⟨cur, rfl, rfl, ?_, ?_⟩
        · simp [List.length_map]; omega
        · intro i a hi
          have hil : i < (sortI ks).length := by
            rcases Nat.lt_or_ge i (sortI ks).length with h' | h'
            · exact h'
            · rw [List.getElem?_eq_none (by simpa using h')] at hi; cases hi
          have ha : a = .int .i64 ((sortI ks)[i]'hil) := by
            rw [List.getElem?_map, List.getElem?_eq_getElem hil] at hi
            simpa using hi.symm
          refine ⟨.int .i64 ((sortI ks)[i]'hil), ?_, by rw [ha]; simp only [VR]⟩
          have h3 : (cur.toList.take (ss.length * 1))[i]? = some (encZ ((sortI ks)[i]'hil)) := by
            rw [hc4, List.getElem?_map, List.getElem?_eq_getElem hil]; rfl
          rw [List.getElem?_take] at h3
          split at h3
          · simpa using h3
          · cases h3
end Go.Sh
