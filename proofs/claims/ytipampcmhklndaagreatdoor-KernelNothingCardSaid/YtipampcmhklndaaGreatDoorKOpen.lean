import Derived.Test.YtipampcmhklndaaGreatDoorKernel
import Derived.OpenShut
import Derived.ChangeSlices
import Derived.ChangeSame
import Derived.KernelRfl
/- A call's nine cells, out of the reading of the argument. -/
namespace Go.Proofs.YtipampcmhklndaaGreatDoor
open Go Go.Sh Go.ChangeShapes Go.WideShapes
set_option maxRecDepth 100000
set_option linter.unusedVariables false
set_option linter.unusedSimpArgs false
/-- a slice of numbers that the reading took lies beside the names -/
theorem lies_of {W : World} (hW : NamesAt nt W) {k : IntKind} {a : Addr} {len cap : Nat} {zs : List Int} (hlc : len ≤ cap) (hz : zs.length = cap)
    (hc : ∀ i, i < zs.length → W.cell? (a.add i) = some (.int k (zs.getD i 0))) : Lies W (some a) len := by
  by_cases h0 : len = 0
  · exact .inl h0
  · obtain ⟨blk, off, spot⟩ := a
    have h1 := hc 0 (by omega)
    have h2 := hc (len - 1) (by omega)
    have hs : spot = none := by
      cases spot with
      | none => rfl
      | some q =>
        exfalso
        simp only [World.cell?, Addr.add] at h1
        split at h1
        · simp at h1
        · cases h1
    subst hs
    rw [addr_add] at h1 h2
    simp only [World.cell?] at h1 h2
    cases hb : W.heap[blk]? with
    | none => rw [hb] at h1; cases h1
    | some o =>
      rw [hb] at h1 h2
      cases o <;> simp only at h1 h2 <;> (try (cases h1; done))
      rename_i cells e fz
      simp only [Option.isSome_none, Bool.false_eq_true, if_false] at h1 h2
      have hlt := (Array.getElem?_eq_some_iff.1 h2).1
      refine .inr ⟨blk, off, cells, e, fz, rfl, hb, by omega, fun hb0 => ?_⟩
      subst hb0
      unfold NamesAt at hW
      rw [hW] at hb
      cases hb
      have : ∀ (n : Nat) v, namesV.toArray[n]? = some v → ∃ s, v = .string s := by
        intro n v hv
        rw [List.getElem?_toArray] at hv
        have hm := List.mem_of_getElem? hv
        simp only [namesV, List.mem_map] at hm
        obtain ⟨x, hx, rfl⟩ := hm
        have : ∃ s, x = .str s := by
          have : ∀ x ∈ names, ∃ s, x = .str s := by simp [names, u8s]
          exact this x hx
        obtain ⟨s, rfl⟩ := this
        exact ⟨_, rfl⟩
      obtain ⟨s, hs⟩ := this _ _ h1
      cases hs
theorem cellsCall : Tryz.prog.cellsOf 25 = 9 := by kernel_rfl
theorem cellsInt : Tryz.prog.cellsOf 3 = 1 := by kernel_rfl
theorem cellsByte : Tryz.prog.cellsOf 5 = 1 := by kernel_rfl
theorem cellsBytes : Tryz.prog.cellsOf 22 = 1 := by kernel_rfl
theorem cellsInts : Tryz.prog.cellsOf 23 = 1 := by kernel_rfl
theorem slice_of {H : Type} {enc : TypeId × Value → H} {W : World} (hN : NamesAt nt W) {t e : TypeId} {k : IntKind} {fuel : Nat} {c : Value} {x : DataW H × List MemPlace}
    (ht : Tryz.prog.underlying t = some (.slice e)) (he : Tryz.prog.underlying e = some (.int k)) (hc : Tryz.prog.cellsOf e = 1)
    (h : DataW.trod enc Tryz.prog W 0 (fun _ => true) true fuel t [c] = some x) : ∃ p n cap, c = .slice p n cap ∧ Lies W p n := by
  rcases open_ints ht he hc h with ⟨h1, _⟩ | ⟨a, len, cap, zs, h1, _, hlc, _, hz, _, hcell, _⟩
  · simp only [List.cons.injEq, and_true] at h1
    exact ⟨none, 0, 0, h1, .inl rfl⟩
  · simp only [List.cons.injEq, and_true] at h1
    exact ⟨some a, len, cap, h1, lies_of hN hlc (by simpa using hz) hcell⟩
theorem int_of {H : Type} {enc : TypeId × Value → H} {W : World} {fuel : Nat} {c : Value} {x : DataW H × List MemPlace}
    (h : DataW.trod enc Tryz.prog W 0 (fun _ => true) true fuel 3 [c] = some x) : ∃ n, c = .int .i64 n := by
  obtain ⟨n, h1, _⟩ := DataW.trod_int Tryz.underlying3 h
  simp only [List.cons.injEq, and_true] at h1
  exact ⟨n, h1⟩
theorem open_call {H : Type} {enc : TypeId × Value → H} {W : World} (hN : NamesAt nt W) {base : Nat} {v : Value} {d : DataW H} {ps : List MemPlace} (hval : Value.okWide Tryz.prog W .any base 25 v)
    (h : DataW.Trod enc Tryz.prog W 0 (fun _ => true) true 25 v d ps) :
    ∃ (a : Nat → Int) (pd : Option Addr) (nd cd : Nat) (pl : Option Addr) (nl cl : Nat), v = .agg (callV a (.slice pd nd cd) (.slice pl nl cl)).toArray ∧ Lies W pd nd ∧ Lies W pl nl := by
  obtain ⟨cs, rfl, hsz⟩ := okWide_struct Tryz.underlying25 hval
  rw [cellsCall] at hsz
  obtain ⟨fuel, hf⟩ := h
  obtain ⟨xs, m, _, _, _, hxl, hx⟩ := DataW.trod_struct Tryz.underlying25 hf
  obtain ⟨l⟩ := cs
  obtain ⟨c0, c1, c2, c3, c4, c5, c6, c7, c8, rfl⟩ : ∃ c0 c1 c2 c3 c4 c5 c6 c7 c8, l = [c0, c1, c2, c3, c4, c5, c6, c7, c8] := by
    match l, hsz with
    | [c0, c1, c2, c3, c4, c5, c6, c7, c8], _ => exact ⟨c0, c1, c2, c3, c4, c5, c6, c7, c8, rfl⟩
  obtain ⟨x0, x1, x2, x3, x4, x5, x6, x7, x8, rfl⟩ : ∃ x0 x1 x2 x3 x4 x5 x6 x7 x8, xs = [x0, x1, x2, x3, x4, x5, x6, x7, x8] := by
    match xs, hxl with
    | [x0, x1, x2, x3, x4, x5, x6, x7, x8], _ => exact ⟨x0, x1, x2, x3, x4, x5, x6, x7, x8, rfl⟩
  have f0 := hx 0 _ rfl
  have f1 := hx 1 _ rfl
  have f2 := hx 2 _ rfl
  have f3 := hx 3 _ rfl
  have f4 := hx 4 _ rfl
  have f5 := hx 5 _ rfl
  have f6 := hx 6 _ rfl
  have f7 := hx 7 _ rfl
  have f8 := hx 8 _ rfl
  simp only [cellsInt, cellsBytes, cellsInts, Value.cells, List.drop, List.take, List.getElem?_cons_zero, List.getElem?_cons_succ] at f0 f1 f2 f3 f4 f5 f6 f7 f8
  obtain ⟨n0, rfl⟩ := int_of f0
  obtain ⟨n1, rfl⟩ := int_of f1
  obtain ⟨n2, rfl⟩ := int_of f2
  obtain ⟨n3, rfl⟩ := int_of f3
  obtain ⟨n4, rfl⟩ := int_of f4
  obtain ⟨n5, rfl⟩ := int_of f5
  obtain ⟨n6, rfl⟩ := int_of f6
  obtain ⟨pd, nd, cd, rfl, hd⟩ := slice_of hN Tryz.underlying22 Tryz.underlying5 cellsByte f7
  obtain ⟨pl, nl, cl, rfl, hl⟩ := slice_of hN Tryz.underlying23 Tryz.underlying3 cellsInt f8
  exact ⟨fun j => if j = 1 then n0 else if j = 2 then n1 else if j = 3 then n2 else if j = 4 then n3 else if j = 5 then n4 else if j = 6 then n5 else n6, pd, nd, cd, pl, nl, cl, rfl, hd, hl⟩
end Go.Proofs.YtipampcmhklndaaGreatDoor
