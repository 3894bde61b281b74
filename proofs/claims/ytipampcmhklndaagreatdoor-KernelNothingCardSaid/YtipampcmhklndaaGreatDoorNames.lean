import Derived.Test.YtipampcmhklndaaGreatDoorShT
import Derived.Test.YtipampcmhklndaaGreatDoorRows
import Derived.LaidLaws
import Derived.LaidHandle
import Derived.OpenShut
/- What the card's 'laid' gives: the one variable holds the names of the types of objects. -/
namespace Go.Proofs.YtipampcmhklndaaGreatDoor
open Go Go.Sh
abbrev laidL : List (String × DataW Unit) := [("jacinth/rights.names", Rows.laid_jacinth_rights_names)]
theorem str_of_trod {H : Type} {enc : TypeId × Value → H} {w : World} {base : Nat} {sp : Nat → Bool} {held : Bool} {fuel : Nat} {c : Value} {y : DataW H × List MemPlace}
    (h : DataW.trod enc Tryz.prog w base sp held fuel 9 [c] = some y) : ∃ s : ByteArray, c = .string s ∧ y = (.lit (.string s.data.toList), []) := by
  obtain ⟨s, hc, hy, _⟩ := DataW.trod_string Tryz.underlying9 h
  simp only [List.cons.injEq, and_true] at hc
  exact ⟨s, hc, hy⟩
def zero12 : Array Value := #[.string ⟨#[]⟩, .string ⟨#[]⟩, .string ⟨#[]⟩, .string ⟨#[]⟩, .string ⟨#[]⟩, .string ⟨#[]⟩, .string ⟨#[]⟩, .string ⟨#[]⟩, .string ⟨#[]⟩, .string ⟨#[]⟩, .string ⟨#[]⟩, .string ⟨#[]⟩]
theorem zero_row : ((begin Tryz.prog (fun _ _ => 0) default).world.heap[0]?).bind Obj.row? = some (zero12, (169 : TypeId)) := by kernel_rfl
theorem gname : Tryz.prog.globalNamed "jacinth/rights.names" = some 0 := by kernel_rfl
theorem gtype : (Tryz.prog.globals[0]?).map (·.type) = some 169 := by kernel_rfl
theorem gsize : Tryz.prog.globals.size = 1 := by kernel_rfl
theorem cellsN : Tryz.prog.cellsOf 169 = 12 := by kernel_rfl
theorem cellsS : Tryz.prog.cellsOf 9 = 1 := by kernel_rfl
/-- the table's twelve strings -/
def lits : List (DataW Unit) := names.map fun a => match a with | .str s => (DataW.lit (Lit.string s) : DataW Unit) | _ => DataW.nil
theorem laid_lits : Rows.laid_jacinth_rights_names = .agg lits := by rfl
theorem cells_of_laid {W : World} (h : laidMet Tryz.prog laidL W) : W.var? Tryz.prog "jacinth/rights.names" = some namesV.toArray := by
  obtain ⟨ps, ⟨g, t, cs, fuel, p, q, hg, ht, hv, hd, _, _⟩, _, _⟩ := h
  obtain rfl := Option.some.inj (gname.symm.trans hg)
  obtain rfl := Option.some.inj (gtype.symm.trans ht)
  rw [hv]
  obtain ⟨xs, m, _, hx, hlen, hxl, hxi⟩ := DataW.trod_array Tryz.underlying169 hd
  rw [cellsN] at hlen
  simp only [cellsS, Nat.mul_one] at hxi
  have hxe : xs.map (·.1) = lits := by
    have := congrArg Prod.fst hx
    simp only [laid_lits, DataW.agg.injEq] at this
    exact this.symm
  have key : ∀ i, i < 12 → ∃ s : ByteArray, cs.toList[i]? = some (.string s) ∧ lits[i]? = some (.lit (.string s.data.toList)) := by
    intro i hi
    have h1 := hxi i hi
    have hil : i < xs.length := by rw [hxl]; exact hi
    have hcl : i < cs.toList.length := by rw [hlen]; exact hi
    have h2 : (cs.toList.drop i).take 1 = [cs.toList[i]'hcl] := by
      rw [List.drop_eq_getElem_cons hcl]; rfl
    rw [h2, List.getElem?_eq_getElem hil] at h1
    obtain ⟨s, hs, hy⟩ := str_of_trod h1
    refine ⟨s, by rw [List.getElem?_eq_getElem hcl, hs], ?_⟩
    rw [← hxe, List.getElem?_map, List.getElem?_eq_getElem hil, hy]; rfl
  congr 1
  apply Array.ext_getElem?
  intro i
  by_cases hi : i < 12
  · obtain ⟨s, h1, h2⟩ := key i hi
    rw [← Array.getElem?_toList, h1]
    have : ∀ (l : List AV), (∀ a ∈ l, ∃ u, a = .str u) → ∀ (i : Nat) (s : ByteArray), (l.map fun a => match a with | .str s => (DataW.lit (Lit.string s) : DataW Unit) | _ => DataW.nil)[i]? = some (DataW.lit (Lit.string s.data.toList)) →
        (l.map fun a => match a with | .str s => Value.string ⟨s.toArray⟩ | _ => Value.nilIface)[i]? = some (Value.string s) := by
      intro l hl i s h
      rw [List.getElem?_map] at h ⊢
      cases hli : l[i]? with
      | none => rw [hli] at h; cases h
      | some a =>
        obtain ⟨u, rfl⟩ := hl a (List.mem_of_getElem? hli)
        rw [hli] at h
        simp only [Option.map_some, Option.some.injEq, DataW.lit.injEq, Lit.string.injEq] at h
        subst h
        simp
    have hall : ∀ a ∈ names, ∃ u, a = .str u := by simp [names, u8s]
    have := this names hall i s h2
    rw [List.getElem?_toArray]; exact this.symm
  · rw [Array.getElem?_eq_none (by rw [← Array.length_toList, hlen]; omega), Array.getElem?_eq_none (by simp [namesV, names]; omega)]
theorem names_of_laid {W : World} (h : laidMet Tryz.prog laidL W) (hs : W.ShapedOpen Tryz.prog) : NamesAt 169 W := by
  have hv := cells_of_laid h
  obtain ⟨cs, hh, _, _⟩ := hs.1 0 _ _ (by rw [gsize]; decide) zero_row
  unfold World.var? at hv
  rw [gname] at hv
  simp only [Option.bind_some, hh, Option.some.injEq] at hv
  subst hv
  exact hh
end Go.Proofs.YtipampcmhklndaaGreatDoor
