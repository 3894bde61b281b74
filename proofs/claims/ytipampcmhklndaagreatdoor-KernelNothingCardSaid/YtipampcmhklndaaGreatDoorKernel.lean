import Derived.Test.YtipampcmhklndaaGreatDoorCok
import Derived.Test.YtipampcmhklndaaGreatDoorRunK1
import Derived.Test.YtipampcmhklndaaGreatDoorRunK2
import Derived.Test.YtipampcmhklndaaGreatDoorRunK3
/- KernelNothing: whatever is called by whatever thread, the law answers true, and nothing that was there has turned. -/
namespace Go.Proofs.YtipampcmhklndaaGreatDoor
open Go Go.Sh
open Go.RowKit (Below)
def kVal (thread : Int) (a : Nat → Int) (sd sl : Value) (nd nl : Nat) : Nat → Value := fun j =>
  if j = 0 then .int .i64 thread else if j = 8 then sd else if j = 9 then sl else if j = 20 then goInt nd else if j = 21 then goInt nl else .int .i64 (a j)
def callV (a : Nat → Int) (sd sl : Value) : List Value := [.int .i64 (a 1), .int .i64 (a 2), .int .i64 (a 3), .int .i64 (a 4), .int .i64 (a 5), .int .i64 (a 6), .int .i64 (a 7), sd, sl]
theorem fiK : fnT.get 3 = some (mkFI Tryz.f3) := rfl
section
variable {W : World} {thread : Int} {a : Nat → Int} {pd pl : Option Addr} {nd cd nl cl : Nat}
theorem kRun (hW : NamesAt nt W) {bin : List (BinOp × AV × AV × AV)} {slc : List (Nat × Nat)} {t : AV} (hrun : runK bin slc t = true)
    (ht : VR (Env.over W (kVal thread a (.slice pd nd cd) (.slice pl nl cl) nd nl)) ρ0 t (.int .i64 thread))
    (hb : BinsOK (Env.over W (kVal thread a (.slice pd nd cd) (.slice pl nl cl) nd nl)) bin)
    (hs : slc = [] ∨ slc = slcAll ∧ Lies W pd nd ∧ Lies W pl nl ∧ nd ≤ 300 ∧ nl ≤ 80) :
    Calls Tryz.prog 3 #[.int .i64 thread, .agg (callV a (.slice pd nd cd) (.slice pl nl cl)).toArray] W (fun e w' => e = .returned (.bool true) ∧ Below W.heap.size W w') := by
  refine walk_of_run (σ := Env.over W (kVal thread a (.slice pd nd cd) (.slice pl nl cl) nd nl)) (C := cx bin [] [(8, .sym 20), (9, .sym 21)] slc) rfl (cok hb.mem (by simp) ?_ ?_) (fok _ _ _ _ _) mixed
    (vs := [.int .i64 thread, .agg (callV a (.slice pd nd cd) (.slice pl nl cl)).toArray]) (VRs.cons ht (VRs.cons (VR.agg ?_) VRs.nil)) hrun fiK hW (beside_over W _)
  · intro i r hm
    simp only [List.mem_cons, Prod.mk.injEq, List.not_mem_nil, or_false] at hm
    rcases hm with ⟨rfl, rfl⟩ | ⟨rfl, rfl⟩
    · exact ⟨pd, nd, cd, rfl, fun ρ => by simp only [VR]; exact ⟨rfl, rfl⟩⟩
    · exact ⟨pl, nl, cl, rfl, fun ρ => by simp only [VR]; exact ⟨rfl, rfl⟩⟩
  · intro i z hm
    rcases hs with rfl | ⟨rfl, h1, h2, h3, h4⟩
    · cases hm
    · simp only [slcAll, List.mem_cons, Prod.mk.injEq, List.not_mem_nil, or_false] at hm
      rcases hm with ⟨rfl, rfl⟩ | ⟨rfl, rfl⟩
      · exact ⟨pd, nd, cd, rfl, by omega, h1.slc⟩
      · exact ⟨pl, nl, cl, rfl, by omega, h2.slc⟩
  · unfold callV
    repeat' (first | exact VRs.nil | refine VRs.cons (by simp only [VR]; exact ⟨rfl, rfl⟩) ?_)
theorem kernelNothing_calls (hW : NamesAt nt W) (hd : Lies W pd nd) (hl : Lies W pl nl) :
    Calls Tryz.prog 3 #[.int .i64 thread, .agg (callV a (.slice pd nd cd) (.slice pl nl cl)).toArray] W (fun e w' => e = .returned (.bool true) ∧ Below W.heap.size W w') := by
  have h0 : VR (Env.over W (kVal thread a (.slice pd nd cd) (.slice pl nl cl) nd nl)) ρ0 (.sym 0) (.int .i64 thread) := by simp only [VR]; exact ⟨rfl, rfl⟩
  by_cases c1 : 300 < nd
  · refine kRun hW runK_longData h0 ?_ (.inl rfl)
    simp only [binLongData, BinsOK]
    repeat' (first | exact trivial | apply And.intro)
    all_goals (refine cmp_ok rfl ?_; simp [intOp, intLe_eq]; try omega)
  by_cases c2 : 80 < nl
  · refine kRun hW runK_longList h0 ?_ (.inl rfl)
    simp only [binLongList, BinsOK]
    repeat' (first | exact trivial | apply And.intro)
    all_goals (refine cmp_ok rfl ?_; simp [intOp, intLe_eq]; try omega)
  have hs : slcAll = [] ∨ slcAll = slcAll ∧ Lies W pd nd ∧ Lies W pl nl ∧ nd ≤ 300 ∧ nl ≤ 80 := .inr ⟨rfl, hd, hl, by omega, by omega⟩
  by_cases c3 : thread < 1
  · refine kRun hW runK_under h0 ?_ hs
    simp only [binUnder, binSmall, List.cons_append, List.nil_append, BinsOK]
    repeat' (first | exact trivial | apply And.intro)
    all_goals (refine cmp_ok rfl ?_; simp [intOp, intLe_eq, intEq_eq]; try omega)
  by_cases c4 : 3 < thread
  · refine kRun hW runK_above h0 ?_ hs
    simp only [binAbove, binSmall, List.cons_append, List.nil_append, BinsOK]
    repeat' (first | exact trivial | apply And.intro)
    all_goals (refine cmp_ok rfl ?_; simp [intOp, intLe_eq, intEq_eq]; try omega)
  have h3 : thread = 1 ∨ thread = 2 ∨ thread = 3 := by omega
  rcases h3 with rfl | rfl | rfl
  · refine kRun hW runK_one (by simp only [i, VR]; rfl) ?_ hs
    simp only [binSmall, BinsOK]
    repeat' (first | exact trivial | apply And.intro)
    all_goals (refine cmp_ok rfl ?_; simp [intOp, intLe_eq]; try omega)
  · refine kRun hW runK_two (by simp only [i, VR]; rfl) ?_ hs
    simp only [binSmall, BinsOK]
    repeat' (first | exact trivial | apply And.intro)
    all_goals (refine cmp_ok rfl ?_; simp [intOp, intLe_eq]; try omega)
  · have hi : VR (Env.over W (kVal 3 a (.slice pd nd cd) (.slice pl nl cl) nd nl)) ρ0 (i 3) (.int .i64 3) := by simp only [i, VR]; rfl
    by_cases c5 : a 1 < 1
    · refine kRun hW runK_low hi ?_ hs
      simp only [binLow, binSmall, List.cons_append, List.nil_append, BinsOK]
      repeat' (first | exact trivial | apply And.intro)
      all_goals (refine cmp_ok rfl ?_; simp [intOp, intLe_eq, intEq_eq]; try omega)
    by_cases c6 : 49 < a 1
    · refine kRun hW runK_high hi ?_ hs
      simp only [binHigh, binSmall, List.cons_append, List.nil_append, BinsOK]
      repeat' (first | exact trivial | apply And.intro)
      all_goals (refine cmp_ok rfl ?_; simp [intOp, intLe_eq, intEq_eq]; try omega)
    · refine kRun hW runK_known hi ?_ hs
      simp only [binKnown, binSmall, List.cons_append, List.nil_append, BinsOK]
      repeat' (first | exact trivial | apply And.intro)
      all_goals (refine cmp_ok rfl ?_; simp [intOp, intLe_eq]; try omega)
end
end Go.Proofs.YtipampcmhklndaaGreatDoor
