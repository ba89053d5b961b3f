/- PastOrder's second form and its card: for every input of bulk at most 1048576 the law answers true and its arguments read as they did. -/
import Derived.Test.YtcjnbfpkigadeaaGreatDoorCards
import Derived.Test.YtcjnbfpkigadeaaGreatDoorTie
import Derived.WalkKit
import Derived.ProofKit
import Derived.OpenShut
import Derived.Deep.DeepHandedRow
import Derived.Lib.LaidTab
import Derived.Test.YtcjnbfpkigadeaaGreatDoorJ12
set_option linter.unusedVariables false
set_option linter.unusedSimpArgs false
/- PastOrder's second form and its card: for every input of bulk at most 1048576 the law answers true and its arguments read as they did. -/
namespace Go.Proofs.YtcjnbfpkigadeaaGreatDoor
namespace pastorder
open Go.W Go.ChangeShapes Go.WideShapes Go.ChangeAt Go.RowKit

theorem own : ownKnob Tryz.prog.godebug = none := by kernel_rfl
theorem laidOut : laidOutB Tryz.prog = true := by kernel_rfl
theorem gTabType : (Tryz.prog.globals[0]?).map (·.type) = some 269 := by kernel_rfl
theorem cellsT : Tryz.prog.cellsOf 269 = 32 := by kernel_rfl
theorem cellsU : Tryz.prog.cellsOf 5 = 1 := by kernel_rfl
def tzI : List Int := tzT.map fun n : Nat => (n : Int)

theorem table {W : World} (h : laidMetH Tryz.prog Rows.pastOrderUptoRow.laid W) : CellsAt (Wm W) ⟨0, 0, none⟩ (tzT.map fun n : Nat => Value.int .u8 (n : Int)) := by
  have t : Lib.TabIs Tryz.prog W "math/bits.deBruijn32tab" .u8 tzI := Lib.tabIs_of_head (rest := []) gTab gTabType Tryz.underlying269 Tryz.underlying5 cellsU cellsT h
  refine cells_at (by simp [tzT]) fun i hi => ?_
  have hi' : i < tzI.length := by simpa [tzI] using hi
  have c := t.cell gTab i hi'
  simp only [Nat.zero_add]
  rw [c]
  simp only [tzI, List.length_map] at hi'
  simp [tzI, List.getD, hi']

set_option maxRecDepth 100000 in
/-- WHAT THE WALK GIVES, FOR EVERY ARGUMENT OF BULK AT MOST 1048576. -/
theorem contract (H : Type) (enc : TypeId × Value → H) (F : Stop.Interp) (W : World) (base : Nat) (args : Array Value) (ds gs : List (DataW H)) (before : List MemPlace)
    (hval : ∀ (j : Nat) t v, Tryz.f5.params[j]? = some t → args[j]? = some v → Value.okWide Tryz.prog W .any base t v)
    (hW : DataW.Whole enc Tryz.prog Tryz.f5.params.toList Rows.pastOrderSpec.vars false W args.toList ds gs before) (hk : Rows.uptoSmall H (ds ++ gs) = true)
    (hL : laidMetH Tryz.prog Rows.pastOrderUptoRow.laid W) :
    Calls Tryz.prog 5 args W fun e W' => ∃ v, e = .returned v ∧ ((Rows.OpenSpec.upto Rows.pastOrderSpec).at F).post enc Tryz.prog Tryz.f5 false true false false W args v W' := by
  have hW' := hW
  obtain ⟨p, q, hA0, hV0, rfl, _, _⟩ := hW
  have hA : DataW.TrodAll enc Tryz.prog W 0 (fun _ => true) true Tryz.f5.params.toList args.toList ds p := hA0
  rw [Tryz.params5] at hA hval
  obtain ⟨v0, v1, v2, d0, d1, d2, p0, p1, p2, rfl, rfl, rfl, h0, h1, h2⟩ := trodAll_three hA
  obtain ⟨rfl, rfl⟩ := trodVars_none hV0
  obtain ⟨a0, l0, c0, rfl⟩ := okWide_slice Tryz.underlying22 (hval 0 22 v0 rfl rfl)
  obtain ⟨a1, l1, c1, rfl⟩ := okWide_slice Tryz.underlying45 (hval 1 45 v1 rfl rfl)
  obtain ⟨a2, l2, c2, rfl⟩ := okWide_slice Tryz.underlying24 (hval 2 24 v2 rfl rfl)
  have hbk := hk
  simp only [Rows.uptoSmall, decide_eq_true_eq, List.append_nil, Rows.uptoBulkAll] at hbk
  have h0k := h0
  have h1k := h1
  have h2k := h2
  obtain ⟨fu0, hf0⟩ := h0
  obtain ⟨fu1, hf1⟩ := h1
  obtain ⟨fu2, hf2⟩ := h2
  clear hA0 hV0 hval
  simp only [List.append_nil] at hW'
  have hlt : ∀ x ∈ p0 ++ p1 ++ p2, x.block < W.heap.size := fun x hx => by simpa using hW'.lt x hx
  obtain ⟨v, hv⟩ := rd_ops hf0 (by show Rows.uptoBulk d0 ≤ 1048576; omega)
  obtain ⟨ts, ht, htb⟩ := rd_ints hf1 (by show Rows.uptoBulk d1 ≤ 1048576; omega)
  obtain ⟨u, hu⟩ := rd_vec hf2 (by show Rows.uptoBulk d2 ≤ 1048576; omega)
  have hM : RO (Wm W) [] W := ⟨fun _ _ h => h, fun _ _ _ b hb => by cases hb⟩
  refine (PastOrder_c hM hv ht hu htb (table hL) (by simp) (by simp)).mono ?_
  rintro e W' ⟨r, o', rfl, rfl, chg⟩
  have bel : Below W.heap.size W W' := ⟨chg.os, chg.tape, chg.out, chg.size, fun k hk => chg.frame k hk (by simp)⟩
  have e1 : ((Rows.OpenSpec.upto Rows.pastOrderSpec).at F).fn H ([d0, d1, d2] ++ []) = { results := [.lit (.bool true)], args := [d0, d1, d2] } := rfl
  refine ⟨_, rfl, _, _, _, [], p0 ++ (p1 ++ p2), [], hW', ?_, ?_, ?_, bel.frame _, fun h => by cases h⟩
  · rw [e1]; exact trodAll_mk1 (shut_bool Tryz.underlying4 _)
  · rw [e1]
    exact trodAll_mk3 (Below.trod laidOut (by kernel_rfl) (of_decide_eq_true (by kernel_rfl)) h0k bel (fun x hx => hlt x (by simp [hx]))) (Below.trod laidOut (by kernel_rfl) (of_decide_eq_true (by kernel_rfl)) h1k bel (fun x hx => hlt x (by simp [hx])))
      (Below.trod laidOut (by kernel_rfl) (of_decide_eq_true (by kernel_rfl)) h2k bel (fun x hx => hlt x (by simp [hx])))
  · rw [e1]; rfl

/-- A world for the witness: the settled one, the table (block 0) holding what its initialiser lays. -/
noncomputable def laidWorld (os : Os) : World :=
  { World.holding Tryz.prog os ⟨#[], #[], []⟩ with heap := (World.holding Tryz.prog os ⟨#[], #[], []⟩).heap.modify 0 fun
      | .cells _ t frozen => .cells (tzT.map fun n : Nat => Value.int .u8 (n : Int)).toArray t frozen
      | o => o }
@[reducible] def wArgs : Array Value := #[.slice none 0 0, .slice none 0 0, .slice none 0 0]
theorem laid_met (os : Os) : laidMet Tryz.prog Rows.pastOrderUptoRow.laid ((laidWorld os).forCall (fun _ _ => 0) ⟨#[], wArgs, []⟩).memory :=
  laidMet_of_run' 8 (by kernel_rfl) (by kernel_rfl)
theorem reads (os : Os) {H : Type} (enc : TypeId × Value → H) : ∃ places, DataW.whole enc Tryz.prog ((laidWorld os).forCall (fun _ _ => 0) ⟨#[], wArgs, []⟩).memory Tryz.f5.params.toList Rows.pastOrderSpec.vars false wArgs.toList 8 = some ([.nil, .nil, .nil], [], places) :=
  ⟨[], by kernel_rfl⟩

set_option maxRecDepth 100000 in
theorem lifted (os : Os) (started : os.Started) (H : Type) (enc : TypeId × Value → H) (F : Stop.Interp) :
    ReturnsInHanded {} Tryz.checked os 5 .any ((Rows.OpenSpec.upto Rows.pastOrderSpec).preRow enc Tryz.prog Tryz.f5 Rows.pastOrderUptoRow.domain false Rows.pastOrderUptoRow.laid) (((Rows.OpenSpec.upto Rows.pastOrderSpec).at F).post enc Tryz.prog Tryz.f5 false true false false) := by
  obtain ⟨places, hx⟩ := reads os enc
  refine returnsInHanded_of_row (C := Tryz.checked) (s := Rows.OpenSpec.upto Rows.pastOrderSpec) own started (by kernel_rfl) Tryz.func5
    (witness_row_at (enc := enc) (C := Tryz.checked) false (laidWorld os) wArgs rfl (by kernel_rfl) (by kernel_rfl) (by kernel_rfl)
      (OpenSpec.preRow_of_cond 8 hx (by kernel_rfl) (fun k hk => by cases hk; kernel_rfl) (by kernel_rfl) (laid_met os))) ?_
  intro W base args ds gs before hval hW _ hcond _ hL _ _
  exact contract H enc F W base args ds gs before hval hW (hcond _ rfl) hL

theorem said : Rows.PastOrderUptoSaid :=
  OpenClaim.holds_of_cond 5 Tryz.f5 rfl rfl rfl rfl rfl rfl rfl ⟨rfl, rfl, rfl, rfl, rfl⟩ rfl rfl rfl rfl rfl (by kernel_rfl) Tryz.func5 (by kernel_rfl)
    (of_decide_eq_true (by kernel_rfl)) (by unfold Func.isWrapper; first | (rw [if_pos (by decide +kernel)]; kernel_rfl) | (rw [if_neg (by decide +kernel)]; exact ⟨rfl, rfl⟩))
    (fun os started H enc _ F => by rw [OpenClaim.pre_eq_preRow]; exact lifted os started H enc F)

/-- No parameter wants a stand-in; the program's own looks are off: what the card asks. -/
theorem plain (f : FuncId) (fn : Func) (hf : Tryz.pinned.checked.prog.funcNamed "hearsay/hearsaylaw24.PastOrder" = some f) (hfn : Tryz.pinned.checked.prog.funcs[f]? = some fn) :
    false = Tryz.pinned.checked.prog.looks [] ∧ ∀ (j : Nat) t, fn.params[j]? = some t → Tryz.pinned.checked.prog.wantsStandIn t = false := by
  obtain rfl : f = 5 := Option.some.inj ((show Tryz.prog.funcNamed "hearsay/hearsaylaw24.PastOrder" = some 5 by kernel_rfl).symm.trans hf) |>.symm
  obtain rfl : fn = Tryz.f5 := (Option.some.inj (Tryz.func5.symm.trans hfn)).symm
  refine ⟨by kernel_rfl, fun j t ht => ?_⟩
  rw [Tryz.params5] at ht
  have hm : t ∈ [22, 45, 24] := by simpa using Array.mem_of_getElem? ht
  have hall : ([22, 45, 24].all fun u => !Tryz.prog.wantsStandIn u) = true := by kernel_rfl
  exact (show Tryz.prog.wantsStandIn t = false by simpa using List.all_eq_true.1 hall t hm)
end pastorder
/-- THE SECOND FORM's CARD OF PastOrder. -/
theorem pastOrderUpto_holds : Rows.PastOrderUptoCardSaid :=
  Claim7.holds_tied_plain_at .later [] _ _ _ _ pastorder.said (fun _ h => by cases h) (by kernel_rfl) (fun _ h => by cases h) pastOrderUpto_row_tie rfl ⟨rfl, rfl⟩ (by kernel_rfl) rfl pastorder.plain (by kernel_rfl)
end Go.Proofs.YtcjnbfpkigadeaaGreatDoor
