/- GraphAll of chapter 7: for every system the law returns true, and the system reads behind the call as it read before. The condition: the second form's own (what comes in holds at most 1048576 values and letters); the row's list (ErrSystem as the program's text lays it), tied by the card. -/
import Derived.Test.YtkknklagoghljaaGreatDoorGraphAll
import Derived.Test.YtkknklagoghljaaGreatDoorOpens
import Derived.Test.YtkknklagoghljaaGreatDoorCards
import Derived.Test.YtkknklagoghljaaGreatDoorTie
import Derived.Deep.DeepHandedRow
import Derived.Stop.LaidErr
import Derived.LaidLaws
import Derived.SevenTiedAt
namespace Go.Proofs.YtkknklagoghljaaGreatDoor
open Go.ChangeShapes Go.WideShapes Go.ChangeAt Go.RowKit
open Go.RowKit (Below)
theorem ownK : ownKnob Tryz.prog.godebug = none := by kernel_rfl
theorem gSys : Tryz.prog.globalNamed "semblance/api.ErrSystem" = some 0 := by kernel_rfl
theorem gSysType : (Tryz.prog.globals[0]?).map (·.type) = some 28 := by kernel_rfl
theorem cellsErrS : Tryz.prog.cellsOf 231 = 1 := by kernel_rfl
theorem cellsStr : Tryz.prog.cellsOf 9 = 1 := by kernel_rfl
theorem starErr : "*" ++ "errors.errorString" = "*errors.errorString" := by decide
theorem rowErr (u : TypeId) (h : Tryz.prog.typeName? 3 u = some "*errors.errorString") : u = 207 :=
  typeName_ptr_named (nm := "errors.errorString") (by rw [starErr]; kernel_rfl) (by kernel_rfl) (by decide) u (by rw [starErr]; exact h)
/-- What the row's list gives: the variable holds an error. -/
theorem sys_cell {W : World} (h : laidMetH Tryz.prog Rows.graphAllUptoRow.laid W) : ∃ a0, W.cell? ⟨0, 0, none⟩ = some (.iface 207 (.pointer (some a0))) := by
  have h' : laidMet Tryz.prog Rows.graphAllUptoRow.laid W := h
  obtain ⟨a0, s0, hv0, _, _, _⟩ := laid_sentinel h' gSys gSysType Tryz.underlying28 rowErr Tryz.underlying207 Tryz.underlying231 rfl rfl Tryz.underlying9 cellsErrS cellsStr
  exact ⟨a0, by simpa using World.var?_cell gSys hv0 0⟩
theorem sizeT : (decide (24 < Tryz.prog.types.size)) = true := by kernel_rfl
theorem typesGA : ∀ t ∈ Tryz.f3.params.toList, t < Tryz.prog.types.size := by
  rw [Tryz.params3]
  intro t ht
  have e : t = 24 := by simpa using ht
  rw [e]
  exact of_decide_eq_true sizeT
set_option maxRecDepth 100000 in
theorem contractGA (H : Type) (enc : TypeId × Value → H) (W : World) (base : Nat) (args : Array Value) (ds gs : List (DataW H)) (before : List MemPlace)
    (hval : ∀ (j : Nat) t v, Tryz.f3.params[j]? = some t → args[j]? = some v → Value.okWide Tryz.prog W .any base t v)
    (hW : DataW.Whole enc Tryz.prog Tryz.f3.params.toList Rows.graphAllSpec.vars false W args.toList ds gs before) (hL : laidMetH Tryz.prog Rows.graphAllUptoRow.laid W) :
    Calls Tryz.prog 3 args W fun e W' => ∃ v, e = .returned v ∧ Rows.graphAllSpec.post enc Tryz.prog Tryz.f3 false true false false W args v W' := by
  have hW' := hW
  have hlt := fun p hp => hW.lt p hp
  obtain ⟨p, q, hA0, hV, rfl, hfz, hnd⟩ := hW
  have hA : DataW.TrodAll enc Tryz.prog W 0 (fun _ => true) true Tryz.f3.params.toList args.toList ds p := hA0
  obtain ⟨rfl, rfl⟩ := trodVars_none hV
  simp only [List.append_nil] at hW' hlt
  have hA1 := hA
  rw [Tryz.params3] at hA1 hval
  obtain ⟨v0, d0, rfl, rfl, h0⟩ := trodAll_one hA1
  obtain ⟨n, L, st, E, ad, c, rfl, hc, hr, _⟩ := open_sys (hval 0 24 v0 rfl rfl) h0
  obtain ⟨a0, hg⟩ := sys_cell hL
  refine (graphAll_any n L st E ad c _ _ W hr hc hg).mono fun e W' ⟨he, hb⟩ => ?_
  subst he
  exact ⟨_, rfl, post_of_below (pa := p) (pv := []) hW' (fun _ _ _ => trodAll_cons_mk (shut_bool Tryz.underlying4 _) trodAll_mk0)
    (fun sp hsp => args_again hA typesGA hlt hb sp hsp)
    (fun _ _ => rfl) (by simp) hb (ok_one (by kernel_rfl) rfl (okWide_bool_mk Tryz.underlying4 _))⟩
noncomputable def lowB : Nat := (World.holding Tryz.prog default ⟨#[], #[], []⟩).heap.size
noncomputable def sysWorld (os : Os) : World :=
  let w0 := World.holding Tryz.prog os ⟨#[.cells #[.string ⟨#[97, 32, 115, 121, 115, 116, 101, 109, 32, 116, 104, 97, 116, 32, 105, 115, 32, 110, 111, 110, 101]⟩] 231], #[], []⟩
  { w0 with heap := w0.heap.modify 0 fun
      | .cells _ t frozen => .cells #[.iface 207 (.pointer (some ⟨lowB, 0, none⟩))] t frozen
      | o => o }
theorem sys_met (os : Os) (args : Array Value) : laidMet Tryz.prog Rows.graphAllUptoRow.laid ((sysWorld os).forCall (fun _ _ => 0) ⟨#[], args, []⟩).memory :=
  laidMet_of_run (ps := [.cell 0 0, .cell lowB 0]) 8 (by kernel_rfl) (by kernel_rfl) (by kernel_rfl)
def argS : Value := .agg #[.int .i64 0, .int .i64 0, .int .i64 0, .slice none 0 0]
theorem readsGA (os : Os) {H : Type} (enc : TypeId × Value → H) : ∃ places, DataW.whole enc Tryz.prog ((sysWorld os).forCall (fun _ _ => 0) ⟨#[], #[argS], []⟩).memory Tryz.f3.params.toList Rows.graphAllSpec.vars false #[argS].toList 8 =
    some ([.agg [.lit (.int .i64 0), .lit (.int .i64 0), .lit (.int .i64 0), .nil]], [], places) := ⟨[], by kernel_rfl⟩
set_option maxRecDepth 100000 in
theorem liftedGA (os : Os) (started : os.Started) (H : Type) (enc : TypeId × Value → H) (F : Stop.Interp) :
    ReturnsInHanded {} Tryz.checked os 3 .any ((Rows.OpenSpec.upto Rows.graphAllSpec).preRow enc Tryz.prog Tryz.f3 Rows.graphAllUptoRow.domain false Rows.graphAllUptoRow.laid) (((Rows.OpenSpec.upto Rows.graphAllSpec).at F).post enc Tryz.prog Tryz.f3 false true false false) := by
  obtain ⟨places, hx⟩ := readsGA os enc
  refine returnsInHanded_of_row (C := Tryz.checked) (s := Rows.OpenSpec.upto Rows.graphAllSpec) ownK started (by kernel_rfl) Tryz.func3
    (witness_row_at (enc := enc) (C := Tryz.checked) false (sysWorld os) #[argS] rfl (by kernel_rfl) (by kernel_rfl) (by kernel_rfl)
      (OpenSpec.preRow_of_cond 8 hx (by kernel_rfl) (fun k hk => by cases hk; kernel_rfl) (by kernel_rfl) (sys_met os _))) ?_
  intro W base args ds gs before hval hW _ _ _ hL _ _
  exact contractGA H enc W base args ds gs before hval hW hL
theorem saidGA : Rows.GraphAllUptoSaid :=
  OpenClaim.holds_of_cond 3 Tryz.f3 rfl rfl rfl rfl rfl rfl rfl ⟨rfl, rfl, rfl, rfl, rfl⟩ rfl rfl rfl rfl rfl (by kernel_rfl) Tryz.func3 (by kernel_rfl)
    (of_decide_eq_true (by kernel_rfl)) (by unfold Func.isWrapper; first | (rw [if_pos (by decide +kernel)]; kernel_rfl) | (rw [if_neg (by decide +kernel)]; exact ⟨rfl, rfl⟩))
    (fun os started H enc _ F => by rw [OpenClaim.pre_eq_preRow]; exact liftedGA os started H enc F)
theorem plainGA (f : FuncId) (fn : Func) (hf : Tryz.pinned.checked.prog.funcNamed "semblance/semblancelaw7.GraphAll" = some f) (hfn : Tryz.pinned.checked.prog.funcs[f]? = some fn) :
    true = Tryz.pinned.checked.prog.looks [] ∧ ∀ (j : Nat) t, fn.params[j]? = some t → Tryz.pinned.checked.prog.wantsStandIn t = false := by
  obtain rfl : f = 3 := Option.some.inj ((show Tryz.prog.funcNamed "semblance/semblancelaw7.GraphAll" = some 3 by kernel_rfl).symm.trans hf) |>.symm
  obtain rfl : fn = Tryz.f3 := (Option.some.inj (Tryz.func3.symm.trans hfn)).symm
  refine ⟨by kernel_rfl, fun j t ht => ?_⟩
  rw [Tryz.params3] at ht
  obtain rfl : t = 24 := by simpa using Array.mem_of_getElem? ht
  exact (show Tryz.prog.wantsStandIn 24 = false by kernel_rfl)
/-- The second form's card. -/
theorem graphAll_card : Rows.GraphAllUptoCardSaid :=
  Claim7.holds_tied_plain_at .later [] _ _ _ _ saidGA (fun _ h => by cases h) (by kernel_rfl) (fun _ h => by cases h) graphAllUpto_row_tie rfl ⟨rfl, rfl⟩ (by kernel_rfl) rfl plainGA (by kernel_rfl)
end Go.Proofs.YtkknklagoghljaaGreatDoor
