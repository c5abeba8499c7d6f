/- QuotRows: for every input the law returns true and leaves its arguments as they were. Conditions: none but the row's own (the tables of unicode/utf8 as the program's text lays them, tied).-/
import Derived.Test.YtobojdkloblfbaaDoorLawQuotRows
import Derived.Test.YtobojdkloblfbaaDoorEndB
namespace Go.Proofs.YtobojdkloblfbaaDoor.lawQuotRows
open Go.ChangeShapes Go.WideShapes Go.ChangeAt Go.RowKit Go.Proofs Go.Proofs.YtobojdkloblfbaaDoor Go.Proofs.YtobojdkloblfbaaDoor.U
open Go.WideMaps Go.WideElems
open Go.ChangeMaps (setBlock shut_map_nil open_string shut_string keptBut_setBlock frozen?_setBlock heap_setBlock_same)

theorem reads (os : Os) {H : Type} (enc : TypeId × Value → H) : ∃ places, DataW.whole enc Tryd.prog ((World.laidAll Tryd.prog os lstB).forCall (fun _ _ => 0) ⟨#[], #[.slice none 0 0, .slice none 0 0, .slice none 0 0, .slice none 0 0, .slice none 0 0], []⟩).memory Tryd.f7.params.toList Rows.quotRowsSpec.vars false (#[.slice none 0 0, .slice none 0 0, .slice none 0 0, .slice none 0 0, .slice none 0 0] : Array Value).toList 8 = some ([.nil, .nil, .nil, .nil, .nil], [], places) :=
  ⟨[], by kernel_rfl⟩

set_option maxHeartbeats 2000000 in
set_option maxRecDepth 100000 in
theorem lifted (os : Os) (started : os.Started) (H : Type) (enc : TypeId × Value → H) (F : Stop.Interp) :
    ReturnsInHanded {} Tryd.checked os 7 .any ((OpenSpec.ofChange Rows.quotRowsSpec).preRow enc Tryd.prog Tryd.f7 Rows.quotRowsRow.domain false Rows.quotRowsRow.laid) (((OpenSpec.ofChange Rows.quotRowsSpec).at F).post enc Tryd.prog Tryd.f7 false true false false) := by
  obtain ⟨places, hx⟩ := reads os enc
  refine returnsInHanded_of_row (C := Tryd.checked) (s := OpenSpec.ofChange Rows.quotRowsSpec) Tryd.own started (by kernel_rfl) Tryd.func7
    (witness_any (enc := enc) (C := Tryd.checked) (World.laidAll Tryd.prog os lstB) #[.slice none 0 0, .slice none 0 0, .slice none 0 0, .slice none 0 0, .slice none 0 0] (World.laidAll_os _ _ _) (start_shapedB os _) (by kernel_rfl)
      (OpenSpec.preRow_of_cond 8 hx (by kernel_rfl) (fun k hk => by cases hk) (by kernel_rfl) (start_laidB os _))) ?_
  intro W base args ds gs before hval0 hW _ _ _ hL hsh _
  have hE : Env W := env_ofB hL hsh
  clear hL
  have hval : ∀ (j : Nat) t v, Tryd.f7.params[j]? = some t → args[j]? = some v → Value.okWide Tryd.prog W .any base t v := hval0
  have hW' := hW
  obtain ⟨p, q, hA0, hV, rfl, _, _⟩ := hW
  have hA : DataW.TrodAll enc Tryd.prog W 0 (fun _ => true) true Tryd.f7.params.toList args.toList ds p := hA0
  have hread : ∀ t ∈ Tryd.f7.params.toList, Tryd.prog.readableRec t = true ∧ t < Tryd.prog.types.size := by
    have hall : (Tryd.f7.params.toList.all fun t => Tryd.prog.readableRec t && decide (t < Tryd.prog.types.size)) = true := by kernel_rfl
    intro t ht
    have := List.all_eq_true.1 hall t ht
    simpa using this
  have hA' := hA
  rw [Tryd.params7] at hA hval
  obtain ⟨v0, vs0, d0, ds0, p0, q0, hargs, rfl, rfl, h0, r0⟩ := trodAll_cons hA
  obtain ⟨v1, vs1, d1, ds1, p1, q1, rfl, rfl, rfl, h1, r1⟩ := trodAll_cons r0
  obtain ⟨v2, vs2, d2, ds2, p2, q2, rfl, rfl, rfl, h2, r2⟩ := trodAll_cons r1
  obtain ⟨v3, vs3, d3, ds3, p3, q3, rfl, rfl, rfl, h3, r3⟩ := trodAll_cons r2
  obtain ⟨v4, vs4, d4, ds4, p4, q4, rfl, rfl, rfl, h4, r4⟩ := trodAll_cons r3
  obtain ⟨rfl, rfl, rfl⟩ := trodAll_nil r4
  obtain rfl : args = #[v0, v1, v2, v3, v4] := by cases args; simp_all
  obtain ⟨rfl, rfl⟩ := trodVars_none hV
  obtain ⟨xs0, hsl0, hwf0, hln0⟩ := sl_of_ints (k := .i64) Tryd.underlying31 Tryd.underlying3 (by kernel_rfl) (hval 0 31 v0 rfl rfl) h0
  obtain ⟨xs1, hsl1, hwf1, hln1⟩ := sl_of_ints (k := .i64) Tryd.underlying31 Tryd.underlying3 (by kernel_rfl) (hval 1 31 v1 rfl rfl) h1
  obtain ⟨xs2, hsl2, hwf2, hln2⟩ := sl_of_ints (k := .i64) Tryd.underlying31 Tryd.underlying3 (by kernel_rfl) (hval 2 31 v2 rfl rfl) h2
  obtain ⟨xs3, hsl3, hln3⟩ := sl_of_bools Tryd.underlying39 Tryd.underlying4 (by kernel_rfl) (hval 3 39 v3 rfl rfl) h3
  obtain ⟨xs4, hsl4, hln4⟩ := sl_of_bools Tryd.underlying39 Tryd.underlying4 (by kernel_rfl) (hval 4 39 v4 rfl rfl) h4
  simp only [List.append_nil] at hW'
  refine (quotRows_c xs0 v0 xs1 v1 xs2 v2 xs3 v3 xs4 v4 W hE hsl0 hwf0 hln0 hsl1 hwf1 hln1 hsl2 hwf2 hln2 hsl3 hln3 hsl4 hln4).mono fun e W' ⟨he, hb⟩ => ?_
  subst he
  exact ⟨_, rfl, _, _, _, [], _, [], hW', trodAll_mk1 (shut_bool Tryd.underlying4 true), trodAll_below Tryd.laidOut hb _ _ _ _ hread hA' (whole_lt hW' (by simp)), rfl, hb.frame _, fun h => by cases h⟩

theorem said : Rows.QuotRowsSaid :=
  OpenClaim.holds_of_cond 7 Tryd.f7 rfl rfl rfl rfl rfl rfl rfl ⟨rfl, rfl, rfl, rfl, rfl⟩ rfl rfl rfl rfl rfl (by kernel_rfl) Tryd.func7 (by kernel_rfl)
    (of_decide_eq_true (by kernel_rfl)) (by unfold Func.isWrapper; first | (rw [if_pos (by decide +kernel)]; kernel_rfl) | (rw [if_neg (by decide +kernel)]; exact ⟨rfl, rfl⟩))
    (fun os started H enc _ F => by rw [OpenClaim.pre_eq_preRow]; exact lifted os started H enc F)

theorem plain (f : FuncId) (fn : Func) (hf : Tryd.pinned.checked.prog.funcNamed Rows.quotRowsRow.func = some f) (hfn : Tryd.pinned.checked.prog.funcs[f]? = some fn) :
    false = Tryd.pinned.checked.prog.looks [] ∧ ∀ (j : Nat) t, fn.params[j]? = some t → Tryd.pinned.checked.prog.wantsStandIn t = false := by
  obtain rfl : f = 7 := Option.some.inj ((show Tryd.prog.funcNamed Rows.quotRowsRow.func = some 7 by kernel_rfl).symm.trans hf) |>.symm
  obtain rfl : fn = Tryd.f7 := (Option.some.inj (Tryd.func7.symm.trans hfn)).symm
  refine ⟨by kernel_rfl, fun j t ht => ?_⟩
  rw [Tryd.params7] at ht
  have hm : t ∈ [31, 31, 31, 39, 39] := by simpa using Array.mem_of_getElem? ht
  have hall : ([31, 31, 31, 39, 39].all fun u => !Tryd.prog.wantsStandIn u) = true := by kernel_rfl
  exact (show Tryd.prog.wantsStandIn t = false by simpa using List.all_eq_true.1 hall t hm)

theorem card : Rows.QuotRowsCardSaid :=
  Claim7.holds_tied_plain_at .later [] _ _ _ _ said (fun _ h => by cases h) (by kernel_rfl) (fun _ h => by cases h) quotRows_row_tie rfl ⟨rfl, rfl⟩ (by kernel_rfl) rfl plain (by kernel_rfl)
end Go.Proofs.YtobojdkloblfbaaDoor.lawQuotRows
