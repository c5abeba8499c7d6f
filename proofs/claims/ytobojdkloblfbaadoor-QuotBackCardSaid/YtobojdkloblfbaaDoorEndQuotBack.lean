/- QuotBack: for every input the law returns true and leaves its arguments as they were. Conditions: none but the row's own (the tables of unicode/utf8 as the program's text lays them, tied).-/
import Derived.Test.YtobojdkloblfbaaDoorLawQuotBack
import Derived.Test.YtobojdkloblfbaaDoorEnd
namespace Go.Proofs.YtobojdkloblfbaaDoor.lawQuotBack
open Go.ChangeShapes Go.WideShapes Go.ChangeAt Go.RowKit Go.Proofs Go.Proofs.YtobojdkloblfbaaDoor Go.Proofs.YtobojdkloblfbaaDoor.U
open Go.WideMaps Go.WideElems
open Go.ChangeMaps (setBlock shut_map_nil open_string shut_string keptBut_setBlock frozen?_setBlock heap_setBlock_same)

theorem reads (os : Os) {H : Type} (enc : TypeId × Value → H) : ∃ places, DataW.whole enc Tryd.prog ((World.laidAll Tryd.prog os lst).forCall (fun _ _ => 0) ⟨#[], #[.slice none 0 0, .bool false, .int .i64 0, .string .empty], []⟩).memory Tryd.f15.params.toList Rows.quotBackSpec.vars false (#[.slice none 0 0, .bool false, .int .i64 0, .string .empty] : Array Value).toList 8 = some ([.nil, .lit (.bool false), .lit (.int .i64 0), .lit (.string [])], [], places) :=
  ⟨[], by kernel_rfl⟩

set_option maxRecDepth 100000 in
theorem lifted (os : Os) (started : os.Started) (H : Type) (enc : TypeId × Value → H) (F : Stop.Interp) :
    ReturnsInHanded {} Tryd.checked os 15 .any ((OpenSpec.ofChange Rows.quotBackSpec).preRow enc Tryd.prog Tryd.f15 Rows.quotBackRow.domain false Rows.quotBackRow.laid) (((OpenSpec.ofChange Rows.quotBackSpec).at F).post enc Tryd.prog Tryd.f15 false true false false) := by
  obtain ⟨places, hx⟩ := reads os enc
  refine returnsInHanded_of_row (C := Tryd.checked) (s := OpenSpec.ofChange Rows.quotBackSpec) Tryd.own started (by kernel_rfl) Tryd.func15
    (witness_any (enc := enc) (C := Tryd.checked) (World.laidAll Tryd.prog os lst) #[.slice none 0 0, .bool false, .int .i64 0, .string .empty] (World.laidAll_os _ _ _) (start_shaped os _) (by kernel_rfl)
      (OpenSpec.preRow_of_cond 8 hx (by kernel_rfl) (fun k hk => by cases hk) (by kernel_rfl) (start_laid os _))) ?_
  intro W base args ds gs before hval0 hW _ _ _ hL hsh _
  have hE : Env W := env_of hL hsh
  have hT : Tz W := tz_of hL
  clear hL
  have hval : ∀ (j : Nat) t v, Tryd.f15.params[j]? = some t → args[j]? = some v → Value.okWide Tryd.prog W .any base t v := hval0
  have hW' := hW
  obtain ⟨p, q, hA0, hV, rfl, _, _⟩ := hW
  have hA : DataW.TrodAll enc Tryd.prog W 0 (fun _ => true) true Tryd.f15.params.toList args.toList ds p := hA0
  have hread : ∀ t ∈ Tryd.f15.params.toList, Tryd.prog.readableRec t = true ∧ t < Tryd.prog.types.size := by
    have hall : (Tryd.f15.params.toList.all fun t => Tryd.prog.readableRec t && decide (t < Tryd.prog.types.size)) = true := by kernel_rfl
    intro t ht
    have := List.all_eq_true.1 hall t ht
    simpa using this
  have hA' := hA
  rw [Tryd.params15] at hA hval
  obtain ⟨v0, vs0, d0, ds0, p0, q0, hargs, rfl, rfl, h0, r0⟩ := trodAll_cons hA
  obtain ⟨v1, vs1, d1, ds1, p1, q1, rfl, rfl, rfl, h1, r1⟩ := trodAll_cons r0
  obtain ⟨v2, vs2, d2, ds2, p2, q2, rfl, rfl, rfl, h2, r2⟩ := trodAll_cons r1
  obtain ⟨v3, vs3, d3, ds3, p3, q3, rfl, rfl, rfl, h3, r3⟩ := trodAll_cons r2
  obtain ⟨rfl, rfl, rfl⟩ := trodAll_nil r3
  obtain rfl : args = #[v0, v1, v2, v3] := by cases args; simp_all
  obtain ⟨rfl, rfl⟩ := trodVars_none hV
  obtain ⟨xs0, hsl0, hwf0, hln0⟩ := sl_of_ints (k := .i64) Tryd.underlying31 Tryd.underlying3 (by kernel_rfl) (hval 0 31 v0 rfl rfl) h0
  obtain ⟨b1, rfl, rfl, rfl⟩ := open_bool Tryd.underlying4 (hval 1 4 v1 rfl rfl) h1
  obtain ⟨x2, rfl, rfl, rfl, wx2⟩ := open_int Tryd.underlying3 (hval 2 3 v2 rfl rfl) h2
  have hx2 := int_bounds_i64 wx2
  obtain ⟨s3, rfl, rfl, rfl, hs3⟩ := open_string Tryd.underlying9 (hval 3 9 v3 rfl rfl) h3
  obtain ⟨l3, rfl⟩ : ∃ l : List UInt8, s3 = ⟨l.toArray⟩ := ⟨s3.data.toList, rfl⟩
  have hl3 : l3.length ≤ 9223372036854775807 := hs3
  simp only [List.append_nil] at hW'
  refine (quotBack_c xs0 v0 b1 x2 l3 W hE hT hsl0 hwf0 hln0 hx2.1 hx2.2 hl3).mono fun e W' ⟨he, hb⟩ => ?_
  subst he
  exact ⟨_, rfl, _, _, _, [], _, [], hW', trodAll_mk1 (shut_bool Tryd.underlying4 true), trodAll_below Tryd.laidOut hb _ _ _ _ hread hA' (whole_lt hW' (by simp)), rfl, hb.frame _, fun h => by cases h⟩

theorem said : Rows.QuotBackSaid :=
  OpenClaim.holds_of_cond 15 Tryd.f15 rfl rfl rfl rfl rfl rfl rfl ⟨rfl, rfl, rfl, rfl, rfl⟩ rfl rfl rfl rfl rfl (by kernel_rfl) Tryd.func15 (by kernel_rfl)
    (of_decide_eq_true (by kernel_rfl)) (by unfold Func.isWrapper; first | (rw [if_pos (by decide +kernel)]; kernel_rfl) | (rw [if_neg (by decide +kernel)]; exact ⟨rfl, rfl⟩))
    (fun os started H enc _ F => by rw [OpenClaim.pre_eq_preRow]; exact lifted os started H enc F)

theorem plain (f : FuncId) (fn : Func) (hf : Tryd.pinned.checked.prog.funcNamed Rows.quotBackRow.func = some f) (hfn : Tryd.pinned.checked.prog.funcs[f]? = some fn) :
    false = Tryd.pinned.checked.prog.looks [] ∧ ∀ (j : Nat) t, fn.params[j]? = some t → Tryd.pinned.checked.prog.wantsStandIn t = false := by
  obtain rfl : f = 15 := Option.some.inj ((show Tryd.prog.funcNamed Rows.quotBackRow.func = some 15 by kernel_rfl).symm.trans hf) |>.symm
  obtain rfl : fn = Tryd.f15 := (Option.some.inj (Tryd.func15.symm.trans hfn)).symm
  refine ⟨by kernel_rfl, fun j t ht => ?_⟩
  rw [Tryd.params15] at ht
  have hm : t ∈ [31, 4, 3, 9] := by simpa using Array.mem_of_getElem? ht
  have hall : ([31, 4, 3, 9].all fun u => !Tryd.prog.wantsStandIn u) = true := by kernel_rfl
  exact (show Tryd.prog.wantsStandIn t = false by simpa using List.all_eq_true.1 hall t hm)

theorem card : Rows.QuotBackCardSaid :=
  Claim7.holds_tied_plain_at .later [] _ _ _ _ said (fun _ h => by cases h) (by kernel_rfl) (fun _ h => by cases h) quotBack_row_tie rfl ⟨rfl, rfl⟩ (by kernel_rfl) rfl plain (by kernel_rfl)
end Go.Proofs.YtobojdkloblfbaaDoor.lawQuotBack
