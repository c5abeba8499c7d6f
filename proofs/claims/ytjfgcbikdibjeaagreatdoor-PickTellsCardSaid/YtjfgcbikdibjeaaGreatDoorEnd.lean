/- From a law's contract to its row, once for all laws of this seat. -/
import Derived.Test.YtjfgcbikdibjeaaGreatDoorBase
import Derived.ProofKit
import Derived.Deep.DeepHandedRow
import Derived.SliceStrings
import Derived.Deep.Grids
import Derived.Test.YtjfgcbikdibjeaaGreatDoorTie
import Derived.Test.YtjfgcbikdibjeaaGreatDoorCards
import Derived.Test.YtjfgcbikdibjeaaGreatDoorShelf
import Derived.PinnedBridge
import Derived.Lib.LaidU8
import Derived.Lib.LaidTab
import Derived.Test.YtjfgcbikdibjeaaGreatDoorWFmt16
import Derived.Lay
import Derived.SevenTiedAt
namespace Go.Proofs.YtjfgcbikdibjeaaGreatDoor
open Go.ChangeShapes Go.WideShapes Go.ChangeAt Go.RowKit
open Go.WideMaps Go.WideElems
open Go.ChangeMaps (setBlock shut_map_nil open_string shut_string keptBut_setBlock frozen?_setBlock heap_setBlock_same)

theorem Tryz.own : ownKnob Tryz.prog.godebug = none := by kernel_rfl
theorem Tryz.laidOut : laidOutB Tryz.prog = true := by kernel_rfl

theorem witness_any {H : Type} {enc : TypeId × Value → H} {C : Checked} {os : Os} {f : FuncId} {fn : Func} {s : OpenSpec} {conds : List PathCond} {apart : Bool} {laid : List (String × DataW Unit)} (w0 : World) (args : Array Value) (hos : w0.os = os)
    (hsh : (w0.forCall (fun _ _ => 0) ⟨#[], args, []⟩).Shaped C.prog)
    (hok : Input.okWideB C.prog (w0.forCall (fun _ _ => 0) ⟨#[], args, []⟩) f ⟨#[], args, []⟩ = true)
    (hrow : s.preRow enc C.prog fn conds apart laid (w0.forCall (fun _ _ => 0) ⟨#[], args, []⟩).memory args) :
    ∃ (w : World) (tape : Tape) (i : Input), w.os = os ∧ (w.forCall tape i).Shaped C.prog ∧ i.vars = [] ∧ Input.okWide C.prog (w.forCall tape i) .any w.heap.size f i ∧
      s.preRow enc C.prog fn conds apart laid (w.forCall tape i).memory i.args ∧ (({} : Assume)).holds C.prog (lone (Frame.enter C.prog f i.args .normal) [] (w.forCall tape i)) :=
  ⟨w0, fun _ _ => 0, ⟨#[], args, []⟩, hos, hsh, (Input.okWide_of_okWideB (base := 0) hok).1, (Input.okWide_of_okWideB hok).2, hrow, by
    simp only [Assume.holds]
    exact ⟨by simp, by simp, fun _ => Modest.zero, by simp, by simp⟩⟩

theorem whole_lt {H : Type} {enc : TypeId × Value → H} {P : Program} {ts : List TypeId} {vs : List String} {apart : Bool} {W : World} {args : List Value} {ds gs : List (DataW H)} {before ps : List MemPlace}
    (hW : DataW.Whole enc P ts vs apart W args ds gs before) (h : ps = before) : ∀ x ∈ ps, x.block < W.heap.size := by
  subst h
  intro x hx
  have := hW.lt x hx
  exact this

theorem sl_of_cells {w : World} {a : Addr} {c : Nat} {xs : List Value} (h : ∀ i x, xs[i]? = some x → w.cell? (a.add i) = some x) : Sl w (.slice (some a) xs.length c) xs := by
  rcases xs with _ | ⟨x0, t⟩
  · exact Or.inl ⟨rfl, Or.inr ⟨a, c, rfl⟩⟩
  · obtain ⟨b, off, sp⟩ := a
    have h0 := h 0 x0 rfl
    simp only [Addr.add, if_true] at h0
    obtain rfl : sp = none := by
      cases sp with
      | none => rfl
      | some y =>
        unfold World.cell? at h0
        split at h0 <;> simp at h0
    have hlt : b < w.heap.size := by
      rcases Nat.lt_or_ge b w.heap.size with hlt | hge
      · exact hlt
      · unfold World.cell? at h0
        rw [Array.getElem?_eq_none hge] at h0
        cases h0
    refine Or.inr ⟨b, off, c, by simp, rfl, hlt, fun i x hx => ?_⟩
    have := h i x hx
    by_cases hi : i = 0
    · subst hi; simpa [Addr.add] using this
    · simpa [Addr.add, hi] using this

theorem sl_of_ints {H : Type} {enc : TypeId × Value → H} {P : Program} {t e : TypeId} {k : IntKind} {W : World} {base : Nat} {v : Value} {d : DataW H} {ps : List MemPlace} (ht : P.underlying t = some (.slice e)) (he : P.underlying e = some (.int k)) (hc : P.cellsOf e = 1)
    (hok : Value.okWide P W .any base t v) (h : DataW.Trod enc P W 0 (fun _ => true) true t v d ps) :
    ∃ xs : List Int, Sl W v (xs.map fun x : Int => Value.int k x) ∧ (∀ x ∈ xs, (Lit.int k x).wf = true) ∧ xs.length ≤ 9223372036854775807 := by
  obtain ⟨a0, len, cap, rfl⟩ := okWide_slice ht hok
  obtain ⟨fuel, hf⟩ := h
  rcases open_ints ht he hc hf with ⟨hcs, _⟩ | ⟨a, len', cap', zs, hcs, _, hl, hm, hz, _, hcell, hwz⟩
  · simp [Value.cells] at hcs
    obtain ⟨rfl, rfl, rfl⟩ := hcs
    exact ⟨[], Or.inl ⟨rfl, Or.inl rfl⟩, by simp, by simp⟩
  · simp [Value.cells] at hcs
    obtain ⟨rfl, rfl, rfl⟩ := hcs
    simp only [if_true] at hz
    have hlen : (zs.take len).length = len := by rw [List.length_take]; omega
    refine ⟨zs.take len, ?_, fun x hx => hwz x (List.mem_of_mem_take hx), by rw [hlen]; unfold maxLen at hm; omega⟩
    have := sl_of_cells (w := W) (a := a) (c := cap) (xs := (zs.take len).map fun x : Int => Value.int k x) (fun i x hx => by
      rw [List.getElem?_map] at hx
      obtain ⟨y, hy, rfl⟩ := Option.map_eq_some_iff.1 hx
      have hi : i < (zs.take len).length := (List.getElem?_eq_some_iff.1 hy).1
      rw [hcell i (by omega)]
      rw [List.getElem?_take, if_pos (by omega)] at hy
      simp [List.getD, hy])
    rw [List.length_map, hlen] at this
    exact this

theorem sl_of_bools {H : Type} {enc : TypeId × Value → H} {P : Program} {t e : TypeId} {W : World} {base : Nat} {v : Value} {d : DataW H} {ps : List MemPlace} (ht : P.underlying t = some (.slice e)) (he : P.underlying e = some .bool) (hc : P.cellsOf e = 1)
    (hok : Value.okWide P W .any base t v) (h : DataW.Trod enc P W 0 (fun _ => true) true t v d ps) :
    ∃ xs : List Bool, Sl W v (xs.map fun x : Bool => Value.bool x) ∧ xs.length ≤ 9223372036854775807 := by
  obtain ⟨a0, len, cap, rfl⟩ := okWide_slice ht hok
  obtain ⟨fuel, hf⟩ := h
  rcases Deep.open_bools ht he hc hf with ⟨hcs, _⟩ | ⟨a, len', cap', F, hcs, _, hl, hm, _, hcell⟩
  · simp [Value.cells] at hcs
    obtain ⟨rfl, rfl, rfl⟩ := hcs
    exact ⟨[], Or.inl ⟨rfl, Or.inl rfl⟩, by simp⟩
  · simp [Value.cells] at hcs
    obtain ⟨rfl, rfl, rfl⟩ := hcs
    refine ⟨(List.range len).map F, ?_, by unfold maxLen at hm; simp; omega⟩
    have := sl_of_cells (w := W) (a := a) (c := cap) (xs := ((List.range len).map F).map fun x : Bool => Value.bool x) (fun i x hx => by
      rw [List.getElem?_map, List.getElem?_map] at hx
      obtain ⟨y, hy, rfl⟩ := Option.map_eq_some_iff.1 hx
      obtain ⟨j, hj, rfl⟩ := Option.map_eq_some_iff.1 hy
      obtain ⟨hi, rfl⟩ := List.getElem?_eq_some_iff.1 hj
      simp at hi
      simp only [List.getElem_range]
      exact hcell i (by omega))
    simpa using this

theorem sl_of_strs {H : Type} {enc : TypeId × Value → H} {P : Program} {t e : TypeId} {W : World} {base : Nat} {v : Value} {d : DataW H} {ps : List MemPlace} (ht : P.underlying t = some (.slice e)) (he : P.underlying e = some .string) (hc : P.cellsOf e = 1)
    (hok : Value.okWide P W .any base t v) (h : DataW.Trod enc P W 0 (fun _ => true) true t v d ps) :
    ∃ xs : List (List UInt8), Sl W v (xs.map fun x : List UInt8 => Value.string ⟨x.toArray⟩) ∧ (∀ x ∈ xs, x.length ≤ 9223372036854775807) ∧ xs.length ≤ 9223372036854775807 := by
  obtain ⟨a0, len, cap, rfl⟩ := okWide_slice ht hok
  obtain ⟨fuel, hf⟩ := h
  rcases open_strings ht he hc hf with ⟨hcs, _⟩ | ⟨a, len', cap', zs, hcs, _, hl, hm, hz, _, hcell, hwz⟩
  · simp [Value.cells] at hcs
    obtain ⟨rfl, rfl, rfl⟩ := hcs
    exact ⟨[], Or.inl ⟨rfl, Or.inl rfl⟩, by simp, by simp⟩
  · simp [Value.cells] at hcs
    obtain ⟨rfl, rfl, rfl⟩ := hcs
    simp only [if_true] at hz
    have hlen : (zs.take len).length = len := by rw [List.length_take]; omega
    refine ⟨(zs.take len).map (fun s => s.data.toList), ?_, fun x hx => ?_, by rw [List.length_map, hlen]; unfold maxLen at hm; omega⟩
    · have := sl_of_cells (w := W) (a := a) (c := cap) (xs := ((zs.take len).map (fun s => s.data.toList)).map fun x : List UInt8 => Value.string ⟨x.toArray⟩) (fun i x hx => by
        rw [List.getElem?_map, List.getElem?_map] at hx
        obtain ⟨y, hy, rfl⟩ := Option.map_eq_some_iff.1 hx
        obtain ⟨s, hs, rfl⟩ := Option.map_eq_some_iff.1 hy
        have hi : i < (zs.take len).length := (List.getElem?_eq_some_iff.1 hs).1
        rw [hcell i (by omega)]
        rw [List.getElem?_take, if_pos (by omega)] at hs
        simp [List.getD, hs])
      rw [List.length_map, List.length_map, hlen] at this
      exact this
    · obtain ⟨s, hs, rfl⟩ := List.mem_map.1 hx
      have := hwz s (List.mem_of_mem_take hs)
      unfold maxLen at this
      exact this

theorem int_bounds_i64 {x : Int} (h : (Lit.int .i64 x).wf = true) : -9223372036854775808 ≤ x ∧ x ≤ 9223372036854775807 := by
  simpa [Lit.wf, IntKind.min, IntKind.max, IntKind.signed, IntKind.bits] using h
theorem int_bounds_i32 {x : Int} (h : (Lit.int .i32 x).wf = true) : -2147483648 ≤ x ∧ x ≤ 2147483647 := by
  simpa [Lit.wf, IntKind.min, IntKind.max, IntKind.signed, IntKind.bits] using h
theorem int_bounds_u8 {x : Int} (h : (Lit.int .u8 x).wf = true) : 0 ≤ x ∧ x ≤ 255 := by
  simpa [Lit.wf, IntKind.min, IntKind.max, IntKind.signed, IntKind.bits] using h

theorem trodAll_below {H : Type} {enc : TypeId × Value → H} {P : Program} (hl : laidOutB P = true) {W W' : World} (hb : Below W.heap.size W W') :
    ∀ (ts : List TypeId) (args : List Value) (ds : List (DataW H)) (ps : List MemPlace), (∀ t ∈ ts, P.readableRec t = true ∧ t < P.types.size) →
      DataW.TrodAll enc P W 0 (fun _ => true) true ts args ds ps → (∀ x ∈ ps, x.block < W.heap.size) →
      DataW.TrodAll enc P W' 0 (fun b => decide (b < W.heap.size)) true ts args ds ps := by
  intro ts
  induction ts with
  | nil =>
    intro args ds ps _ h _
    obtain ⟨rfl, rfl, rfl⟩ := trodAll_nil h
    exact trodAll_mk0
  | cons t ts ih =>
    intro args ds ps ht h hlt
    obtain ⟨v0, vs0, d0, ds0, p0, q0, rfl, rfl, rfl, h0, r0⟩ := trodAll_cons h
    have h1 := ht t (by simp)
    exact trodAll_cons_mk (Below.trod hl h1.1 h1.2 h0 hb (fun x hx => hlt x (by simp [hx]))) (ih vs0 ds0 q0 (fun u hu => ht u (by simp [hu])) r0 (fun x hx => hlt x (by simp [hx])))

theorem u8x : U8Extra Tryz.prog Tryz.lays260_ren := ⟨by kernel_rfl, by kernel_rfl, by kernel_rfl, by kernel_rfl, by kernel_rfl, by kernel_rfl, by kernel_rfl⟩
def lst : List (String × DataW Unit) := Rows.pickTellsRow.laid
theorem env_of {W : World} (hL : laidMetH Tryz.prog lst W) (hsh : W.ShapedOpen Tryz.prog) : Env W := by
  rw [MakeChecks.laidMetH_plain _ _ _ (by kernel_rfl)] at hL
  refine ⟨utf8Tabs_of_reads Tryz.lays260 u8x (Pinned.utf8First_eq ▸ Lib.laidMet.reads hL (by first | exact .head _ | exact .tail _ (.head _) | exact .tail _ (.tail _ (.head _)) | exact .tail _ (.tail _ (.tail _ (.head _))) | exact .tail _ (.tail _ (.tail _ (.tail _ (.head _)))))) ?_, hsh⟩
  have h := Lib.laidMet.reads (n := "unicode/utf8.acceptRanges") hL (by first | exact .head _ | exact .tail _ (.head _) | exact .tail _ (.tail _ (.head _)) | exact .tail _ (.tail _ (.tail _ (.head _))) | exact .tail _ (.tail _ (.tail _ (.tail _ (.head _)))))
  exact (show (Rows.laid_unicode_utf8_acceptRanges : DataW Unit) = Lib.acceptData by kernel_rfl) ▸ h
theorem tz_of {W : World} (hL : laidMetH Tryz.prog lst W) : Tz W := by
  rw [MakeChecks.laidMetH_plain _ _ _ (by kernel_rfl)] at hL
  obtain ⟨g, t, cs, fuel, p, hg, hty, hvar, hd⟩ := Lib.laidMet.reads (n := "math/bits.deBruijn64tab") hL (by first | exact .head _ | exact .tail _ (.head _) | exact .tail _ (.tail _ (.head _)) | exact .tail _ (.tail _ (.tail _ (.head _))) | exact .tail _ (.tail _ (.tail _ (.tail _ (.head _)))))
  obtain rfl := Option.some.inj ((show Tryz.prog.globalNamed "math/bits.deBruijn64tab" = some 5 by kernel_rfl).symm.trans hg)
  obtain rfl := Option.some.inj ((show (Tryz.prog.globals[5]?).map (·.type) = some 191 by kernel_rfl).symm.trans hty)
  rw [show (Rows.laid_math_bits_deBruijn64tab : DataW Unit) = Lib.tabData .u8 [0, 1, 56, 2, 57, 49, 28, 3, 61, 58, 42, 50, 38, 29, 17, 4, 62, 47, 59, 36, 45, 43, 51, 22, 53, 39, 33, 30, 24, 18, 12, 5, 63, 55, 48, 27, 60, 41, 37, 16, 46, 35, 44, 21, 52, 32, 23, 11, 54, 26, 40, 15, 34, 20, 31, 10, 25, 14, 19, 9, 13, 8, 7, 6] by kernel_rfl] at hd
  have hcs := Lib.cells_of_tab (n := 64) (e := 5) (by kernel_rfl) (by kernel_rfl) (by kernel_rfl) (by kernel_rfl) hd
  unfold Tz
  rw [World.var?_cell hg hvar 15, ← Array.getElem?_toList, hcs]
  rfl
theorem start_shaped (os : Os) (args : Array Value) : ((World.laidAll Tryz.prog os lst).forCall (fun _ _ => 0) ⟨#[], args, []⟩).Shaped Tryz.prog :=
  World.shaped_of_ZipB (by kernel_rfl) (by kernel_rfl)
theorem start_laid (os : Os) (args : Array Value) : laidMetH Tryz.prog lst ((World.laidAll Tryz.prog os lst).forCall (fun _ _ => 0) ⟨#[], args, []⟩).memory := by
  rw [MakeChecks.laidMetH_plain _ _ _ (by kernel_rfl)]
  exact laidMet_laidAll _ (by kernel_rfl) (by kernel_rfl)

end Go.Proofs.YtjfgcbikdibjeaaGreatDoor
