/- What all walks of this seat share: how bytes are spelled, what stays true of the world, slices that are only read. -/
import Derived.Test.YtjfgcbikdibjeaaGreatDoorRows
import Derived.Test.YtjfgcbikdibjeaaGreatDoorPAllA
import Derived.WalkKit
import Derived.WalkSpells
import Derived.WalkLawsBesides
import Derived.Handy
import Derived.Deep.Light
import Derived.Lib.Hide
import Derived.Lib.OthersKept
import Derived.Laws.BitsAllLaws
import Derived.ChangeAgain
import Derived.Deep.AppendLies
import Derived.Laws.BytesString
import Derived.Laws.Cells
import Derived.Laws.Cover4
import Derived.Laws.AppendOwnNone
import Derived.WalkSmall
import Derived.Lib.Strings
import Derived.Shelf.Unicode.DecodeSlow
namespace Go.Proofs.YtjfgcbikdibjeaaGreatDoor
open Go.RowKit U

theorem and_c0 : ∀ x : Nat, x < 256 → x &&& 192 = x / 64 * 64 := by decide +kernel
theorem byt_and_c0 (l : List UInt8) (i : Nat) : bits .and .u8 (byt l i : Int) 192 = ((byt l i / 64 * 64 : Nat) : Int) := by
  have h := u8_and_nat (byt l i) 192 (byt_lt l i) (by omega)
  rw [and_c0 _ (byt_lt l i)] at h
  exact h
theorem byt_i32_31 (l : List UInt8) (i : Nat) : bits .and .i32 (byt l i : Int) 31 = (byt l i : Int) % 32 := bits_mask .i32 31 (by decide) wraps_i32 5 (by decide) _ (by omega) (by have := byt_lt l i; omega)
theorem byt_i32_15 (l : List UInt8) (i : Nat) : bits .and .i32 (byt l i : Int) 15 = (byt l i : Int) % 16 := bits_mask .i32 31 (by decide) wraps_i32 4 (by decide) _ (by omega) (by have := byt_lt l i; omega)
theorem byt_i32_7 (l : List UInt8) (i : Nat) : bits .and .i32 (byt l i : Int) 7 = (byt l i : Int) % 8 := bits_mask .i32 31 (by decide) wraps_i32 3 (by decide) _ (by omega) (by have := byt_lt l i; omega)
theorem byt_u8_63 (l : List UInt8) (i : Nat) : bits .and .u8 (byt l i : Int) 63 = (byt l i : Int) % 64 := u8_and63 _ (by omega) (by have := byt_lt l i; omega)
theorem app_mk (a b : List UInt8) : ((⟨a.toArray⟩ : ByteArray) ++ (⟨b.toArray⟩ : ByteArray)) = ⟨(a ++ b).toArray⟩ := by
  rw [ByteArray.ext_iff]
  simp
attribute [go_sem] app_mk
attribute [go_sem] byt_mk byt_and_c0 byt_i32_31 byt_i32_15 byt_i32_7 byt_u8_63

theorem ret_ii {a b c d : Int} (h1 : a = c) (h2 : b = d) : Ending.returned (.tuple #[.int .i32 a, .int .i64 b]) = .returned (.tuple #[.int .i32 c, .int .i64 d]) := by rw [h1, h2]
theorem ret_ll {a b c d : Int} (h1 : a = c) (h2 : b = d) : Ending.returned (.tuple #[.int .i64 a, .int .i64 b]) = .returned (.tuple #[.int .i64 c, .int .i64 d]) := by rw [h1, h2]
theorem ret_int {k : IntKind} {a b : Int} (h : a = b) : Ending.returned (.int k a) = .returned (.int k b) := by rw [h]
theorem ret_bool {a b : Bool} (h : a = b) : Ending.returned (.bool a) = .returned (.bool b) := by rw [h]
theorem ret_str {a b : List UInt8} (h : a = b) : Ending.returned (.string ⟨a.toArray⟩) = .returned (.string ⟨b.toArray⟩) := by rw [h]

/-- What holds of the world from the start on, whatever the calls do. -/
structure Env (w : World) : Prop where
  tabs : Lib.Utf8Tabs 0 1 w
  shaped : w.ShapedOpen Tryz.prog

theorem Env.below {w w' : World} (h : Env w) (hb : Below w.heap.size w w') : Env w' :=
  {
    tabs := Utf8Tabs_below h.tabs hb
    shaped := h.shaped.keptBut (hb.frame (fun _ => False)) (fun _ hp => hp.elim) }

/-- A slice that reads as these cells. -/
def Sl (w : World) (v : Value) (xs : List Value) : Prop :=
  (xs = [] ∧ (v = .slice none 0 0 ∨ ∃ ad c, v = .slice (some ad) 0 c)) ∨ (∃ b off c, xs ≠ [] ∧ v = .slice (some ⟨b, off, none⟩) xs.length c ∧ b < w.heap.size ∧ ∀ i x, xs[i]? = some x → w.cell? ⟨b, off + i, none⟩ = some x)

theorem Sl.below {w w' : World} {v : Value} {xs : List Value} (h : Sl w v xs) (hb : Below w.heap.size w w') : Sl w' v xs := by
  rcases h with h | ⟨b, off, c, h0, h1, h2, h3⟩
  · exact Or.inl h
  · exact Or.inr ⟨b, off, c, h0, h1, Nat.lt_of_lt_of_le h2 hb.size, fun i x hx => (hb.cell (p := ⟨b, off + i, none⟩) h2).trans (h3 i x hx)⟩

theorem Sl.own {w : World} {base : Nat} {e : TypeId} {v : Value} {n : Nat} {xs : List Value} (h : w.ownsRow base e 1 v n xs) : Sl w v xs := by
  have hl : xs.length = n := by have := h.1; omega
  rcases Nat.eq_zero_or_pos n with h0 | h0
  · left
    subst h0
    refine ⟨List.eq_nil_of_length_eq_zero hl, ?_⟩
    rcases h.2 with ⟨rfl, _⟩ | ⟨g, cap, cur, rfl, _⟩
    · exact Or.inl rfl
    · exact Or.inr ⟨_, _, rfl⟩
  · right
    obtain ⟨g, cap, hv, _, hlt⟩ := h.form h0
    refine ⟨g, 0, cap, by intro hx; rw [hx] at hl; simp at hl; omega, by rw [hl]; exact hv, hlt, fun i x hx => ?_⟩
    have hh := h.cells (g := g) (by rw [hv]; rfl) i x hx
    by_cases hi : i = 0
    · subst hi; simpa [Addr.add] using hh
    · simpa [Addr.add, hi] using hh

def i32s (xs : List Int) : List Value := xs.map fun r : Int => Value.int .i32 r
theorem i32s_length (xs : List Int) : (i32s xs).length = xs.length := by simp [i32s]
theorem i32s_snoc (xs : List Int) (r : Int) : i32s (xs ++ [r]) = i32s xs ++ [.int .i32 r] := by simp [i32s]
theorem i32s_get {xs : List Int} {i : Nat} (h : i < xs.length) : (i32s xs)[i]? = some (.int .i32 (xs[i]'h)) := by simp [i32s, h]

/-- It returns a row of its own that reads as these cells; what was there is as it was. -/
def RetRow (w : World) (E : TypeId) (xs : List Value) (e : Ending) (w' : World) : Prop :=
  ∃ a c, e = .returned (.slice a xs.length c) ∧ w'.ownsRow w.heap.size E 1 (.slice a xs.length c) xs.length xs ∧ Below w.heap.size w w'

theorem own_shape {w : World} {B : Nat} {e : TypeId} {s : Nat} {v : Value} {n : Nat} {xs : List Value} (h : w.ownsRow B e s v n xs) : ∃ a c, v = .slice a n c := by
  rcases h.2 with ⟨rfl, rfl⟩ | ⟨g, cap, cur, rfl, _⟩
  · exact ⟨_, _, rfl⟩
  · exact ⟨_, _, rfl⟩
theorem retRow_of {w w' : World} {E : TypeId} {v : Value} {n : Nat} {xs : List Value} (hn : xs.length = n) (hown : w'.ownsRow w.heap.size E 1 v n xs) (hb : Below w.heap.size w w') : RetRow w E xs (.returned v) w' := by
  subst hn
  obtain ⟨a, c, rfl⟩ := own_shape hown
  exact ⟨a, c, rfl, hown, hb⟩

theorem own_nil (w : World) (B : Nat) (E : TypeId) : w.ownsRow B E 1 (.slice none 0 0) 0 [] := ⟨by simp, .inl ⟨rfl, rfl⟩⟩

/-- One cell just made. -/
theorem new_one (w : World) (E : TypeId) (x : Value) : ∀ j u, [x][j]? = some u → (w.alloc (.cells #[x] E)).cell? ((⟨w.heap.size, 0, none⟩ : Addr).add j) = some u := by
  intro j u hj
  match j, hj with
  | 0, hj =>
    simp at hj
    subst hj
    simp [Addr.add]
  | j + 1, hj => simp at hj

theorem below_app {B : Nat} {w wr w1 : World} {v : Value} {n : Nat} {xs : List Value} {e : TypeId} {o : Obj} (hb : Below B w wr) (hB : B ≤ wr.heap.size) (hown : wr.ownsRow B e 1 v n xs)
    (hg : (wr.alloc o).grownBy w1 v.ownBlock) : Below B w w1 :=
  (hb.alloc hB o).grown hg (by simp; omega) (fun k hk => (hown.lt k hk).1)

/-- 'v = append(v, y)' onto a row of the call's own: y's cell has just been made. -/
theorem wpList_push {P : Program} {ops : Array Oper} {rest : List Oper} {o : Oper} {a : Act} {Q : Exit → Act → World → Prop} {w0 wr : World} (hgd : o.guard = none) (s x : Operand) (t : TypeId)
    (ho : o.op = .call { callee := .builtin .append, args := #[s, x], argTypes := #[t, t] })
    (B : Nat) (e : TypeId) (i : TypeInfo) (z : Value) (bytes : Nat) (ht : P.underlying t = some (.slice e)) (hi : P.info? e = some i) (hz : i.zero = some z)
    (hsize : i.size = 1) (hby : i.bytes = bytes) (hzs : z.cells.size = 1)
    (v : Value) (n : Nat) (xs : List Value) (y : Value) (hs : a.eval s = v) (hown : wr.ownsRow B e 1 v n xs) (hx : a.eval x = .slice (some ⟨wr.heap.size, 0, none⟩) 1 1) (hy : y.oneCell' = true)
    (h63 : n + 1 ≤ maxLen) (hbytes : (n + 1) * bytes ≤ 140737488355328) (hb : Below B w0 wr) (hB : B ≤ wr.heap.size)
    (h : ∀ v' w', w'.ownsRow B e 1 v' (n + 1) (xs ++ [y]) → Below B w0 w' → wpList P ops Q rest (a.put o.dst v') w') : wpList P ops Q (o :: rest) a (wr.alloc (.cells #[y] e)) := by
  refine wpList_append_own _ hgd s x t ho B e i z 1 bytes ht hi hz hsize hby hzs (by omega) v n xs hs (hown.alloc _) ⟨wr.heap.size, 0, none⟩ 1 1 [y] hx rfl (new_one wr e y) ?_ h63 hbytes ?_ ?_
  · intro u hu
    simp at hu
    subst hu
    exact hy
  · simp; omega
  · intro v' w' h1 h2 _
    exact h v' w' h1 (below_app hb hB hown h2)

theorem Sl.form {w : World} {v : Value} {xs : List Value} (h : Sl w v xs) : ∃ a n c, v = .slice a n c := by
  rcases h with ⟨_, rfl | ⟨_, _, rfl⟩⟩ | ⟨_, _, _, _, rfl, _⟩
  · exact ⟨_, _, _, rfl⟩
  · exact ⟨_, _, _, rfl⟩
  · exact ⟨_, _, _, rfl⟩
theorem Sl.load {P : Program} {w : World} {a : Option Addr} {n c : Nat} {xs : List Value} (h : Sl w (.slice a n c) xs) : n = xs.length ∧ (xs ≠ [] → ∃ ad, a = some ad ∧ (loadCells ad n).run P w = .ok xs.toArray w) := by
  rcases h with ⟨rfl, hv | ⟨ad, c', hv⟩⟩ | ⟨b, off, c', h0, hv, _, h3⟩
  · injection hv with _ hn _
    subst hn
    exact ⟨rfl, fun h => absurd rfl h⟩
  · injection hv with _ hn _
    subst hn
    exact ⟨rfl, fun h => absurd rfl h⟩
  · injection hv with ha hn _
    subst ha hn
    refine ⟨rfl, fun _ => ⟨_, rfl, ?_⟩⟩
    refine run_loadCells_list _ _ xs fun j v hj => ?_
    rw [← h3 j v hj]
    by_cases hj0 : j = 0
    · subst hj0; simp [Addr.add]
    · simp [Addr.add, hj0]

theorem push_all : ∀ (l : List UInt8) (s : ByteArray), (l.map fun b : UInt8 => (b.toNat : Int)).foldl (fun r n => r.push (UInt8.ofNat n.toNat)) s = ⟨(s.data.toList ++ l).toArray⟩
  | [], s => by simp
  | b :: l, s => by
    simp only [List.map_cons, List.foldl_cons]
    rw [push_all l]
    simp [ByteArray.push]

/-- 'string(b)': the slice's bytes. -/
theorem run_str_of {P : Program} {w : World} (src dst e : TypeId) (v : Value) (l : List UInt8) (h : Sl w v (Lib.byteCells l))
    (hs : P.underlying src = some (.slice e)) (he : P.underlying e = some (.int .u8)) (hd : P.underlying dst = some .string) :
    (convert src dst v).run P w = .ok (.string ⟨l.toArray⟩) w := by
  rcases l with _ | ⟨b, t⟩
  · rcases h with ⟨_, rfl | ⟨ad, c, rfl⟩⟩ | ⟨_, _, _, h0, _⟩
    · rw [run_convert_bytes_string w src dst e none 0 0 hs he hd]
      rfl
    · rw [run_convert_bytes_string w src dst e (some ad) 0 c hs he hd]
      have := run_bytesToString (P := P) w ad 0 c [] (by rfl)
      exact this
    · exact absurd rfl h0
  · obtain ⟨a, n, c, rfl⟩ := h.form
    obtain ⟨_, hl0⟩ := h.load (P := P)
    obtain ⟨ad, rfl, hl⟩ := hl0 (by simp [Lib.byteCells])
    rw [run_convert_bytes_string w src dst e _ n c hs he hd]
    have hm : Lib.byteCells (b :: t) = ((b :: t).map fun b : UInt8 => (b.toNat : Int)).map (Value.int .u8) := by simp [Lib.byteCells]
    rw [hm] at hl
    rw [run_bytesToString (P := P) w ad n c _ hl, push_all]
    rfl

theorem sl_new {w : World} {e : TypeId} (xs : List Value) (h : xs ≠ []) : Sl (w.alloc (.cells xs.toArray e)) (.slice (some ⟨w.heap.size, 0, none⟩) xs.length xs.length) xs := by
  refine Or.inr ⟨_, _, _, h, rfl, by simp, fun i x hx => ?_⟩
  simp [World.cell?, World.alloc, -World.alloc_eq]
  exact hx

theorem run_str1 {P : Program} (w : World) (src dst e : TypeId) (a : Int) (ha0 : 0 ≤ a) (ha : a < 256) (hs : P.underlying src = some (.slice e)) (he : P.underlying e = some (.int .u8)) (hd : P.underlying dst = some .string) :
    (convert src dst (.slice (some ⟨w.heap.size, 0, none⟩) 1 1)).run P (w.alloc (.cells #[.int .u8 a] e)) = .ok (.string ⟨[a.toNat.toUInt8].toArray⟩) (w.alloc (.cells #[.int .u8 a] e)) := by
  have h := run_str_of (P := P) (w := w.alloc (.cells #[.int .u8 a] e)) src dst e (.slice (some ⟨w.heap.size, 0, none⟩) 1 1) [a.toNat.toUInt8] (by
    have := sl_new (w := w) (e := e) [Value.int .u8 a] (by simp)
    have he : Lib.byteCells [a.toNat.toUInt8] = [Value.int .u8 a] := by simp [Lib.byteCells]; omega
    rw [he]; exact this) hs he hd
  exact h
theorem run_str2 {P : Program} (w : World) (src dst e : TypeId) (a b : Int) (ha0 : 0 ≤ a) (ha : a < 256) (hb0 : 0 ≤ b) (hb : b < 256) (hs : P.underlying src = some (.slice e)) (he : P.underlying e = some (.int .u8)) (hd : P.underlying dst = some .string) :
    (convert src dst (.slice (some ⟨w.heap.size, 0, none⟩) 2 2)).run P (w.alloc (.cells #[.int .u8 a, .int .u8 b] e)) = .ok (.string ⟨[a.toNat.toUInt8, b.toNat.toUInt8].toArray⟩) (w.alloc (.cells #[.int .u8 a, .int .u8 b] e)) := by
  have h := run_str_of (P := P) (w := w.alloc (.cells #[.int .u8 a, .int .u8 b] e)) src dst e (.slice (some ⟨w.heap.size, 0, none⟩) 2 2) [a.toNat.toUInt8, b.toNat.toUInt8] (by
    have := sl_new (w := w) (e := e) [Value.int .u8 a, Value.int .u8 b] (by simp)
    have he : Lib.byteCells [a.toNat.toUInt8, b.toNat.toUInt8] = [Value.int .u8 a, Value.int .u8 b] := by simp [Lib.byteCells]; omega
    rw [he]; exact this) hs he hd
  exact h
theorem run_str3 {P : Program} (w : World) (src dst e : TypeId) (a b c : Int) (ha0 : 0 ≤ a) (ha : a < 256) (hb0 : 0 ≤ b) (hb : b < 256) (hc0 : 0 ≤ c) (hc : c < 256) (hs : P.underlying src = some (.slice e)) (he : P.underlying e = some (.int .u8)) (hd : P.underlying dst = some .string) :
    (convert src dst (.slice (some ⟨w.heap.size, 0, none⟩) 3 3)).run P (w.alloc (.cells #[.int .u8 a, .int .u8 b, .int .u8 c] e)) = .ok (.string ⟨[a.toNat.toUInt8, b.toNat.toUInt8, c.toNat.toUInt8].toArray⟩) (w.alloc (.cells #[.int .u8 a, .int .u8 b, .int .u8 c] e)) := by
  have h := run_str_of (P := P) (w := w.alloc (.cells #[.int .u8 a, .int .u8 b, .int .u8 c] e)) src dst e (.slice (some ⟨w.heap.size, 0, none⟩) 3 3) [a.toNat.toUInt8, b.toNat.toUInt8, c.toNat.toUInt8] (by
    have := sl_new (w := w) (e := e) [Value.int .u8 a, Value.int .u8 b, Value.int .u8 c] (by simp)
    have he : Lib.byteCells [a.toNat.toUInt8, b.toNat.toUInt8, c.toNat.toUInt8] = [Value.int .u8 a, Value.int .u8 b, Value.int .u8 c] := by simp [Lib.byteCells]; omega
    rw [he]; exact this) hs he hd
  exact h
theorem run_str4 {P : Program} (w : World) (src dst e : TypeId) (a b c d : Int) (ha0 : 0 ≤ a) (ha : a < 256) (hb0 : 0 ≤ b) (hb : b < 256) (hc0 : 0 ≤ c) (hc : c < 256) (hd0 : 0 ≤ d) (hd1 : d < 256) (hs : P.underlying src = some (.slice e)) (he : P.underlying e = some (.int .u8)) (hd : P.underlying dst = some .string) :
    (convert src dst (.slice (some ⟨w.heap.size, 0, none⟩) 4 4)).run P (w.alloc (.cells #[.int .u8 a, .int .u8 b, .int .u8 c, .int .u8 d] e)) = .ok (.string ⟨[a.toNat.toUInt8, b.toNat.toUInt8, c.toNat.toUInt8, d.toNat.toUInt8].toArray⟩) (w.alloc (.cells #[.int .u8 a, .int .u8 b, .int .u8 c, .int .u8 d] e)) := by
  have h := run_str_of (P := P) (w := w.alloc (.cells #[.int .u8 a, .int .u8 b, .int .u8 c, .int .u8 d] e)) src dst e (.slice (some ⟨w.heap.size, 0, none⟩) 4 4) [a.toNat.toUInt8, b.toNat.toUInt8, c.toNat.toUInt8, d.toNat.toUInt8] (by
    have := sl_new (w := w) (e := e) [Value.int .u8 a, Value.int .u8 b, Value.int .u8 c, Value.int .u8 d] (by simp)
    have he : Lib.byteCells [a.toNat.toUInt8, b.toNat.toUInt8, c.toNat.toUInt8, d.toNat.toUInt8] = [Value.int .u8 a, Value.int .u8 b, Value.int .u8 c, Value.int .u8 d] := by simp [Lib.byteCells]; omega
    rw [he]; exact this) hs he hd
  exact h

/-- One step of 'for i, r := range s'. -/
theorem range_at (P : Program) {w wr : World} {k B : Nat} {l : List UInt8} {pos : Nat} (hit : wr.heap[k]? = some (.stringIter ⟨l.toArray⟩ pos)) (hlt : pos < l.length) (hb : Below B w wr) (hk : B ≤ k) :
    ∃ r n, Hid (dec (l.drop pos) = (r, n)) ∧ Hid (units pos (l.drop pos) = (pos, r, n) :: units (pos + n) (l.drop (pos + n))) ∧ 1 ≤ n ∧ pos + n ≤ l.length ∧ r ≤ 1114111 ∧
      (∀ ty, (Instr.next (.pointer (some ⟨k, 0, none⟩)) true ty).run P wr = .ok (.tuple #[.bool true, .int .i64 pos, .int .i32 r]) (wr.iterAt k ⟨l.toArray⟩ (pos + n))) ∧
      (wr.iterAt k ⟨l.toArray⟩ (pos + n)).heap[k]? = some (.stringIter ⟨l.toArray⟩ (pos + n)) ∧ Below B w (wr.iterAt k ⟨l.toArray⟩ (pos + n)) ∧ k < wr.heap.size ∧ (wr.iterAt k ⟨l.toArray⟩ (pos + n)).heap.size = wr.heap.size := by
  have hne : l.drop pos ≠ [] := by simp; omega
  have hu := units_cons pos (l.drop pos) hne
  have hw1 := dec_w_pos (l.drop pos)
  have hw2 := dec_w_le (l.drop pos) hne
  have hr := dec_r_le (l.drop pos)
  rw [List.length_drop] at hw2
  obtain ⟨r, n, hd⟩ : ∃ r n, dec (l.drop pos) = (r, n) := ⟨_, _, rfl⟩
  rw [hd] at hu hw1 hw2 hr
  simp only [List.drop_drop] at hu hw1 hw2 hr
  refine ⟨r, n, Lib.hid hd, Lib.hid hu, hw1, by omega, hr, fun ty => ?_, Lib.iterAt_heap wr k ⟨l.toArray⟩ pos (pos + n) hit, Lib.below_iterAt hb hk ⟨l.toArray⟩ (pos + n), (Array.getElem?_eq_some_iff.1 hit).1, Lib.iterAt_size _ _ _ _⟩
  have h := Lib.run_next_any_at (P := P) wr k ⟨l.toArray⟩ pos ty hit hlt
  rw [decode_mk, hd] at h
  exact h
theorem range_end (P : Program) {wr : World} {k : Nat} {l : List UInt8} {pos : Nat} (hit : wr.heap[k]? = some (.stringIter ⟨l.toArray⟩ pos)) (hlt : ¬ pos < l.length) :
    ∀ ty, (Instr.next (.pointer (some ⟨k, 0, none⟩)) true ty).run P wr = .ok (.tuple #[.bool false]) wr := fun ty => Lib.run_next_end_at wr k ⟨l.toArray⟩ pos ty hit hlt
theorem units_end {l : List UInt8} {pos : Nat} (h : ¬ pos < l.length) : units pos (l.drop pos) = [] := by rw [List.drop_eq_nil_of_le (by omega)]; rfl

theorem ext_mk (l : List UInt8) (a b : Nat) : (⟨l.toArray⟩ : ByteArray).extract a b = ⟨((l.drop a).take (b - a)).toArray⟩ := Lib.extract_eq _ a b
theorem ext_end (l : List UInt8) (a : Nat) : (⟨l.toArray⟩ : ByteArray).extract a l.length = ⟨(l.drop a).toArray⟩ := by
  rw [ext_mk, List.take_of_length_le (by simp)]
theorem ext_zero (l : List UInt8) (b : Nat) : (⟨l.toArray⟩ : ByteArray).extract 0 b = ⟨(l.take b).toArray⟩ := by
  rw [ext_mk]; simp
attribute [go_sem] ext_mk
attribute [go_sem high] ext_end ext_zero

theorem own_mono {w : World} {B B' : Nat} {e : TypeId} {s : Nat} {v : Value} {n : Nat} {xs : List Value} (h : w.ownsRow B e s v n xs) (hB : B' ≤ B) : w.ownsRow B' e s v n xs := by
  obtain ⟨h1, h2⟩ := h
  refine ⟨h1, ?_⟩
  rcases h2 with h2 | ⟨g, cap, cur, a, b, c⟩
  · exact .inl h2
  · exact .inr ⟨g, cap, cur, a, Nat.le_trans hB b, c⟩

/-- A slice of numbers of one kind, opened: its length, and where each number lies. -/
theorem Sl.ints {w : World} {v : Value} {k : IntKind} {xs : List Int} (h : Sl w v (xs.map (Value.int k))) :
    ∃ a c, v = .slice a xs.length c ∧ (∀ (i : Nat) (hi : i < xs.length), ∃ b off, a = some ⟨b, off, none⟩ ∧ b < w.heap.size ∧ w.cell? ⟨b, off + i, none⟩ = some (.int k (xs[i]'hi))) := by
  rcases h with ⟨hx, rfl | ⟨ad, c, rfl⟩⟩ | ⟨b, off, c, hne, rfl, hb, hcell⟩
  · obtain rfl : xs = [] := by simpa using hx
    exact ⟨_, _, rfl, fun i hi => by simp at hi⟩
  · obtain rfl : xs = [] := by simpa using hx
    exact ⟨_, _, rfl, fun i hi => by simp at hi⟩
  · exact ⟨_, _, by rw [List.length_map], fun i hi => ⟨b, off, rfl, hb, hcell i _ (by simp [hi])⟩⟩

theorem encode_mk (r : Int) : Utf8.encode r = ⟨(Lib.encodeRune r).toArray⟩ := by
  unfold Utf8.encode Lib.encodeRune Lib.encodeRuneZ
  have hv : Utf8.valid r = (decide ((0 ≤ r ∧ r < 55296) ∨ (57344 ≤ r ∧ r ≤ 1114111))) := by
    simp [Utf8.valid, Bool.decide_or, Bool.decide_and]
  rw [hv]
  by_cases h : (0 ≤ r ∧ r < 55296) ∨ (57344 ≤ r ∧ r ≤ 1114111)
  · obtain ⟨n, rfl⟩ := Int.eq_ofNat_of_zero_le (show 0 ≤ r by omega)
    simp only [h, decide_true, if_true, Int.toNat_natCast]
    by_cases h1 : n < 128
    · rw [if_pos h1, if_pos (by omega)]; simp
    · by_cases h2 : n < 2048
      · rw [if_neg h1, if_pos h2, if_neg (by omega), if_pos (by omega)]
        simp only [List.map_cons, List.map_nil]
        congr 2
      · by_cases h3 : n < 65536
        · rw [if_neg h1, if_neg h2, if_pos h3, if_neg (by omega), if_neg (by omega), if_pos (by omega)]
          simp only [List.map_cons, List.map_nil]
          congr 2
        · rw [if_neg h1, if_neg h2, if_neg h3, if_neg (by omega), if_neg (by omega), if_neg (by omega), if_pos (by omega)]
          simp only [List.map_cons, List.map_nil]
          congr 2
  · simp only [h, decide_false, Bool.false_eq_true, if_false]
    rw [if_neg (show ¬ (0 ≤ r ∧ r ≤ 127) by omega), if_neg (show ¬ (128 ≤ r ∧ r ≤ 2047) by omega), if_neg (show ¬ ((2048 ≤ r ∧ r < 55296) ∨ (57343 < r ∧ r ≤ 65535)) by omega), if_neg (show ¬ (65536 ≤ r ∧ r ≤ 1114111) by omega)]
    decide

theorem runesBytes_mk (xs : List Int) : runesBytes xs = ⟨(enc xs).toArray⟩ := by
  have h : ∀ (xs : List Int) (s : List UInt8), xs.foldl (fun r n => r ++ Utf8.encode n) (⟨s.toArray⟩ : ByteArray) = ⟨(s ++ enc xs).toArray⟩ := by
    intro xs
    induction xs with
    | nil => intro s; simp [enc]
    | cons x xs ih =>
      intro s
      rw [List.foldl_cons, encode_mk, app_mk, ih]
      simp [enc]
  exact h xs []

/-- 'string(rs)': the numbers' bytes. -/
theorem run_str_of_runes {P : Program} {w : World} (src dst e : TypeId) (v : Value) (xs : List Int) (h : Sl w v (i32s xs))
    (hs : P.underlying src = some (.slice e)) (he : P.underlying e = some (.int .i32)) (hd : P.underlying dst = some .string) :
    (convert src dst v).run P w = .ok (.string ⟨(enc xs).toArray⟩) w := by
  rcases xs with _ | ⟨b, t⟩
  · rcases h with ⟨_, rfl | ⟨ad, c, rfl⟩⟩ | ⟨_, _, _, h0, _⟩
    · rw [run_convert_runes_string w src dst e none 0 0 hs he hd]
      rfl
    · rw [run_convert_runes_string w src dst e (some ad) 0 c hs he hd]
      have := run_runesToString (P := P) w ad 0 c [] (by rfl)
      exact this
    · exact absurd rfl h0
  · obtain ⟨a, n, c, rfl⟩ := h.form
    obtain ⟨_, hl0⟩ := h.load (P := P)
    obtain ⟨ad, rfl, hl⟩ := hl0 (by simp [i32s])
    rw [run_convert_runes_string w src dst e _ n c hs he hd]
    rw [run_runesToString (P := P) w ad n c (b :: t) hl, runesBytes_mk]

/-- From the call's beginning on: the world as it stands. -/
structure At (w0 w : World) : Prop where
  start : Env w0
  below : Below w0.heap.size w0 w
theorem At.env {w0 w : World} (h : At w0 w) : Env w := h.start.below h.below
theorem At.refl {w : World} (h : Env w) : At w w := ⟨h, Below.refl _ _⟩
theorem At.step {w0 w w' : World} (h : At w0 w) (hb : Below w.heap.size w w') : At w0 w' := ⟨h.start, h.below.trans (hb.mono h.below.size)⟩
/-- Behind a writer into what the call has made itself. -/
theorem At.on {w0 w w' : World} (h : At w0 w) (hb : Below w0.heap.size w w') : At w0 w' := ⟨h.start, h.below.trans hb⟩
theorem At.alloc {w0 w : World} (h : At w0 w) (o : Obj) : At w0 (w.alloc o) := h.step ((Below.refl _ _).alloc (Nat.le_refl _) _)
theorem At.drewN {w0 w : World} (h : At w0 w) (n : Nat) : At w0 (w.drewN n) := h.step (below_drewN (Below.refl _ _) n)

/-- 'v = append(v, xs...)' onto a row of the call's own: whatever slice xs is. -/
theorem wpList_append_sl {P : Program} {ops : Array Oper} {rest : List Oper} {o : Oper} {a : Act} {Q : Exit → Act → World → Prop} {w0 wr : World} (hgd : o.guard = none) (s x : Operand) (t : TypeId)
    (ho : o.op = .call { callee := .builtin .append, args := #[s, x], argTypes := #[t, t] })
    (B : Nat) (e : TypeId) (i : TypeInfo) (z : Value) (bytes : Nat) (ht : P.underlying t = some (.slice e)) (hi : P.info? e = some i) (hz : i.zero = some z)
    (hsize : i.size = 1) (hby : i.bytes = bytes) (hzs : z.cells.size = 1)
    (v : Value) (n : Nat) (xs : List Value) (src : Value) (news : List Value) (hs : a.eval s = v) (hown : wr.ownsRow B e 1 v n xs) (hx : a.eval x = src) (hsl : Sl wr src news) (h1 : ∀ u ∈ news, u.oneCell' = true)
    (h63 : n + news.length ≤ maxLen) (hbytes : (n + news.length) * bytes ≤ 140737488355328) (hb : Below B w0 wr) (hB : B ≤ wr.heap.size)
    (h : ∀ v' w', w'.ownsRow B e 1 v' (n + news.length) (xs ++ news) → Below B w0 w' → wr.grownBy w' v.ownBlock → wpList P ops Q rest (a.put o.dst v') w') : wpList P ops Q (o :: rest) a wr := by
  have hrow : ∀ k, v.ownBlock = some k → B ≤ k := fun k hk => (hown.lt k hk).1
  rcases hsl with ⟨rfl, rfl | ⟨ad, c, rfl⟩⟩ | ⟨b, off, c, h0, rfl, hbl, hcell⟩
  · refine wpList_append_own_none hgd s x t ho B e i 1 ht hi v n xs hs hown hx ?_
    exact h v wr (by simpa using hown) hb (World.grownBy.refl wr _)
  · refine wpList_append_own _ hgd s x t ho B e i z 1 bytes ht hi hz hsize hby hzs (by omega) v n xs hs hown ad 0 c [] hx rfl (by simp) (by simp) h63 hbytes hB ?_
    intro v' w' h2 h3 _
    exact h v' w' (by simpa using h2) (hb.grown h3 hB hrow) h3
  · refine wpList_append_own _ hgd s x t ho B e i z 1 bytes ht hi hz hsize hby hzs (by omega) v n xs hs hown ⟨b, off, none⟩ news.length c news hx (by simp) ?_ h1 h63 hbytes hB ?_
    · intro j u hj
      by_cases hj0 : j = 0
      · subst hj0; simpa [Addr.add] using hcell 0 u hj
      · simpa [Addr.add, hj0] using hcell j u hj
    · intro v' w' h2 h3 _
      exact h v' w' h2 (hb.grown h3 hB hrow) h3

theorem i32s_one (xs : List Int) : ∀ u ∈ i32s xs, u.oneCell' = true := by
  intro u hu
  obtain ⟨x, _, rfl⟩ := List.mem_map.1 hu
  rfl

/-- An append onto nil writes nothing that was there. -/
theorem below_own {w w' : World} (h : w.grownBy w' (Value.slice none 0 0).ownBlock) : Below w.heap.size w w' := (Below.refl _ _).grown h (Nat.le_refl _) (fun k hk => by simp [Value.ownBlock] at hk)
theorem At.setCell {w0 w : World} (h : At w0 w) {p : Addr} (hp : w0.heap.size ≤ p.block) (u : Value) : At w0 (w.setCell p u) := ⟨h.start, h.below.setCell hp u⟩

/-- An operation under a guard that says yes, as one without a guard. -/
theorem wpList_unguard {P : Program} {ops : Array Oper} {rest : List Oper} {o : Oper} {a : Act} {w : World} {Q : Exit → Act → World → Prop} (hw : Region.wanted o (yielded ops a.tmps) = true)
    (h : wpList P ops Q ({ o with guard := none } :: rest) a w) : wpList P ops Q (o :: rest) a w := by
  unfold wpList at h ⊢
  rw [if_pos hw]
  rw [if_pos (show Region.wanted { o with guard := none } (yielded ops a.tmps) = true from rfl)] at h
  exact h

end Go.Proofs.YtjfgcbikdibjeaaGreatDoor
