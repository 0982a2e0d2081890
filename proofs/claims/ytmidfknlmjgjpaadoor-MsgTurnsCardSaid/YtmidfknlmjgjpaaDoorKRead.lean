/- A message among the arguments, opened. (Written by gen_read.py.) -/
import Derived.Test.YtmidfknlmjgjpaaDoorGJ
import Derived.OpenShut
import Derived.ChangeShapes
import Derived.Deep.Slices
namespace Go.Proofs.YtmidfknlmjgjpaaDoor
open Go.RowKit Go.Deep Go.ChangeShapes Go.WideShapes

section
variable {H : Type} {enc : TypeId × Value → H} {W : World} {base : Nat} {sp : Nat → Bool} {held : Bool} {fuel : Nat}

theorem sub_get {cs l : List Value} {a n : Nat} (h : (cs.drop a).take n = l) {i : Nat} {v : Value} (hv : l[i]? = some v) : cs[a + i]? = some v := by
  rw [← h, List.getElem?_take] at hv
  split at hv
  · rwa [List.getElem?_drop] at hv
  · cases hv

theorem u64_of {n : Int} (h : (Lit.int .u64 n).wf = true) : U64 n := ⟨(bounds_u64 h).1, by have := (bounds_u64 h).2; omega⟩

/-- A field of a struct that is read. -/
theorem field_some {P : Program} {cs : List Value} {xs : List (DataW H × List MemPlace)} {fs : Array Field} {n : Nat} (hl : xs.length = fs.size) (hf : ∀ (i : Nat) (f : Field), fs[i]? = some f → DataW.trod enc P W base sp held n f.type ((cs.drop f.offset).take (P.cellsOf f.type)) = xs[i]?)
    (i : Nat) (f : Field) (hi : fs[i]? = some f) : ∃ y, DataW.trod enc P W base sp held n f.type ((cs.drop f.offset).take (P.cellsOf f.type)) = some y := by
  have hlt : i < xs.length := by rw [hl]; exact (Array.getElem?_eq_some_iff.1 hi).1
  exact ⟨_, (hf i f hi).trans (List.getElem?_eq_getElem hlt)⟩

theorem field_int {P : Program} {cs : List Value} {n : Nat} {t : TypeId} {o c : Nat} {k : IntKind} (hu : P.underlying t = some (.int k)) (h : ∃ y, DataW.trod enc P W base sp held n t ((cs.drop o).take c) = some y) : ∃ x, cs[o]? = some (.int k x) ∧ (Lit.int k x).wf = true := by
  obtain ⟨y, h⟩ := h
  obtain ⟨x, h1, _, h2⟩ := DataW.trod_int hu h
  exact ⟨x, sub_get (i := 0) h1 rfl, h2⟩
theorem field_str {P : Program} {cs : List Value} {n : Nat} {t : TypeId} {o c : Nat} (hu : P.underlying t = some .string) (h : ∃ y, DataW.trod enc P W base sp held n t ((cs.drop o).take c) = some y) : ∃ x : ByteArray, cs[o]? = some (.string x) ∧ x.size ≤ maxLen := by
  obtain ⟨y, h⟩ := h
  obtain ⟨x, h1, _, h2⟩ := DataW.trod_string hu h
  exact ⟨x, sub_get (i := 0) h1 rfl, h2⟩

theorem sub_at {cs : List Value} {a n i : Nat} {v : Value} (h : ((cs.drop a).take n)[i]? = some v) : cs[a + i]? = some v := sub_get rfl h

theorem list_by {cs l : List Value} (hl : cs.length = l.length) (h : ∀ (i : Nat) (v : Value), l[i]? = some v → cs[i]? = some v) : cs = l := by
  refine List.ext_getElem? fun i => ?_
  by_cases hi : i < l.length
  · rw [List.getElem?_eq_getElem hi]; exact h i _ (List.getElem?_eq_getElem hi)
  · rw [List.getElem?_eq_none (by omega), List.getElem?_eq_none (by omega)]


/-- An entry's numbers are of their kinds. -/
def Entry.fit (e : Entry) : Prop := e.wf ∧ (∀ x ∈ [e.view, e.op, e.under, e.client, e.session, e.request, e.operation], -9223372036854775808 ≤ x ∧ x ≤ 9223372036854775807)

theorem read_entry {cs : List Value} {x : DataW H × List MemPlace} (h : DataW.trod enc Tryd.prog W base sp held fuel 27 cs = some x) : ∃ e : Entry, cs = (entC e).toList ∧ e.fit := by
  obtain ⟨xs, n, _, _, hl, hx, hf⟩ := DataW.trod_struct Tryd.underlying27 h
  have hl : cs.length = 9 := hl.trans (by kernel_rfl)
  have F := field_some hx hf
  obtain ⟨a0, c0, w0⟩ := field_int Tryd.underlying3 (F 0 _ rfl)
  obtain ⟨a1, c1, w1⟩ := field_int Tryd.underlying3 (F 1 _ rfl)
  obtain ⟨a2, c2, w2⟩ := field_int Tryd.underlying3 (F 2 _ rfl)
  obtain ⟨a3, c3, w3⟩ := field_int Tryd.underlying22 (F 3 _ rfl)
  obtain ⟨a4, c4, w4⟩ := field_int Tryd.underlying3 (F 4 _ rfl)
  obtain ⟨a5, c5, w5⟩ := field_int Tryd.underlying3 (F 5 _ rfl)
  obtain ⟨a6, c6, w6⟩ := field_int Tryd.underlying3 (F 6 _ rfl)
  obtain ⟨a7, c7, w7⟩ := field_int Tryd.underlying3 (F 7 _ rfl)
  obtain ⟨a8, c8, w8⟩ := field_str Tryd.underlying9 (F 8 _ rfl)
  refine ⟨⟨a0, a1, a2, a3, a4, a5, a6, a7, a8⟩, list_by (by rw [hl]; rfl) fun i v hv => ?_, ⟨u64_of w3, w8⟩, ?_⟩
  · match i, hv with
    | 0, hv => exact c0.trans hv
    | 1, hv => exact c1.trans hv
    | 2, hv => exact c2.trans hv
    | 3, hv => exact c3.trans hv
    | 4, hv => exact c4.trans hv
    | 5, hv => exact c5.trans hv
    | 6, hv => exact c6.trans hv
    | 7, hv => exact c7.trans hv
    | 8, hv => exact c8.trans hv
    | i + 9, hv => exact absurd hv (by simp [entC])
  · intro x hx
    simp only [List.mem_cons, List.not_mem_nil, or_false] at hx
    rcases hx with rfl | rfl | rfl | rfl | rfl | rfl | rfl
    · exact bounds_i64 w0
    · exact bounds_i64 w1
    · exact bounds_i64 w2
    · exact bounds_i64 w4
    · exact bounds_i64 w5
    · exact bounds_i64 w6
    · exact bounds_i64 w7

def Stub.fit (s : Stub) : Prop := U64 s.parent ∧ U64 s.sum ∧ ∀ x ∈ [s.op, s.view, s.under], -9223372036854775808 ≤ x ∧ x ≤ 9223372036854775807
theorem read_stub {cs : List Value} {x : DataW H × List MemPlace} (h : DataW.trod enc Tryd.prog W base sp held fuel 66 cs = some x) : ∃ e : Stub, cs = (stubC e).toList ∧ e.fit := by
  obtain ⟨xs, n, _, _, hl, hx, hf⟩ := DataW.trod_struct Tryd.underlying66 h
  have hl : cs.length = 5 := hl.trans (by kernel_rfl)
  have F := field_some hx hf
  obtain ⟨a0, c0, w0⟩ := field_int Tryd.underlying3 (F 0 _ rfl)
  obtain ⟨a1, c1, w1⟩ := field_int Tryd.underlying3 (F 1 _ rfl)
  obtain ⟨a2, c2, w2⟩ := field_int Tryd.underlying3 (F 2 _ rfl)
  obtain ⟨a3, c3, w3⟩ := field_int Tryd.underlying22 (F 3 _ rfl)
  obtain ⟨a4, c4, w4⟩ := field_int Tryd.underlying22 (F 4 _ rfl)
  refine ⟨⟨a0, a1, a2, a3, a4⟩, list_by (by rw [hl]; rfl) fun i v hv => ?_, u64_of w3, u64_of w4, ?_⟩
  · match i, hv with
    | 0, hv => exact c0.trans hv
    | 1, hv => exact c1.trans hv
    | 2, hv => exact c2.trans hv
    | 3, hv => exact c3.trans hv
    | 4, hv => exact c4.trans hv
    | i + 5, hv => exact absurd hv (by simp [stubC])
  · intro x hx
    simp only [List.mem_cons, List.not_mem_nil, or_false] at hx
    rcases hx with rfl | rfl | rfl
    · exact bounds_i64 w0
    · exact bounds_i64 w1
    · exact bounds_i64 w2

def Item.fit (t : Item) : Prop := t.stub.fit ∧ t.entry.fit ∧ -9223372036854775808 ≤ t.kind ∧ t.kind ≤ 9223372036854775807
theorem read_item {cs : List Value} {x : DataW H × List MemPlace} (h : DataW.trod enc Tryd.prog W base sp held fuel 68 cs = some x) : ∃ t : Item, cs = (itemC t).toList ∧ t.fit := by
  obtain ⟨xs, n, _, _, hl, hx, hf⟩ := DataW.trod_struct Tryd.underlying68 h
  have hl : cs.length = 15 := hl.trans (by kernel_rfl)
  have F := field_some hx hf
  obtain ⟨a0, c0, w0⟩ := field_int Tryd.underlying3 (F 0 _ rfl)
  obtain ⟨y1, h1⟩ := F 1 _ rfl
  obtain ⟨s, e1, f1⟩ := read_stub h1
  obtain ⟨y2, h2⟩ := F 2 _ rfl
  obtain ⟨e, e2, f2⟩ := read_entry h2
  refine ⟨⟨a0, s, e⟩, list_by (by rw [hl]; rfl) fun i v hv => ?_, f1, f2, bounds_i64 w0⟩
  match i, hv with
  | 0, hv => exact c0.trans hv
  | 1, hv => exact sub_get (i := 0) e1 hv
  | 2, hv => exact sub_get (i := 1) e1 hv
  | 3, hv => exact sub_get (i := 2) e1 hv
  | 4, hv => exact sub_get (i := 3) e1 hv
  | 5, hv => exact sub_get (i := 4) e1 hv
  | 6, hv => exact sub_get (i := 0) e2 hv
  | 7, hv => exact sub_get (i := 1) e2 hv
  | 8, hv => exact sub_get (i := 2) e2 hv
  | 9, hv => exact sub_get (i := 3) e2 hv
  | 10, hv => exact sub_get (i := 4) e2 hv
  | 11, hv => exact sub_get (i := 5) e2 hv
  | 12, hv => exact sub_get (i := 6) e2 hv
  | 13, hv => exact sub_get (i := 7) e2 hv
  | 14, hv => exact sub_get (i := 8) e2 hv
  | i + 15, hv => exact absurd hv (by simp [itemC])

theorem pick_list {α : Type} {p : Nat → α → Prop} : ∀ n : Nat, (∀ i, i < n → ∃ x, p i x) → ∃ l : List α, l.length = n ∧ ∀ (i : Nat) (x : α), l[i]? = some x → p i x
  | 0, _ => ⟨[], rfl, fun i x h => by simp at h⟩
  | n + 1, h => by
    obtain ⟨l, hl, hp⟩ := pick_list n (fun i hi => h i (by omega))
    obtain ⟨x, hx⟩ := h n (by omega)
    refine ⟨l ++ [x], by simp [hl], fun i y hy => ?_⟩
    by_cases hi : i < l.length
    · rw [List.getElem?_append_left hi] at hy; exact hp i y hy
    · rw [List.getElem?_append_right (by omega)] at hy
      have e : i - l.length = 0 := by
        by_cases e : i - l.length = 0
        · exact e
        · rw [List.getElem?_eq_none (by simp; omega)] at hy; cases hy
      rw [e] at hy
      simp at hy
      subst hy
      have : i = n := by omega
      rw [this]; exact hx

/-- A slice of structs, opened. -/
theorem read_row {α : Type} {C : α → Array Value} {fit : α → Prop} {z : α} {size : Nat} {t e : TypeId} (ht : Tryd.prog.underlying t = some (.slice e)) (hs : Tryd.prog.cellsOf e = size) (h0 : 0 < size)
    (hr : ∀ {n : Nat} {cs : List Value} {x : DataW H × List MemPlace}, DataW.trod enc Tryd.prog W base sp held n e cs = some x → ∃ y : α, cs = (C y).toList ∧ fit y)
    {cs : List Value} {x : DataW H × List MemPlace} (h : DataW.trod enc Tryd.prog W base sp held fuel t cs = some x) :
    ∃ (l : List α) (p : Option Addr) (c : Nat), cs = [.slice p l.length c] ∧ l.length ≤ maxLen ∧ (∀ y ∈ l, fit y) ∧ RowAt W p l.length size (fun i => C (l.getD i z)) := by
  rcases open_slice ht h with ⟨rfl, _⟩ | ⟨a, len, cap, m, n, D, Pl, rfl, _, hlc, hcm, hm, _, hx⟩
  · exact ⟨[], none, 0, rfl, Nat.zero_le _, fun y hy => by simp at hy, fun h => absurd h (by simp)⟩
  have hle : len ≤ m := by rw [hm]; split <;> omega
  obtain ⟨l, hl, hp⟩ := pick_list (α := α) (p := fun i y => fit y ∧ ∃ cs', W.cells? base (a.add (i * size)) size = some cs' ∧ cs' = (C y).toList) len (fun i hi => by
    obtain ⟨cs', h1, h2⟩ := hx i (by omega)
    rw [hs] at h1
    obtain ⟨y, h3, h4⟩ := hr h2
    exact ⟨y, h4, cs', h1, h3⟩)
  refine ⟨l, some a, cap, by rw [hl], by omega, fun y hy => ?_, fun hp0 => ?_⟩
  · obtain ⟨i, hi⟩ := List.mem_iff_getElem?.1 hy
    exact (hp i y hi).1
  · have key : ∀ i y, l[i]? = some y → ∀ j v, (C y)[j]? = some v → W.cell? ((a.add (i * size)).add j) = some v := by
      intro i y hi j v hv
      obtain ⟨_, cs', h1, rfl⟩ := hp i y hi
      obtain ⟨_, h2, h3⟩ := World.cells?_some h1
      have hj : j < size := by
        have hv' : (C y).toList[j]? = some v := by rw [Array.getElem?_toList]; exact hv
        have := (List.getElem?_eq_some_iff.1 hv').1
        omega
      have h4 := h3 j hj
      rw [h4, Array.getElem?_toList]
      exact hv
    obtain ⟨b, o, spot⟩ := a
    have y0 : l[0]? = some (l[0]'hp0) := List.getElem?_eq_getElem hp0
    obtain ⟨_, cs', h1, rfl⟩ := hp 0 _ y0
    obtain ⟨_, h2, h3⟩ := World.cells?_some h1
    have h4 := h3 0 h0
    have hspot : spot = none := by
      cases hc : W.cell? ((Addr.add ⟨b, o, spot⟩ (0 * size)).add 0) with
      | none => rw [hc] at h4; rw [List.getElem?_eq_getElem (by omega)] at h4; cases h4
      | some v => simpa [Addr.add] using World.cell?_spot hc
    subst hspot
    refine ⟨b, o, rfl, fun i hi j v hv => ?_⟩
    have := key i l[i] (List.getElem?_eq_getElem hi) j v (by have hv : (C (l.getD i z))[j]? = some v := hv; rw [List.getD_eq_getElem?_getD, List.getElem?_eq_getElem hi] at hv; exact hv)
    rw [add_plain, add_plain] at this
    exact this
end

/-- A message's numbers are of their kinds. -/
structure Msg.fit (m : Msg) : Prop where
  entry : m.entry.fit
  entries : ∀ e ∈ m.entries, e.fit
  items : ∀ t ∈ m.items, t.fit
  body : m.body.size ≤ maxLen
  sum : U64 m.check.sum
  sums : ∀ x ∈ [m.s0, m.s1, m.s2, m.s3, m.s4, m.s5], U64 x
  len1 : m.entries.length ≤ maxLen
  len2 : m.items.length ≤ maxLen

set_option maxRecDepth 100000 in
set_option maxHeartbeats 1000000 in
theorem read_msg {H : Type} {enc : TypeId × Value → H} {W : World} {base base2 : Nat} {sp : Nat → Bool} {held : Bool} {r : Reach} {v : Value} {d : DataW H} {ps : List MemPlace} (hv : Value.okWide Tryd.prog W r base2 31 v) (h : DataW.Trod enc Tryd.prog W base sp held 31 v d ps) :
    ∃ (m : Msg) (ea ia : Option Addr) (ec ic : Nat), v = .agg (msgC m (.slice ea m.entries.length ec) (.slice ia m.items.length ic)) ∧ m.fit ∧ RowAt W ea m.entries.length 9 (entAt m.entries) ∧ RowAt W ia m.items.length 15 (itemAt m.items) := by
  obtain ⟨cs, rfl, hsz, _⟩ : ∃ cs, v = .agg cs ∧ cs.size = Tryd.prog.cellsOf 31 ∧ Row.okWide Tryd.prog W r base2 31 cs := by
    unfold Value.okWide at hv
    rw [Tryd.underlying31] at hv
    exact hv
  obtain ⟨fuel, h⟩ := h
  have h : DataW.trod enc Tryd.prog W base sp held fuel 31 cs.toList = some (d, ps) := h
  obtain ⟨xs, n, _, _, hl, hx, hf⟩ := DataW.trod_struct Tryd.underlying31 h
  have hl : cs.toList.length = 33 := hl.trans (by kernel_rfl)
  have F := field_some hx hf
  obtain ⟨a0, c0, w0⟩ := field_int Tryd.underlying3 (F 0 _ rfl)
  obtain ⟨a1, c1, w1⟩ := field_int Tryd.underlying3 (F 1 _ rfl)
  obtain ⟨a2, c2, w2⟩ := field_int Tryd.underlying3 (F 2 _ rfl)
  obtain ⟨a3, c3, w3⟩ := field_int Tryd.underlying3 (F 3 _ rfl)
  obtain ⟨a4, c4, w4⟩ := field_int Tryd.underlying3 (F 4 _ rfl)
  obtain ⟨a5, c5, w5⟩ := field_int Tryd.underlying3 (F 5 _ rfl)
  obtain ⟨a6, c6, w6⟩ := field_int Tryd.underlying3 (F 6 _ rfl)
  obtain ⟨a7, c7, w7⟩ := field_int Tryd.underlying3 (F 7 _ rfl)
  obtain ⟨a8, c8, w8⟩ := field_int Tryd.underlying3 (F 8 _ rfl)
  obtain ⟨a9, c9, w9⟩ := field_int Tryd.underlying3 (F 9 _ rfl)
  obtain ⟨a10, c10, w10⟩ := field_int Tryd.underlying3 (F 10 _ rfl)
  obtain ⟨a11, c11, w11⟩ := field_int Tryd.underlying3 (F 11 _ rfl)
  obtain ⟨y12, h12⟩ := F 12 _ rfl
  obtain ⟨xs2, n2, _, _, hl2, hx2, hf2⟩ := DataW.trod_struct Tryd.underlying24 h12
  have F2 := field_some hx2 hf2
  obtain ⟨b0, p0, q0⟩ := field_int Tryd.underlying3 (F2 0 _ rfl)
  obtain ⟨b1, p1, q1⟩ := field_int Tryd.underlying3 (F2 1 _ rfl)
  obtain ⟨b2, p2, q2⟩ := field_int Tryd.underlying22 (F2 2 _ rfl)
  obtain ⟨y13, h13⟩ := F 13 _ rfl
  obtain ⟨xs3, n3, _, _, hl3, hx3, hf3⟩ := DataW.trod_array Tryd.underlying25 h13
  have hc64 : Tryd.prog.cellsOf 22 = 1 := by kernel_rfl
  simp only [hc64, Nat.mul_one] at hf3
  have F3 : ∀ i, i < 6 → ∃ y, DataW.trod enc Tryd.prog W base sp held n3 22 _ = some y := fun i hi => ⟨_, (hf3 i hi).trans (List.getElem?_eq_getElem (by omega))⟩
  obtain ⟨s0, r0, t0⟩ := field_int Tryd.underlying22 (F3 0 (by omega))
  obtain ⟨s1, r1, t1⟩ := field_int Tryd.underlying22 (F3 1 (by omega))
  obtain ⟨s2, r2, t2⟩ := field_int Tryd.underlying22 (F3 2 (by omega))
  obtain ⟨s3, r3, t3⟩ := field_int Tryd.underlying22 (F3 3 (by omega))
  obtain ⟨s4, r4, t4⟩ := field_int Tryd.underlying22 (F3 4 (by omega))
  obtain ⟨s5, r5, t5⟩ := field_int Tryd.underlying22 (F3 5 (by omega))
  obtain ⟨y14, h14⟩ := F 14 _ rfl
  obtain ⟨e, e14, f14⟩ := read_entry h14
  obtain ⟨y15, h15⟩ := F 15 _ rfl
  obtain ⟨es, ea, ec, e15, l15, f15, g15⟩ := read_row (z := zeroEntry) (size := 9) Tryd.underlying28 (by kernel_rfl) (by omega) read_entry h15
  obtain ⟨y16, h16⟩ := F 16 _ rfl
  obtain ⟨is, ia, ic, e16, l16, f16, g16⟩ := read_row (z := zeroItem) (size := 15) Tryd.underlying29 (by kernel_rfl) (by omega) read_item h16
  obtain ⟨bd, c17, w17⟩ := field_str Tryd.underlying9 (F 17 _ rfl)
  refine ⟨⟨a0, a1, a2, a3, a4, a5, a6, a7, a8, a9, a10, a11, ⟨b0, b1, b2⟩, s0, s1, s2, s3, s4, s5, e, es, is, bd⟩, ea, ia, ec, ic, ?_, ⟨f14, f15, f16, w17, u64_of q2, ?_, l15, l16⟩, g15, g16⟩
  · congr 1
    refine Array.toList_inj.1 (list_by (by rw [hl]; rfl) fun i v hv => ?_)
    match i, hv with
    | 0, hv => exact c0.trans hv
    | 1, hv => exact c1.trans hv
    | 2, hv => exact c2.trans hv
    | 3, hv => exact c3.trans hv
    | 4, hv => exact c4.trans hv
    | 5, hv => exact c5.trans hv
    | 6, hv => exact c6.trans hv
    | 7, hv => exact c7.trans hv
    | 8, hv => exact c8.trans hv
    | 9, hv => exact c9.trans hv
    | 10, hv => exact c10.trans hv
    | 11, hv => exact c11.trans hv
    | 12, hv => exact (sub_at (i := 0) p0).trans hv
    | 13, hv => exact (sub_at (i := 1) p1).trans hv
    | 14, hv => exact (sub_at (i := 2) p2).trans hv
    | 15, hv => exact (sub_at (i := 0) r0).trans hv
    | 16, hv => exact (sub_at (i := 1) r1).trans hv
    | 17, hv => exact (sub_at (i := 2) r2).trans hv
    | 18, hv => exact (sub_at (i := 3) r3).trans hv
    | 19, hv => exact (sub_at (i := 4) r4).trans hv
    | 20, hv => exact (sub_at (i := 5) r5).trans hv
    | 21, hv => exact sub_get (i := 0) e14 hv
    | 22, hv => exact sub_get (i := 1) e14 hv
    | 23, hv => exact sub_get (i := 2) e14 hv
    | 24, hv => exact sub_get (i := 3) e14 hv
    | 25, hv => exact sub_get (i := 4) e14 hv
    | 26, hv => exact sub_get (i := 5) e14 hv
    | 27, hv => exact sub_get (i := 6) e14 hv
    | 28, hv => exact sub_get (i := 7) e14 hv
    | 29, hv => exact sub_get (i := 8) e14 hv
    | 30, hv => exact sub_get (i := 0) e15 hv
    | 31, hv => exact sub_get (i := 0) e16 hv
    | 32, hv => exact c17.trans hv
    | i + 33, hv => exact absurd hv (by simp [msgC])
  · intro x hx
    simp only [List.mem_cons, List.not_mem_nil, or_false] at hx
    rcases hx with rfl | rfl | rfl | rfl | rfl | rfl
    · exact u64_of t0
    · exact u64_of t1
    · exact u64_of t2
    · exact u64_of t3
    · exact u64_of t4
    · exact u64_of t5

theorem Entry.fit.wf {e : Entry} (h : e.fit) : e.wf := h.1
theorem Item.fit.wf {t : Item} (h : t.fit) : t.wf := ⟨h.2.1.wf, h.1.1, h.1.2.1⟩
theorem Msg.fit.wf {m : Msg} (h : m.fit) (h1 : m.entries.length ≤ 1000000) (h2 : m.items.length ≤ 1000000) : m.wf := ⟨h.entry.wf, fun e he => (h.entries e he).wf, fun t ht => (h.items t ht).wf, h.body, h1, h2⟩
theorem Msg.fit.fine {m : Msg} (h : m.fit) (h1 : m.entries.length ≤ 1000000) (h2 : m.items.length ≤ 1000000) (hr : rightM m = true) : Fine m := ⟨h.wf h1 h2, hr, h.sum, h.sums⟩

end Go.Proofs.YtmidfknlmjgjpaaDoor
