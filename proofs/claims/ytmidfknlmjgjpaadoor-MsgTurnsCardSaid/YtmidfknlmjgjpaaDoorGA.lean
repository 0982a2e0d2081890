/- Words on slices of bytes: what one holds, whose it is; appending to it, making a string of it. No program. More words on slices of bytes: a string of one; zeros appended. No program. -/
import Derived.WalkKit
import Derived.WalkSpells
import Derived.WalkLawsBesides
import Derived.Lib.Hide
import Derived.Lib.Strings
import Derived.Lib.SlFresh
import Derived.Lib.SlParts
import Derived.Lib.ConvBytes
import Derived.Laws.BytesArg
import Derived.Lib.AppendStr
import Derived.Lib.AppendZeros
import Derived.Laws.IdiomCopy
import Derived.Deep.Upon
namespace Go.Proofs.YtmidfknlmjgjpaaDoor
open Go.RowKit

theorem ret_int {k : IntKind} {a b : Int} (h : a = b) : Ending.returned (.int k a) = .returned (.int k b) := by rw [h]

theorem take_snoc (s : ByteArray) (k : Nat) (h : k < s.size) : s.data.toList.take (k + 1) = s.data.toList.take k ++ [s[k]] := by
  rw [List.take_succ_eq_append_getElem (by simpa using h)]; rfl

/-- All old cells and all old marks read as before. -/
theorem bcell {W w1 : World} (hb : Below W.heap.size W w1) : (∀ b o, b < W.heap.size → w1.cell? ⟨b, o, none⟩ = W.cell? ⟨b, o, none⟩) ∧ (∀ b o, b < W.heap.size → w1.frozen? ⟨b, o, none⟩ = W.frozen? ⟨b, o, none⟩) :=
  ⟨fun b o h => hb.cell (p := ⟨b, o, none⟩) h, fun b o h => hb.frozen (p := ⟨b, o, none⟩) h⟩

/-- A string of a list of bytes. -/
abbrev str (l : List UInt8) : ByteArray := ⟨l.toArray⟩

theorem add_plain (b o i : Nat) : (⟨b, o, none⟩ : Addr).add i = ⟨b, o + i, none⟩ := by unfold Addr.add; split <;> simp_all

/-- A slice value of n elements (of 'size' cells each) that is nil or at the head of a row of the call's own (from block B on): its cells, and room up to its capacity. -/
def Own (B : Nat) (w : World) (size : Nat) (v : Value) (n : Nat) (xs : List Value) : Prop :=
  xs.length = n * size ∧ ((v = .slice none 0 0 ∧ n = 0) ∨
    ∃ g cap, v = .slice (some ⟨g, 0, none⟩) n cap ∧ B ≤ g ∧ n ≤ cap ∧ cap ≤ maxLen ∧ g < w.heap.size ∧ (∀ i x, xs[i]? = some x → w.cell? ⟨g, i, none⟩ = some x) ∧
      (∀ i, i < cap * size → (w.cell? ⟨g, i, none⟩).isSome = true ∧ w.frozen? ⟨g, i, none⟩ = false))

theorem Own.nil (B : Nat) (w : World) (size : Nat) : Own B w size (.slice none 0 0) 0 [] := ⟨by simp, .inl ⟨rfl, rfl⟩⟩

theorem Own.mono {B B' : Nat} {w : World} {size : Nat} {v : Value} {n : Nat} {xs : List Value} (h : Own B w size v n xs) (hB : B' ≤ B) : Own B' w size v n xs := by
  obtain ⟨h1, h2 | ⟨g, cap, h2, h3, h4⟩⟩ := h
  · exact ⟨h1, .inl h2⟩
  · exact ⟨h1, .inr ⟨g, cap, h2, by omega, h4⟩⟩

/-- Where its own block has not turned, it is as it was. -/
theorem Own.same {B : Nat} {w w' : World} {size : Nat} {v : Value} {n : Nat} {xs : List Value} (h : Own B w size v n xs) (hz : w.heap.size ≤ w'.heap.size) (hs : ∀ k, v.ownBlock = some k → k < w.heap.size → w'.heap[k]? = w.heap[k]?) : Own B w' size v n xs := by
  obtain ⟨h1, h2 | ⟨g, cap, rfl, h3, h4, h5, hg, hc, hf⟩⟩ := h
  · exact ⟨h1, .inl h2⟩
  · have e := hs g rfl hg
    exact ⟨h1, .inr ⟨g, cap, rfl, h3, h4, h5, by omega, fun i x hx => by rw [World.cell?_of_block (w := w) (a := ⟨g, i, none⟩) e]; exact hc i x hx, fun i hi => by
      rw [World.cell?_of_block (w := w) (a := ⟨g, i, none⟩) e, World.frozen?_of_block (w := w) (a := ⟨g, i, none⟩) e]; exact hf i hi⟩⟩

theorem Own.later {B : Nat} {w w' : World} {size : Nat} {v : Value} {n : Nat} {xs : List Value} (h : Own B w size v n xs) (hb : Below w.heap.size w w') : Own B w' size v n xs :=
  h.same hb.size fun k _ hk => hb.block k hk

theorem Own.lt {B : Nat} {w : World} {size : Nat} {v : Value} {n : Nat} {xs : List Value} (h : Own B w size v n xs) : ∀ k, v.ownBlock = some k → B ≤ k ∧ k < w.heap.size := by
  intro k hk
  obtain ⟨h1, ⟨rfl, _⟩ | ⟨g, cap, rfl, h3, h4, h5, hg, _⟩⟩ := h
  · simp [Value.ownBlock] at hk
  · simp only [Value.ownBlock, Option.some.injEq] at hk
    subst hk
    exact ⟨h3, hg⟩

theorem Own.grown {B : Nat} {w w' : World} {size : Nat} {v : Value} {n : Nat} {xs : List Value} (h : Own B w size v n xs) {row : Option Nat} (hg : w.grownBy w' row) (hne : ∀ k, v.ownBlock = some k → row ≠ some k) : Own B w' size v n xs :=
  h.same hg.size fun k hk hlt => hg.block k hlt fun e => hne k hk e.symm

theorem Own.below {B : Nat} {w w' : World} {size : Nat} {v : Value} {n : Nat} {xs : List Value} (h : Own B w size v n xs) (hg : w.grownBy w' v.ownBlock) (hB : B ≤ w.heap.size) : Below B w w' :=
  (Below.refl B w).grown hg hB fun k hk => (h.lt k hk).1

theorem Own.shape {B : Nat} {w : World} {size : Nat} {v : Value} {n : Nat} {xs : List Value} (h : Own B w size v n xs) : ∃ p cap, v = .slice p n cap ∧ n ≤ cap ∧ cap ≤ maxLen := by
  obtain ⟨h1, ⟨rfl, rfl⟩ | ⟨g, cap, rfl, h3, h4, h5, _⟩⟩ := h
  · exact ⟨none, 0, rfl, by omega, by simp [maxLen]⟩
  · exact ⟨_, cap, rfl, h4, h5⟩

/-- What the arm that grows leaves. -/
theorem Own.of_grown {B : Nat} (w : World) (e size need old : Nat) (z : Array Value) (all : List Value) (hB : B ≤ w.heap.size) (hl : all.length = need * size) (hz : z.size = size) (h63 : need ≤ maxLen) (row : Option Nat) :
    Own B (w.drew.alloc (.cells (all.toArray ++ Builtin.zeroCells z (grownCap w need old e - need)) e)) size (.slice (some ⟨w.heap.size, 0, none⟩) need (grownCap w need old e)) need all ∧
    w.grownBy (w.drew.alloc (.cells (all.toArray ++ Builtin.zeroCells z (grownCap w need old e - need)) e)) row := by
  have hge := grownCap_ge w need old e
  have hcm : grownCap w need old e ≤ maxLen := grownCap_le_maxLen w need old e h63
  have hh := heap_alloc_new w.drew (.cells (all.toArray ++ Builtin.zeroCells z (grownCap w need old e - need)) e)
  have hh' : (w.drew.alloc (.cells (all.toArray ++ Builtin.zeroCells z (grownCap w need old e - need)) e)).heap[w.heap.size]? = some (.cells (all.toArray ++ Builtin.zeroCells z (grownCap w need old e - need)) e) := hh
  have hsz : (all.toArray ++ Builtin.zeroCells z (grownCap w need old e - need)).size = grownCap w need old e * size := by
    simp only [Array.size_append, List.size_toArray, size_zeroCells, hz, hl, ← Nat.add_mul]
    congr 1
    omega
  refine ⟨⟨hl, .inr ⟨w.heap.size, _, rfl, hB, hge, hcm, by simp, fun i x hx => ?_, fun i hi => ⟨?_, ?_⟩⟩⟩, ⟨rfl, rfl, rfl, by simp, fun k hk _ => heap_alloc_old w.drew _ hk⟩⟩
  · rw [cell_of_row _ w.heap.size i _ e (0, 0) hh']
    have hi : i < all.length := (List.getElem?_eq_some_iff.1 hx).1
    rw [Array.getElem?_append_left (by simpa using hi)]
    simpa using hx
  · rw [cell_of_row _ w.heap.size i _ e (0, 0) hh', Array.getElem?_eq_getElem (by omega)]
    rfl
  · unfold World.frozen?; rw [hh']; simp

/-- What the arm with room leaves. -/
theorem Own.of_room {B : Nat} {w : World} {size g n cap m : Nat} {xs news : List Value} (h : Own B w size (.slice (some ⟨g, 0, none⟩) n cap) n xs) (hl : news.length = m * size) (hroom : n + m ≤ cap) :
    Own B (w.setCells g (n * size) news) size (.slice (some ⟨g, 0, none⟩) (n + m) cap) (n + m) (xs ++ news) ∧ w.grownBy (w.setCells g (n * size) news) (some g) := by
  obtain ⟨h1, ⟨h2, _⟩ | ⟨g', cap', e, h3, h4, h5, hg, hc, hf⟩⟩ := h
  · cases h2
  simp only [Value.slice.injEq, Option.some.injEq, Addr.mk.injEq, true_and, and_true] at e
  obtain ⟨rfl, rfl⟩ := e
  have hle : (n + m) * size ≤ cap * size := Nat.mul_le_mul_right _ hroom
  rw [Nat.add_mul] at hle
  have hsome : ∀ j, j < news.length → (w.cell? ⟨g, n * size + j, none⟩).isSome = true := fun j hj => (hf _ (by omega)).1
  have hsize : (w.setCells g (n * size) news).heap.size = w.heap.size := by
    have : ∀ (vs : List Value) (o : Nat) (u : World), (u.setCells g o vs).heap.size = u.heap.size := by
      intro vs
      induction vs with
      | nil => intro o u; rfl
      | cons v r ih => intro o u; rw [World.setCells, ih]; simp [World.setCell]
    exact this _ _ _
  refine ⟨⟨by rw [List.length_append, h1, hl, Nat.add_mul], .inr ⟨g, cap, rfl, h3, hroom, h5, by omega, fun i x hx => ?_, fun i hi => ⟨?_, ?_⟩⟩⟩, ?_⟩
  · by_cases hi : i < n * size
    · rw [List.getElem?_append_left (by omega)] at hx
      rw [World.cell?_setCells_out g news (n * size) w ⟨g, i, none⟩ (fun _ _ => .inl hi)]
      exact hc i x hx
    · rw [List.getElem?_append_right (by omega), h1] at hx
      have hj : i - n * size < news.length := (List.getElem?_eq_some_iff.1 hx).1
      have := World.cell?_setCells_in g news (n * size) w hsome (i - n * size) hj
      rw [show n * size + (i - n * size) = i by omega] at this
      rw [this]
      rw [List.getElem?_eq_getElem hj] at hx
      exact hx
  · by_cases hi2 : n * size ≤ i ∧ i < n * size + news.length
    · have := World.cell?_setCells_in g news (n * size) w hsome (i - n * size) (by omega)
      rw [show n * size + (i - n * size) = i by omega] at this
      rw [this]; rfl
    · rw [World.cell?_setCells_out g news (n * size) w ⟨g, i, none⟩ (fun _ _ => by simp only; omega)]
      exact (hf i hi).1
  · rw [World.frozen?_setCells]; exact (hf i hi).2
  · have hother : ∀ (vs : List Value) (o : Nat) (u : World), (u.setCells g o vs).os = u.os ∧ (u.setCells g o vs).tape = u.tape ∧ (u.setCells g o vs).output = u.output := by
      intro vs
      induction vs with
      | nil => intro o u; exact ⟨rfl, rfl, rfl⟩
      | cons v r ih => intro o u; rw [World.setCells]; exact ih _ _
    exact ⟨(hother _ _ _).1, (hother _ _ _).2.1, (hother _ _ _).2.2, by omega, fun k hk hne => World.heap_setCells_other w g _ news hk (fun e => hne (by rw [e]))⟩

section
variable {P : Program} (w : World)

/-- What is appended: so many elements, these cells, whatever has been drawn. -/
def Src (P : Program) (w : World) (u size : Nat) (xv : Value) (m : Nat) (news : List Value) : Prop :=
  news.length = m * size ∧ (∀ v ∈ news, v.oneCell' = true) ∧
  (((∃ e, P.underlying u = some (.slice e)) ∧ ((xv = .slice none 0 0 ∧ m = 0) ∨ ∃ ad c, xv = .slice (some ad) m c ∧ ∀ j v, news[j]? = some v → w.cell? (ad.add j) = some v)) ∨
   (P.underlying u = some .string ∧ size = 1 ∧ ∃ s, xv = .string s ∧ s.size = m ∧ news = Lib.strCells s))

theorem Src.first {u size : Nat} {xv : Value} {m : Nat} {news : List Value} (h : Src P w u size xv m news) :
    (Builtin.lenOf xv).run P w = .ok m w ∧ (Builtin.firstCells size m xv).run P w = .ok news.toArray w ∧ (Builtin.firstCells size m xv).run P w.drew = .ok news.toArray w.drew := by
  obtain ⟨hl, _, ⟨_, ⟨rfl, rfl⟩ | ⟨ad, c, rfl, hc⟩⟩ | ⟨_, rfl, s, rfl, rfl, rfl⟩⟩ := h
  · have : news = [] := List.eq_nil_of_length_eq_zero (by simpa using hl)
    subst this
    exact ⟨rfl, rfl, rfl⟩
  · exact ⟨rfl, run_firstCells_some (P := P) w size m ad m c news hl hc, run_firstCells_some (P := P) w.drew size m ad m c news hl (by simpa using hc)⟩
  · exact ⟨rfl, Lib.run_firstCells_string (P := P) w 1 s, Lib.run_firstCells_string (P := P) w.drew 1 s⟩

/-- APPENDING, of whatever make. -/
theorem run_append_Own (B : Nat) (t u ty e : TypeId) (i : TypeInfo) (z : Value) (size bytes : Nat) (ht : P.underlying t = some (.slice e)) (hi : P.info? e = some i) (hz : i.zero = some z)
    (hsize : i.size = size) (hby : i.bytes = bytes) (hzs : z.cells.size = size)
    (v : Value) (n : Nat) (xs : List Value) (hown : Own B w size v n xs) (xv : Value) (m : Nat) (news : List Value) (hsrc : Src P w u size xv m news)
    (h63 : n + m ≤ maxLen) (hbytes : (n + m) * bytes ≤ 140737488355328) (hB : B ≤ w.heap.size) :
    ∃ v' w', (Builtin.append_ #[t, u] ty #[v, xv]).run P w = .ok v' w' ∧ Own B w' size v' (n + m) (xs ++ news) ∧ w.grownBy w' v.ownBlock := by
  subst hsize hby
  have hsmall : n + m ≤ 9223372036854775807 := by simp only [maxLen] at h63; omega
  obtain ⟨hlen, hf1, hf2⟩ := hsrc.first w
  have hnl := hsrc.1
  have hone := hsrc.2.1
  have hu : (∃ e', P.underlying u = some (.slice e')) ∨ P.underlying u = some .string := by
    rcases hsrc.2.2 with ⟨h, _⟩ | ⟨h, _⟩
    · exact .inl h
    · exact .inr h
  have hal : (xs ++ news).length = (n + m) * i.size := by rw [List.length_append, hown.1, hnl, Nat.add_mul]
  obtain ⟨h1, ⟨rfl, rfl⟩ | ⟨g, cap, rfl, h3, h4, h5, hg, hc, hf⟩⟩ := id hown
  · have hx : xs = [] := List.eq_nil_of_length_eq_zero (by simpa using h1)
    subst hx
    by_cases hm : m = 0
    · subst hm
      have : news = [] := List.eq_nil_of_length_eq_zero (by simpa using hnl)
      subst this
      refine ⟨.slice none 0 0, w, ?_, Own.nil B w _, ⟨rfl, rfl, rfl, Nat.le_refl _, fun _ _ _ => rfl⟩⟩
      rcases hu with ⟨e', hd⟩ | hd <;> simp [Builtin.append_, run_underlying ht, run_underlying hd, sizeOf, typeInfo, hi, hlen, hf1, Result.andThen]
    · have hO := Own.of_grown (B := B) w e i.size (0 + m) 0 z.cells ([] ++ news) hB hal hzs h63 (Value.ownBlock (.slice none 0 0))
      refine ⟨_, _, ?_, hO.1, hO.2⟩
      have h48 : ¬ (281474976710656 < Builtin.nextslicecap m 0 * i.bytes) := by
        have := growslice_fits (need := m) (old := 0) (by omega) (by simpa using hbytes); omega
      have h63' : ¬ (9223372036854775807 < (m : Int)) := by omega
      have hfo : (Builtin.firstCells i.size 0 (.slice none 0 0)).run P w.drew = .ok #[] w.drew := rfl
      rcases hu with ⟨e', hd⟩ | hd <;> simp [Builtin.append_, run_underlying ht, run_underlying hd, sizeOf, typeInfo, zeroValue, hi, hz, hlen, hf2, hm, h63', h48, Question.forced, hfo, newRow, grownCap, Result.andThen]
  · by_cases hroom : n + m ≤ cap
    · have hO := Own.of_room hown hnl hroom
      refine ⟨_, _, ?_, hO.1, hO.2⟩
      have hle : (n + m) * i.size ≤ cap * i.size := Nat.mul_le_mul_right _ hroom
      rw [Nat.add_mul] at hle
      have hst := run_storeCells_cells (P := P) g (n * i.size) news 0 w (fun j hj => (hf _ (by omega)).1) (fun j hj => (hf _ (by omega)).2) hone
      simp only [Nat.add_zero] at hst
      rcases hu with ⟨e', hd⟩ | hd <;> simp [Builtin.append_, run_underlying ht, run_underlying hd, sizeOf, typeInfo, hi, hlen, hf1, hroom, hst, Addr.add_lit, Result.andThen]
    · have hO := Own.of_grown (B := B) w e i.size (n + m) cap z.cells (xs ++ news) hB hal hzs h63 (Value.ownBlock (.slice (some ⟨g, 0, none⟩) n cap))
      refine ⟨_, _, ?_, hO.1, hO.2⟩
      have h48 : ¬ (281474976710656 < Builtin.nextslicecap (n + m) cap * i.bytes) := by
        have := growslice_fits (need := n + m) (old := cap) (by omega) hbytes; omega
      have h63' : ¬ (9223372036854775807 < ((n : Int) + (m : Int))) := by omega
      have hfo := run_firstCells_some (P := P) w.drew i.size n ⟨g, 0, none⟩ n cap xs h1 (fun j x hx => by rw [add_plain, Nat.zero_add]; simpa using hc j x hx)
      rcases hu with ⟨e', hd⟩ | hd <;> simp [Builtin.append_, run_underlying ht, run_underlying hd, sizeOf, typeInfo, zeroValue, hi, hz, hlen, hf2, hroom, h63', h48, Question.forced, hfo, newRow, grownCap, Result.andThen]
      all_goals (congr 2; apply Array.ext'; simp [List.append_assoc])

theorem wpList_append_Own {ops : Array Oper} {rest : List Oper} {o : Oper} {a : Act} {Q : Exit → Act → World → Prop} (hgd : o.guard = none) (s x : Operand) (t u : TypeId)
    (ho : o.op = .call { callee := .builtin .append, args := #[s, x], argTypes := #[t, u] })
    (B e : Nat) (i : TypeInfo) (z : Value) (size bytes : Nat) (ht : P.underlying t = some (.slice e)) (hi : P.info? e = some i) (hz : i.zero = some z)
    (hsize : i.size = size) (hby : i.bytes = bytes) (hzs : z.cells.size = size)
    (v : Value) (n : Nat) (xs : List Value) (hs : a.eval s = v) (hown : Own B w size v n xs) (xv : Value) (m : Nat) (news : List Value) (hx : a.eval x = xv) (hsrc : Src P w u size xv m news)
    (h63 : n + m ≤ maxLen) (hbytes : (n + m) * bytes ≤ 140737488355328) (hB : B ≤ w.heap.size)
    (h : ∀ v' w', Own B w' size v' (n + m) (xs ++ news) → w.grownBy w' v.ownBlock → wpList P ops Q rest (a.put o.dst v') w') : wpList P ops Q (o :: rest) a w := by
  obtain ⟨v', w', hr, h2, h3⟩ := run_append_Own (P := P) w B t u o.type e i z size bytes ht hi hz hsize hby hzs v n xs hown xv m news hsrc h63 hbytes hB
  exact Lib.wpList_append_run w hgd s x t u ho v xv hs hx v' w' hr (h v' w' h2 h3)
end

/-- The cells of bytes. -/
def bcells (l : List UInt8) : List Value := l.map fun x => .int .u8 (x.toNat : Int)
theorem bcells_length (l : List UInt8) : (bcells l).length = l.length := by simp [bcells]
theorem bcells_append (l m : List UInt8) : bcells (l ++ m) = bcells l ++ bcells m := by simp [bcells]
theorem bcells_get {l : List UInt8} {i : Nat} {x : UInt8} (h : l[i]? = some x) : (bcells l)[i]? = some (.int .u8 (x.toNat : Int)) := by simp [bcells, h]
theorem bcells_one (l : List UInt8) : ∀ v ∈ bcells l, v.oneCell' = true := by
  intro v hv
  simp only [bcells, List.mem_map] at hv
  obtain ⟨x, _, rfl⟩ := hv
  rfl

/-- A slice of bytes that is nil or the call's own. -/
def Bs (B : Nat) (w : World) (v : Value) (l : List UInt8) : Prop := Own B w 1 v l.length (bcells l)

theorem Bs.nil (B : Nat) (w : World) : Bs B w (.slice none 0 0) [] := Own.nil B w 1
theorem Bs.mono {B B' : Nat} {w : World} {v : Value} {l : List UInt8} (h : Bs B w v l) (hB : B' ≤ B) : Bs B' w v l := Own.mono h hB
theorem Bs.later {B : Nat} {w w' : World} {v : Value} {l : List UInt8} (h : Bs B w v l) (hb : Below w.heap.size w w') : Bs B w' v l := Own.later h hb
theorem Bs.shape {B : Nat} {w : World} {v : Value} {l : List UInt8} (h : Bs B w v l) : ∃ p cap, v = .slice p l.length cap ∧ l.length ≤ cap ∧ cap ≤ maxLen := Own.shape h

theorem Bs.holds {B : Nat} {w : World} {v : Value} {l : List UInt8} (h : Bs B w v l) : Lib.HoldsBytes w v l := by
  obtain ⟨h1, ⟨rfl, h2⟩ | ⟨g, cap, rfl, h3, h4, h5, hg, hc, hf⟩⟩ := h
  · have : l = [] := List.length_eq_zero_iff.1 h2
    subst this
    exact ⟨none, 0, rfl, fun _ => rfl, fun a e => by cases e⟩
  · refine ⟨some ⟨g, 0, none⟩, cap, rfl, ?_, fun a e i x hx => ?_⟩
    · intro e; cases e
    · obtain rfl := (Option.some.inj e)
      rw [add_plain, Nat.zero_add]
      exact hc i _ (bcells_get hx)

theorem bytesOf_get {zs : List Int} {l : List UInt8} (h : Lib.bytesOf (zs.take l.length) = l) (hr : ∀ x ∈ zs, 0 ≤ x ∧ x < 256) (hn : l.length ≤ zs.length) (i : Nat) (x : UInt8) (hx : l[i]? = some x) : zs.getD i 0 = (x.toNat : Int) := by
  have hi : i < l.length := (List.getElem?_eq_some_iff.1 hx).1
  have e : l[i]? = (Lib.bytesOf (zs.take l.length))[i]? := by rw [h]
  rw [hx, Lib.bytesOf, List.getElem?_map, List.getElem?_take, if_pos hi] at e
  have hz : i < zs.length := by omega
  rw [List.getElem?_eq_getElem hz] at e
  simp only [Option.map_some, Option.some.injEq] at e
  rw [List.getD_eq_getElem?_getD, List.getElem?_eq_getElem hz, Option.getD_some, e]
  have := hr _ (List.getElem_mem hz)
  rw [UInt8.toNat_ofNat']
  omega

theorem Bs.of_fresh {B : Nat} {w : World} {v : Value} {l : List UInt8} (h : Lib.FreshBytes B w v l) (hg0 : ∀ g cap, v = .slice (some ⟨g, 0, none⟩) l.length cap → g < w.heap.size) : Bs B w v l := by
  obtain ⟨g, cap, zs, rfl, hB, hl, hm, hz, hr, hb, hc, hf⟩ := h
  refine ⟨by simp [bcells], .inr ⟨g, cap, rfl, hB, hl, hm, hg0 g cap rfl, fun i x hx => ?_, fun i hi => ?_⟩⟩
  · simp only [bcells, List.getElem?_map, Option.map_eq_some_iff] at hx
    obtain ⟨y, hy, rfl⟩ := hx
    have hi : i < l.length := (List.getElem?_eq_some_iff.1 hy).1
    rw [hc i (by omega), bytesOf_get hb hr (by omega) i y hy]
  · rw [Nat.mul_one] at hi
    rw [hc i hi]
    exact ⟨rfl, hf i hi⟩

theorem HoldsBytes.later {w w' : World} {v : Value} {l : List UInt8} (h : Lib.HoldsBytes w v l) (hb : Below w.heap.size w w') : Lib.HoldsBytes w' v l := by
  obtain ⟨p, cap, rfl, h1, h2⟩ := h
  refine ⟨p, cap, rfl, h1, fun a ha i x hx => ?_⟩
  have := h2 a ha i x hx
  rw [hb.cell (World.block_lt_of_cell? _ _ this)]; exact this

theorem strOfNums_numsL (l : List UInt8) : strOfNums (Lib.numsL l) = str l := by
  simp only [strOfNums, Lib.numsL, List.map_map]
  congr 1
  have : (fun n : Int => UInt8.ofNat n.toNat) ∘ (fun x : UInt8 => (x.toNat : Int)) = id := by
    funext x; simp
  rw [this, List.map_id]

/-- 'string(b)'. -/
theorem conv_holds {P : Program} {w : World} {v : Value} {l : List UInt8} (src e dst : TypeId) (hs : P.underlying src = some (.slice e)) (he : P.underlying e = some (.int .u8)) (hd : P.underlying dst = some .string) (h : Lib.HoldsBytes w v l) :
    (convert src dst v).run P w = .ok (.string (str l)) w := by
  obtain ⟨p, cap, rfl, h1, h2⟩ := h
  cases p with
  | none =>
    have : l = [] := h1 rfl
    subst this
    exact run_convert_bytes_nil w src e hs he 0 cap dst hd
  | some a =>
    have hl : (loadCells a l.length).run P w = .ok ((Lib.numsL l).map (Value.int .u8)).toArray w := by
      have := run_loadCells_list (P := P) w a ((Lib.numsL l).map (Value.int .u8)) (fun j v hj => by
        simp only [Lib.numsL, List.map_map, List.getElem?_map, Option.map_eq_some_iff] at hj
        obtain ⟨x, hx, rfl⟩ := hj
        exact h2 a rfl j x hx)
      simpa [Lib.numsL] using this
    rw [run_convert_bytes_string w src dst e _ _ cap hs he hd, run_bytesToString w _ _ cap _ hl, foldl_push_bytes, ← strOfNums_numsL]
    simp [strOfNums, ByteArray.empty, ByteArray.emptyWithCapacity]
    rfl

theorem zeroCells_u8 (n : Nat) : Builtin.zeroCells (Value.int .u8 0).cells n = (bcells (List.replicate n 0)).toArray := by
  apply Array.ext'
  simp only [Builtin.zeroCells, bcells, Value.cells, Array.size, List.map_replicate]
  simp [List.eq_replicate_iff]
  intro a _
  have : a % 1 = 0 := by omega
  rw [this]; rfl

/-- APPENDING ZEROS: 'append(b, make([]byte, m)...)'. -/
theorem run_append_zeros {P : Program} (w : World) (B : Nat) (t u ty e : TypeId) (i : TypeInfo) (ku k : IntKind) (ht : P.underlying t = some (.slice e)) (hu : P.underlying u = some (.int ku)) (hi : P.info? e = some i) (hz : i.zero = some (.int .u8 0))
    (hsize : i.size = 1) (hby : i.bytes = 1)
    (v : Value) (l : List UInt8) (hown : Bs B w v l) (m : Nat) (h63 : l.length + m ≤ 1000000000) (hB : B ≤ w.heap.size) :
    ∃ v' w', (Builtin.append_ #[t, u] ty #[v, .int k (m : Int)]).run P w = .ok v' w' ∧ Bs B w' v' (l ++ List.replicate m 0) ∧ w.grownBy w' v.ownBlock := by
  have hw : IntKind.i64.wrap (m : Int) = m := by rw [IntKind.wrap_i64]; omega
  have hneg : ¬ ((m : Int) < 0) := by omega
  have h48i : ¬ (281474976710656 < (m : Int)) := by omega
  have hnl : (bcells (List.replicate m 0)).length = m * 1 := by simp [bcells]
  have hal : (bcells l ++ bcells (List.replicate m 0)).length = (l.length + m) * 1 := by simp [bcells]
  have hll : (l ++ List.replicate m (0 : UInt8)).length = l.length + m := by simp
  have hmax : l.length + m ≤ maxLen := by simp only [maxLen]; omega
  have hown' : Own B w 1 v l.length (bcells l) := hown
  obtain ⟨h1, ⟨rfl, hl0⟩ | ⟨g, cap, rfl, h3, h4, h5, hg, hc, hf⟩⟩ := id hown'
  · have hx : l = [] := List.eq_nil_of_length_eq_zero hl0
    subst hx
    by_cases hm : m = 0
    · subst hm
      refine ⟨.slice none 0 0, w, ?_, Bs.nil B w, ⟨rfl, rfl, rfl, Nat.le_refl _, fun _ _ _ => rfl⟩⟩
      have hw0 : IntKind.i64.wrap 0 = 0 := rfl
      simp [Builtin.append_, run_underlying ht, run_underlying hu, sizeOf, typeInfo, hi, hsize, asInt, asIntOf, hw0, Result.andThen]
    · have hO := Own.of_grown (B := B) w e 1 (0 + m) 0 (Value.int .u8 0).cells ([] ++ bcells (List.replicate m 0)) hB (by simp [bcells]) rfl (by simpa using hmax) (Value.ownBlock (.slice none 0 0))
      refine ⟨_, _, ?_, by simpa [Bs] using hO.1, hO.2⟩
      have h48 : ¬ (281474976710656 < Builtin.nextslicecap m 0) := by
        have := growslice_fits (need := m) (old := 0) (bytes := 1) (by omega) (by omega); omega
      have h63' : ¬ (9223372036854775807 < (m : Int)) := by omega
      have hfo : (Builtin.firstCells 1 0 (.slice none 0 0)).run P w.drew = .ok #[] w.drew := rfl
      simp [Builtin.append_, run_underlying ht, run_underlying hu, sizeOf, typeInfo, zeroValue, hi, hz, hsize, hby, asInt, asIntOf, hw, hneg, h48i, hm, h63', h48, Question.forced, hfo, newRow, grownCap, Result.andThen, zeroCells_u8]
  · by_cases hroom : l.length + m ≤ cap
    · have hO := Own.of_room hown' hnl hroom
      refine ⟨_, _, ?_, by unfold Bs; rw [hll, bcells_append]; exact hO.1, hO.2⟩
      have hst := run_storeCells_cells (P := P) g (l.length * 1) (bcells (List.replicate m 0)) 0 w (fun j hj => (hf _ (by omega)).1) (fun j hj => (hf _ (by omega)).2) (bcells_one _)
      simp only [Nat.add_zero, Nat.mul_one] at hst
      by_cases hm : m = 0
      · subst hm
        have hw0 : IntKind.i64.wrap 0 = 0 := rfl
        simp [Builtin.append_, run_underlying ht, run_underlying hu, sizeOf, typeInfo, hi, hsize, asInt, asIntOf, hw0, h4, Addr.add_lit, Result.andThen, bcells, storeCells, World.setCells]
      · simp [Builtin.append_, run_underlying ht, run_underlying hu, sizeOf, typeInfo, zeroValue, hi, hz, hsize, hby, asInt, asIntOf, hw, hneg, h48i, hm, hroom, hst, Addr.add_lit, Result.andThen, zeroCells_u8]
    · have hO := Own.of_grown (B := B) w e 1 (l.length + m) cap (Value.int .u8 0).cells (bcells l ++ bcells (List.replicate m 0)) hB hal rfl hmax (Value.ownBlock (.slice (some ⟨g, 0, none⟩) l.length cap))
      refine ⟨_, _, ?_, by unfold Bs; rw [hll, bcells_append]; exact hO.1, hO.2⟩
      have hm : m ≠ 0 := by omega
      have h48 : ¬ (281474976710656 < Builtin.nextslicecap (l.length + m) cap) := by
        have := growslice_fits (need := l.length + m) (old := cap) (bytes := 1) (by omega) (by omega); omega
      have h63' : ¬ (9223372036854775807 < ((l.length : Int) + (m : Int))) := by omega
      have hfo := run_firstCells_some (P := P) w.drew 1 l.length ⟨g, 0, none⟩ l.length cap (bcells l) h1 (fun j x hx => by rw [add_plain, Nat.zero_add]; simpa using hc j x hx)
      simp [Builtin.append_, run_underlying ht, run_underlying hu, sizeOf, typeInfo, zeroValue, hi, hz, hsize, hby, asInt, asIntOf, hw, hneg, h48i, hm, hroom, h63', h48, Question.forced, hfo, newRow, grownCap, Result.andThen, zeroCells_u8]
      all_goals (congr 2; apply Array.ext'; simp [List.append_assoc])

theorem wpList_append_zeros {P : Program} {w : World} {ops : Array Oper} {rest : List Oper} {o : Oper} {a : Act} {Q : Exit → Act → World → Prop} (hgd : o.guard = none) (s x : Operand) (t u : TypeId)
    (ho : o.op = .call { callee := .builtin .append, args := #[s, x], argTypes := #[t, u] })
    (B e : Nat) (i : TypeInfo) (ku k : IntKind) (ht : P.underlying t = some (.slice e)) (hu : P.underlying u = some (.int ku)) (hi : P.info? e = some i) (hz : i.zero = some (.int .u8 0))
    (hsize : i.size = 1) (hby : i.bytes = 1)
    (v : Value) (l : List UInt8) (hs : a.eval s = v) (hown : Bs B w v l) (m : Int) (hx : a.eval x = .int k m) (h0 : 0 ≤ m) (h63 : l.length + m.toNat ≤ 1000000000) (hB : B ≤ w.heap.size)
    (h : ∀ v' w', Bs B w' v' (l ++ List.replicate m.toNat 0) → w.grownBy w' v.ownBlock → wpList P ops Q rest (a.put o.dst v') w') : wpList P ops Q (o :: rest) a w := by
  obtain ⟨m, rfl⟩ := Int.eq_ofNat_of_zero_le h0
  rw [Int.toNat_natCast] at h63 h
  obtain ⟨v', w', hr, h2, h3⟩ := run_append_zeros (P := P) w B t u o.type e i ku k ht hu hi hz hsize hby v l hown m h63 hB
  exact Lib.wpList_append_run w hgd s x t u ho v _ hs hx v' w' hr (h v' w' h2 h3)

/-- Bytes at an address are what may be appended. -/
theorem src_bytes {P : Program} {w : World} {u e : TypeId} {v : Value} {l : List UInt8} (hu : P.underlying u = some (.slice e)) (h : Lib.HoldsBytes w v l) (hnil : ∀ c, v ≠ .slice none 0 (c + 1)) : Src P w u 1 v l.length (bcells l) := by
  obtain ⟨p, cap, rfl, h1, h2⟩ := h
  refine ⟨by simp [bcells], bcells_one l, .inl ⟨⟨e, hu⟩, ?_⟩⟩
  cases p with
  | none =>
    have : l = [] := h1 rfl
    subst this
    cases cap with
    | zero => exact .inl ⟨rfl, rfl⟩
    | succ c => exact absurd rfl (hnil c)
  | some a =>
    refine .inr ⟨a, cap, rfl, fun j v hv => ?_⟩
    simp only [bcells, List.getElem?_map, Option.map_eq_some_iff] at hv
    obtain ⟨x, hx, rfl⟩ := hv
    exact h2 a rfl j x hx

theorem Bs.append {B : Nat} {w : World} {v : Value} {l m : List UInt8} (h : Own B w 1 v (l.length + m.length) (bcells l ++ bcells m)) : Bs B w v (l ++ m) := by
  unfold Bs
  rw [List.length_append, bcells_append]
  exact h

theorem wpList_append_Bs {P : Program} {w : World} {ops : Array Oper} {rest : List Oper} {o : Oper} {a : Act} {Q : Exit → Act → World → Prop} (hgd : o.guard = none) (s x : Operand) (t : TypeId)
    (ho : o.op = .call { callee := .builtin .append, args := #[s, x], argTypes := #[t, t] })
    (B e : Nat) (i : TypeInfo) (ht : P.underlying t = some (.slice e)) (hi : P.info? e = some i) (hz : i.zero = some (.int .u8 0)) (hsize : i.size = 1) (hby : i.bytes = 1)
    (v : Value) (l : List UInt8) (hs : a.eval s = v) (hown : Bs B w v l) (xv : Value) (m : List UInt8) (hx : a.eval x = xv) (hsrc : Lib.HoldsBytes w xv m) (hnil : ∀ c, xv ≠ .slice none 0 (c + 1))
    (hlen : l.length + m.length ≤ 1000000000) (hB : B ≤ w.heap.size)
    (h : ∀ v' w', Bs B w' v' (l ++ m) → w.grownBy w' v.ownBlock → wpList P ops Q rest (a.put o.dst v') w') : wpList P ops Q (o :: rest) a w :=
  wpList_append_Own w hgd s x t t ho B e i (.int .u8 0) 1 1 ht hi hz hsize hby rfl v l.length (bcells l) hs hown xv m.length (bcells m) hx (src_bytes ht hsrc hnil)
    (by simp only [maxLen]; omega) (by omega) hB fun v' w' h1 h2 => h v' w' (Bs.append h1) h2

theorem wpList_append_Bs_str {P : Program} {w : World} {ops : Array Oper} {rest : List Oper} {o : Oper} {a : Act} {Q : Exit → Act → World → Prop} (hgd : o.guard = none) (s x : Operand) (t u : TypeId)
    (ho : o.op = .call { callee := .builtin .append, args := #[s, x], argTypes := #[t, u] })
    (B e : Nat) (i : TypeInfo) (ht : P.underlying t = some (.slice e)) (hu : P.underlying u = some .string) (hi : P.info? e = some i) (hz : i.zero = some (.int .u8 0)) (hsize : i.size = 1) (hby : i.bytes = 1)
    (v : Value) (l : List UInt8) (hs : a.eval s = v) (hown : Bs B w v l) (m : ByteArray) (hx : a.eval x = .string m)
    (hlen : l.length + m.size ≤ 1000000000) (hB : B ≤ w.heap.size)
    (h : ∀ v' w', Bs B w' v' (l ++ m.data.toList) → w.grownBy w' v.ownBlock → wpList P ops Q rest (a.put o.dst v') w') : wpList P ops Q (o :: rest) a w := by
  have hm : m.data.toList.length = m.size := by simp
  refine wpList_append_Own w hgd s x t u ho B e i (.int .u8 0) 1 1 ht hi hz hsize hby rfl v l.length (bcells l) hs hown (.string m) m.size (bcells m.data.toList) hx
    ⟨by simp [bcells], bcells_one _, .inr ⟨hu, rfl, m, rfl, rfl, rfl⟩⟩
    (by simp only [maxLen]; omega) (by omega) hB fun v' w' h1 h2 => h v' w' (Bs.append ?_) h2
  rw [hm]; exact h1

theorem Bs.below {B : Nat} {w w' : World} {v : Value} {l : List UInt8} (h : Bs B w v l) (hg : w.grownBy w' v.ownBlock) (hB : B ≤ w.heap.size) : Below B w w' := Own.below h hg hB

/-- A block of bytes just laid. -/
theorem new_holds (w : World) (l : List UInt8) (T : Nat) (c : Nat) : Lib.HoldsBytes (w.alloc (.cells (bcells l).toArray T)) (.slice (some ⟨w.heap.size, 0, none⟩) l.length c) l := by
  refine ⟨some ⟨w.heap.size, 0, none⟩, c, rfl, (fun e => nomatch e), fun a e i x hx => ?_⟩
  obtain rfl := Option.some.inj e
  rw [add_plain, Nat.zero_add]
  have := bcells_get hx
  simpa using this

theorem str_append (a b : List UInt8) : str a ++ str b = str (a ++ b) := by
  apply ByteArray.ext
  simp

theorem str_data (a : List UInt8) : (str a).data.toList = a := rfl
theorem str_size (a : List UInt8) : (str a).size = a.length := by simp [ByteArray.size]
theorem str_of (s : ByteArray) : str s.data.toList = s := rfl

end Go.Proofs.YtmidfknlmjgjpaaDoor
