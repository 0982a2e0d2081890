/- A client in memory: what its block holds, which blocks are its own. -/
import Derived.Test.YtmidfknlmjgjpaaDoorKAwake
namespace Go.Proofs.YtmidfknlmjgjpaaDoor
open Go.RowKit

structure Letter where
  src : Int
  dst : Int
  data : ByteArray

structure Told where
  kind : Int
  operation : Int
  asked : ByteArray
  session : Int
  request : Int
  op : Int
  body : ByteArray

structure Cl where
  id : Int
  count : Int
  session : Int
  last : Int
  view : Int
  gone : Bool
  way : Option Msg
  data : ByteArray
  waited : Int
  out : List Letter
  told : List Told

def letC (x : Letter) : List Value := [.int .i64 x.src, .int .i64 x.dst, .string x.data]
def lettersC (l : List Letter) : List Value := (l.map letC).flatten
def tolC (x : Told) : List Value := [.int .i64 x.kind, .int .i64 x.operation, .string x.asked, .int .i64 x.session, .int .i64 x.request, .int .i64 x.op, .string x.body]
def toldsC (l : List Told) : List Value := (l.map tolC).flatten
def clC (c : Cl) (wp ov tv : Value) : Array Value := #[.int .i64 c.id, .int .i64 c.count, .int .i64 c.session, .int .i64 c.last, .int .i64 c.view, .bool c.gone, wp, .string c.data, .int .i64 c.waited, ov, tv]

theorem lettersC_snoc (l : List Letter) (x : Letter) : lettersC (l ++ [x]) = lettersC l ++ letC x := by simp [lettersC]
theorem toldsC_snoc (l : List Told) (x : Told) : toldsC (l ++ [x]) = toldsC l ++ tolC x := by simp [toldsC]

/-- A message of a client's own: no lists. -/
def mvec (m : Msg) : Array Value := msgC m (.slice none 0 0) (.slice none 0 0)

/-- What is under way lies in a block of its own. -/
def WayAt (w : World) (b : Nat) (O : Nat → Prop) (wp : Option Addr) (ov tv : Value) : Option Msg → Prop
  | none => wp = none
  | some m => ∃ g, wp = some ⟨g, 0, none⟩ ∧ O g ∧ g ≠ b ∧ ov.ownBlock ≠ some g ∧ tv.ownBlock ≠ some g ∧ w.heap[g]? = some (.cells (mvec m) 31 (0, 0))

/-- A client in memory. O: its blocks. -/
structure CAt (B b : Nat) (w : World) (c : Cl) (O : Nat → Prop) (wp : Option Addr) (ov tv : Value) : Prop where
  blk : w.heap[b]? = some (.cells (clC c (.pointer wp) ov tv) 81 (0, 0))
  out : Own B w 3 ov c.out.length (lettersC c.out)
  told : Own B w 7 tv c.told.length (toldsC c.told)
  way : WayAt w b O wp ov tv c.way
  self : O b
  outO : ∀ k, ov.ownBlock = some k → O k ∧ k ≠ b ∧ tv.ownBlock ≠ some k
  toldO : ∀ k, tv.ownBlock = some k → O k ∧ k ≠ b
  all : ∀ k, O k → B ≤ k ∧ k < w.heap.size
  base : B ≤ w.heap.size

/-- Nothing turns but the blocks of O, and what is new. -/
structure Off (O : Nat → Prop) (w w' : World) : Prop where
  os : w'.os = w.os
  tape : w'.tape = w.tape
  output : w'.output = w.output
  size : w.heap.size ≤ w'.heap.size
  block : ∀ k, k < w.heap.size → ¬ O k → w'.heap[k]? = w.heap[k]?

/-- The blocks behind: those from before, and new ones. -/
def Sub (O O' : Nat → Prop) (w : World) : Prop := ∀ k, O' k → O k ∨ w.heap.size ≤ k

theorem Sub.refl (O : Nat → Prop) (w : World) : Sub O O w := fun _ h => .inl h
theorem Sub.trans {O O' O'' : Nat → Prop} {w w' : World} (h : Sub O O' w) (k : Sub O' O'' w') (hs : w.heap.size ≤ w'.heap.size) : Sub O O'' w := fun j hj => by
  rcases k j hj with h1 | h1
  · exact h j h1
  · exact .inr (by omega)
theorem Off.refl (O : Nat → Prop) (w : World) : Off O w w := ⟨rfl, rfl, rfl, Nat.le_refl _, fun _ _ _ => rfl⟩
theorem Off.trans {O O' : Nat → Prop} {w w' w'' : World} (h : Off O w w') (k : Off O' w' w'') (hs : Sub O O' w) : Off O w w'' :=
  ⟨k.os.trans h.os, k.tape.trans h.tape, k.output.trans h.output, Nat.le_trans h.size k.size, fun j hj hn => by
    rw [k.block j (Nat.lt_of_lt_of_le hj h.size) (fun ho => by
      rcases hs j ho with h1 | h1
      · exact hn h1
      · omega), h.block j hj hn]⟩
theorem Off.of_below {O : Nat → Prop} {w w' : World} (h : Below w.heap.size w w') : Off O w w' := ⟨h.os, h.tape, h.output, h.size, fun k hk _ => h.block k hk⟩
theorem Off.below {O : Nat → Prop} {B : Nat} {w w' : World} (h : Off O w w') (ho : ∀ k, O k → B ≤ k) (hB : B ≤ w.heap.size) : Below B w w' :=
  ⟨h.os, h.tape, h.output, h.size, fun k hk => h.block k (by omega) (fun hk2 => by have := ho k hk2; omega)⟩
theorem Off.set {O : Nat → Prop} (w : World) {b : Nat} (o : Nat) (v : Value) (hb : O b) : Off O w (w.setCell ⟨b, o, none⟩ v) :=
  ⟨rfl, rfl, rfl, by simp [World.setCell], fun k _ hn => Below.heap_setCell _ _ _ _ (fun e => hn (by rw [e]; exact hb))⟩
theorem Off.grown {O : Nat → Prop} {w w' : World} {row : Option Nat} (h : w.grownBy w' row) (hr : ∀ k, row = some k → O k) : Off O w w' :=
  ⟨h.os, h.tape, h.output, h.size, fun k hk hn => h.block k hk (fun e => hn (hr k e.symm))⟩

theorem CAt.cell {B b : Nat} {w : World} {c : Cl} {O : Nat → Prop} {wp : Option Addr} {ov tv : Value} (h : CAt B b w c O wp ov tv) {j : Nat} {v : Value} (hv : (clC c (.pointer wp) ov tv)[j]? = some v) : w.cell? ⟨b, j, none⟩ = some v := by
  rw [cell_of_row w b j _ _ _ h.blk]; exact hv
theorem CAt.frozen {B b : Nat} {w : World} {c : Cl} {O : Nat → Prop} {wp : Option Addr} {ov tv : Value} (h : CAt B b w c O wp ov tv) (j : Nat) : w.frozen? ⟨b, j, none⟩ = false := by
  unfold World.frozen?; rw [h.blk]; simp

theorem WayAt.same {w w' : World} {b : Nat} {O : Nat → Prop} {wp : Option Addr} {ov tv : Value} {x : Option Msg} (h : WayAt w b O wp ov tv x) (hk : ∀ k, O k → k ≠ b → ov.ownBlock ≠ some k → tv.ownBlock ≠ some k → w'.heap[k]? = w.heap[k]?) : WayAt w' b O wp ov tv x := by
  cases x with
  | none => exact h
  | some m =>
    obtain ⟨g, h1, h2, h3, h4, h5, h6⟩ := h
    exact ⟨g, h1, h2, h3, h4, h5, (hk g h2 h3 h4 h5).trans h6⟩

/-- Its own block alone has turned. -/
theorem CAt.upd {B b : Nat} {w w' : World} {c c' : Cl} {O : Nat → Prop} {wp : Option Addr} {ov tv : Value} (h : CAt B b w c O wp ov tv) (hs : w.heap.size ≤ w'.heap.size) (hk : ∀ k, k < w.heap.size → k ≠ b → w'.heap[k]? = w.heap[k]?)
    (hb : w'.heap[b]? = some (.cells (clC c' (.pointer wp) ov tv) 81 (0, 0))) (e1 : c'.out = c.out) (e2 : c'.told = c.told) (e3 : c'.way = c.way) : CAt B b w' c' O wp ov tv where
  blk := hb
  out := by rw [e1]; exact h.out.same hs fun k h1 h2 => hk k h2 (h.outO k h1).2.1
  told := by rw [e2]; exact h.told.same hs fun k h1 h2 => hk k h2 (h.toldO k h1).2
  way := by rw [e3]; exact h.way.same fun k h1 h2 _ _ => hk k (h.all k h1).2 h2
  self := h.self
  outO := h.outO
  toldO := h.toldO
  all := fun k hk => ⟨(h.all k hk).1, Nat.lt_of_lt_of_le (h.all k hk).2 hs⟩
  base := Nat.le_trans h.base hs

/-- Nothing of it has turned. -/
theorem CAt.later {B b : Nat} {w w' : World} {c : Cl} {O : Nat → Prop} {wp : Option Addr} {ov tv : Value} (h : CAt B b w c O wp ov tv) (hb : Below w.heap.size w w') : CAt B b w' c O wp ov tv :=
  h.upd hb.size (fun k hk _ => hb.block k hk) ((hb.block b (h.all b h.self).2).trans h.blk) rfl rfl rfl

/-- A store into its own block. -/
theorem CAt.set {B b : Nat} {w : World} {c c' : Cl} {O : Nat → Prop} {wp : Option Addr} {ov tv : Value} (h : CAt B b w c O wp ov tv) (o : Nat) (v : Value) (hv : (clC c (.pointer wp) ov tv).setIfInBounds o v = clC c' (.pointer wp) ov tv)
    (e1 : c'.out = c.out) (e2 : c'.told = c.told) (e3 : c'.way = c.way) : CAt B b (w.setCell ⟨b, o, none⟩ v) c' O wp ov tv :=
  h.upd (by simp [World.setCell]) (fun k _ hn => Below.heap_setCell _ _ _ _ hn) (by rw [set_block o v h.blk, hv]) e1 e2 e3

section
variable {P : Program} (w : World)
/-- APPENDING, of whatever make; the row is the one from before, or a new one. -/
theorem run_append_Own2 (B : Nat) (t u ty e : TypeId) (i : TypeInfo) (z : Value) (size bytes : Nat) (ht : P.underlying t = some (.slice e)) (hi : P.info? e = some i) (hz : i.zero = some z)
    (hsize : i.size = size) (hby : i.bytes = bytes) (hzs : z.cells.size = size)
    (v : Value) (n : Nat) (xs : List Value) (hown : Own B w size v n xs) (xv : Value) (m : Nat) (news : List Value) (hsrc : Src P w u size xv m news)
    (h63 : n + m ≤ maxLen) (hbytes : (n + m) * bytes ≤ 140737488355328) (hB : B ≤ w.heap.size) :
    ∃ v' w', (Builtin.append_ #[t, u] ty #[v, xv]).run P w = .ok v' w' ∧ Own B w' size v' (n + m) (xs ++ news) ∧ w.grownBy w' v.ownBlock ∧ (v'.ownBlock = v.ownBlock ∨ ∀ k, v'.ownBlock = some k → w.heap.size ≤ k) := by
  subst hsize hby
  have hsmall : n + m ≤ 9223372036854775807 := by simp only [maxLen] at h63; omega
  obtain ⟨hlen, hf1, hf2⟩ := hsrc.first w
  have hnl := hsrc.1
  have hone := hsrc.2.1
  have hu : (∃ e', P.underlying u = some (.slice e')) ∨ P.underlying u = some .string := by
    rcases hsrc.2.2 with ⟨h, _⟩ | ⟨h, _⟩
    · exact .inl h
    · exact .inr h
  have hal : (xs ++ news).length = (n + m) * i.size := by rw [List.length_append, hown.1, hnl, Nat.add_mul]
  obtain ⟨h1, ⟨rfl, rfl⟩ | ⟨g, cap, rfl, h3, h4, h5, hg, hc, hf⟩⟩ := id hown
  · have hx : xs = [] := List.eq_nil_of_length_eq_zero (by simpa using h1)
    subst hx
    by_cases hm : m = 0
    · subst hm
      have : news = [] := List.eq_nil_of_length_eq_zero (by simpa using hnl)
      subst this
      refine ⟨.slice none 0 0, w, ?_, Own.nil B w _, ⟨rfl, rfl, rfl, Nat.le_refl _, fun _ _ _ => rfl⟩, .inl rfl⟩
      rcases hu with ⟨e', hd⟩ | hd <;> simp [Builtin.append_, run_underlying ht, run_underlying hd, sizeOf, typeInfo, hi, hlen, hf1, Result.andThen]
    · have hO := Own.of_grown (B := B) w e i.size (0 + m) 0 z.cells ([] ++ news) hB hal hzs h63 (Value.ownBlock (.slice none 0 0))
      refine ⟨_, _, ?_, hO.1, hO.2, .inr (fun k hk => by simp only [Value.ownBlock, Option.some.injEq] at hk; omega)⟩
      have h48 : ¬ (281474976710656 < Builtin.nextslicecap m 0 * i.bytes) := by
        have := growslice_fits (need := m) (old := 0) (by omega) (by simpa using hbytes); omega
      have h63' : ¬ (9223372036854775807 < (m : Int)) := by omega
      have hfo : (Builtin.firstCells i.size 0 (.slice none 0 0)).run P w.drew = .ok #[] w.drew := rfl
      rcases hu with ⟨e', hd⟩ | hd <;> simp [Builtin.append_, run_underlying ht, run_underlying hd, sizeOf, typeInfo, zeroValue, hi, hz, hlen, hf2, hm, h63', h48, Question.forced, hfo, newRow, grownCap, Result.andThen]
  · by_cases hroom : n + m ≤ cap
    · have hO := Own.of_room hown hnl hroom
      refine ⟨_, _, ?_, hO.1, hO.2, .inl rfl⟩
      have hle : (n + m) * i.size ≤ cap * i.size := Nat.mul_le_mul_right _ hroom
      rw [Nat.add_mul] at hle
      have hst := run_storeCells_cells (P := P) g (n * i.size) news 0 w (fun j hj => (hf _ (by omega)).1) (fun j hj => (hf _ (by omega)).2) hone
      simp only [Nat.add_zero] at hst
      rcases hu with ⟨e', hd⟩ | hd <;> simp [Builtin.append_, run_underlying ht, run_underlying hd, sizeOf, typeInfo, hi, hlen, hf1, hroom, hst, Addr.add_lit, Result.andThen]
    · have hO := Own.of_grown (B := B) w e i.size (n + m) cap z.cells (xs ++ news) hB hal hzs h63 (Value.ownBlock (.slice (some ⟨g, 0, none⟩) n cap))
      refine ⟨_, _, ?_, hO.1, hO.2, .inr (fun k hk => by simp only [Value.ownBlock, Option.some.injEq] at hk; omega)⟩
      have h48 : ¬ (281474976710656 < Builtin.nextslicecap (n + m) cap * i.bytes) := by
        have := growslice_fits (need := n + m) (old := cap) (by omega) hbytes; omega
      have h63' : ¬ (9223372036854775807 < ((n : Int) + (m : Int))) := by omega
      have hfo := run_firstCells_some (P := P) w.drew i.size n ⟨g, 0, none⟩ n cap xs h1 (fun j x hx => by rw [add_plain, Nat.zero_add]; simpa using hc j x hx)
      rcases hu with ⟨e', hd⟩ | hd <;> simp [Builtin.append_, run_underlying ht, run_underlying hd, sizeOf, typeInfo, zeroValue, hi, hz, hlen, hf2, hroom, h63', h48, Question.forced, hfo, newRow, grownCap, Result.andThen]
      all_goals (congr 2; apply Array.ext'; simp [List.append_assoc])

end

set_option maxRecDepth 100000 in
set_option maxHeartbeats 400000 in
theorem quorumMay_any (n : Int) (w : World) : Calls Tryd.prog 37 #[.int .i64 n] w fun e w' => e = .returned (.bool (n == 3 || n == 5)) ∧ w' = w := by
  by_cases h1 : n = 3
  · subst h1
    go_enter Tryd.func37, Tryd.ntmps37
    go_wp2
    go_ret
    exact ⟨rfl, rfl⟩
  · by_cases h2 : n = 5
    · subst h2
      go_enter Tryd.func37, Tryd.ntmps37
      go_wp2
      go_ret
      exact ⟨rfl, rfl⟩
    · have e : (n == 3 || n == 5) = false := by simp [h1, h2]
      have He := Lib.hid e
      clear e
      go_enter Tryd.func37, Tryd.ntmps37
      go_wp2
      go_ret
      exact ⟨by rw [He.out]; simp, rfl⟩

set_option maxRecDepth 100000 in
set_option maxHeartbeats 400000 in
theorem primary_ok (n v : Int) (hn : n = 3 ∨ n = 5) (hv : 0 ≤ v) (hv2 : v ≤ 72057594037927935) (w : World) : Calls Tryd.prog 39 #[.int .i64 n, .int .i64 v] w fun e w' => e = .returned (.int .i64 (v % n + 1)) ∧ w' = w := by
  have hm : ((n == 3 || n == 5) : Bool) = true := by rcases hn with rfl | rfl <;> rfl
  have Hm := Lib.hid hm
  clear hm
  rcases hn with rfl | rfl
  all_goals
    go_enter Tryd.func39, Tryd.ntmps39
    go_wp2_with (go_at_call 37; refine (quorumMay_any _ _).mono ?_; rintro x w1 ⟨rfl, rfl⟩; rw [Hm.out])
    go_ret
    exact ⟨rfl, rfl⟩

end Go.Proofs.YtmidfknlmjgjpaaDoor
