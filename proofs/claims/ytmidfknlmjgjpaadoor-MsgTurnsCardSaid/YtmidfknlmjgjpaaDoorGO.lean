/- A message and its reader in memory; the walks of the reader's take of a mark and of an entry. The walks of the reader's take of sums and of a body. -/
import Derived.Test.YtmidfknlmjgjpaaDoorGN
import Derived.Deep.RegionHeld3
namespace Go.Proofs.YtmidfknlmjgjpaaDoor
open Go.RowKit

def entsC (l : List Entry) : List Value := (l.map fun e => (entC e).toList).flatten
def itemsC (l : List Item) : List Value := (l.map fun t => (itemC t).toList).flatten

/-- A message that is being read, and its reader. O: their blocks. -/
structure DAt (w : World) (O : Nat → Prop) (M R : Nat) (p : Option Addr) (cap : Nat) (l : List UInt8) (r : Rd) (m : Msg) (ev iv : Value) : Prop where
  rd : RAt w R p cap l r
  msg : w.heap[M]? = some (.cells (msgC m ev iv) 31 (0, 0))
  ents : Own 0 w 9 ev m.entries.length (entsC m.entries)
  items : Own 0 w 15 iv m.items.length (itemsC m.items)
  oM : O M
  oR : O R
  ne : M ≠ R
  oe : ∀ k, ev.ownBlock = some k → O k ∧ k ≠ M ∧ k ≠ R ∧ iv.ownBlock ≠ some k
  oi : ∀ k, iv.ownBlock = some k → O k ∧ k ≠ M ∧ k ≠ R
  op : ∀ a, p = some a → ¬ O a.block
  low : ∀ k, O k → k < w.heap.size

theorem DAt.call {w w' : World} {O : Nat → Prop} {M R : Nat} {p : Option Addr} {cap : Nat} {l : List UInt8} {r r' : Rd} {m : Msg} {ev iv : Value} (h : DAt w O M R p cap l r m ev iv) (hr : RAt w' R p cap l r') (ho : Off (only R) w w') : DAt w' O M R p cap l r' m ev iv where
  rd := hr
  msg := (ho.block M (h.low M h.oM) h.ne).trans h.msg
  ents := h.ents.same ho.size fun k hk _ => ho.block k (h.low k (h.oe k hk).1) (h.oe k hk).2.2.1
  items := h.items.same ho.size fun k hk _ => ho.block k (h.low k (h.oi k hk).1) (h.oi k hk).2.2
  oM := h.oM
  oR := h.oR
  ne := h.ne
  oe := h.oe
  oi := h.oi
  op := h.op
  low := fun k hk => Nat.lt_of_lt_of_le (h.low k hk) ho.size

theorem DAt.quiet {w w' : World} {O : Nat → Prop} {M R : Nat} {p : Option Addr} {cap : Nat} {l : List UInt8} {r : Rd} {m : Msg} {ev iv : Value} (h : DAt w O M R p cap l r m ev iv) (hb : Below w.heap.size w w') : DAt w' O M R p cap l r m ev iv :=
  h.call (h.rd.later (O := fun _ => False) (Off.of_below hb) (fun h => h) (fun _ _ h => h)) (Off.of_below hb)

theorem DAt.put {w w' : World} {O : Nat → Prop} {M R : Nat} {p : Option Addr} {cap : Nat} {l : List UInt8} {r : Rd} {m m' : Msg} {ev iv : Value} (h : DAt w O M R p cap l r m ev iv) (hm : w'.heap[M]? = some (.cells (msgC m' ev iv) 31 (0, 0))) (ho : Off (only M) w w') (e1 : m'.entries = m.entries) (e2 : m'.items = m.items) : DAt w' O M R p cap l r m' ev iv where
  rd := h.rd.later ho (fun e => h.ne (e : R = M).symm) (fun a e hk => h.op a e (by have hk : a.block = M := hk; rw [hk]; exact h.oM))
  msg := hm
  ents := by rw [e1]; exact h.ents.same ho.size fun k hk _ => ho.block k (h.low k (h.oe k hk).1) (h.oe k hk).2.1
  items := by rw [e2]; exact h.items.same ho.size fun k hk _ => ho.block k (h.low k (h.oi k hk).1) (h.oi k hk).2.1
  oM := h.oM
  oR := h.oR
  ne := h.ne
  oe := h.oe
  oi := h.oi
  op := h.op
  low := fun k hk => Nat.lt_of_lt_of_le (h.low k hk) ho.size

/-- What a take leaves. -/
def Tk (O : Nat → Prop) (M R : Nat) (p : Option Addr) (cap : Nat) (l : List UInt8) (q : Msg × Rd) (w w' : World) : Prop := ∃ (O' : Nat → Prop) (ev iv : Value), DAt w' O' M R p cap l q.2 q.1 ev iv ∧ Sub O O' w ∧ Off O w w'

theorem DAt.tk {w w' : World} {O : Nat → Prop} {M R : Nat} {p : Option Addr} {cap : Nat} {l : List UInt8} {q : Msg × Rd} {ev iv : Value} (h : DAt w' O M R p cap l q.2 q.1 ev iv) (ho : Off O w w') : Tk O M R p cap l q w w' := ⟨O, ev, iv, h, Sub.refl _ _, ho⟩

theorem Off.sub {O O' : Nat → Prop} {w w' : World} (h : Off O w w') (hs : ∀ k, O k → O' k) : Off O' w w' := ⟨h.os, h.tape, h.output, h.size, fun k hk hn => h.block k hk fun ho => hn (hs k ho)⟩

def markC (m : Mark) : Array Value := #[.int .i64 m.op, .int .i64 m.view, .int .u64 m.sum]
theorem mark_one (s : Mark) : (markC s).all (·.oneCell') = true := by
  refine all_oneCell_toArray fun v hv => ?_
  simp only [List.mem_cons, List.not_mem_nil, or_false] at hv
  rcases hv with rfl | rfl | rfl <;> rfl
theorem mark_info : (Tryd.prog.info? 24).map (·.size) = some 3 := by kernel_rfl
theorem msgC_size (m : Msg) (ev iv : Value) : (msgC m ev iv).size = 33 := rfl
theorem setL_mark (m : Msg) (ev iv : Value) (c : Mark) : setL (msgC m ev iv) 12 (markC c).toList = msgC { m with check := c } ev iv := by
  simp only [setL, msgC, markC, List.setIfInBounds_toArray, List.set_cons_zero, List.set_cons_succ]
theorem setL_entry (m : Msg) (ev iv : Value) (e : Entry) : setL (msgC m ev iv) 21 (entC e).toList = msgC { m with entry := e } ev iv := by
  simp only [setL, msgC, entC, List.setIfInBounds_toArray, List.set_cons_zero, List.set_cons_succ]

set_option maxRecDepth 100000 in
set_option maxHeartbeats 4000000 in
theorem take_C (w : World) (O : Nat → Prop) (M R : Nat) (p : Option Addr) (cap : Nat) (l : List UInt8) (r : Rd) (m : Msg) (ev iv : Value) (h : DAt w O M R p cap l r m ev iv) (hp : r.pos ≤ 800000) :
    Calls Tryd.prog 54 #[.pointer (some ⟨R, 0, none⟩), .pointer (some ⟨M, 0, none⟩), .int .i32 67] w fun x w' => x = .returned (.tuple #[]) ∧ Tk O M R p cap l ({ m with check := (rdMark l r).1 }, (rdMark l r).2) w w' := by
  have H0 := Lib.hid h
  unfold rdMark
  simp only
  have HE1 := Lib.hid (fun wx hx => rdEight_any R p cap l r (by omega) wx hx)
  obtain ⟨a, ha⟩ : ∃ u, (rdNum l 8 r).1 = u := ⟨_, rfl⟩
  obtain ⟨y1, hy1⟩ : ∃ u, (rdNum l 8 r).2 = u := ⟨_, rfl⟩
  have q1 : y1.pos ≤ 800008 := by rw [← hy1, itemPos]; omega
  rw [ha, hy1] at HE1
  rw [ha, hy1]
  have HE2 := Lib.hid (fun wx hx => rdEight_any R p cap l y1 (by omega) wx hx)
  obtain ⟨b, hb⟩ : ∃ u, (rdNum l 8 y1).1 = u := ⟨_, rfl⟩
  obtain ⟨y2, hy2⟩ : ∃ u, (rdNum l 8 y1).2 = u := ⟨_, rfl⟩
  have q2 : y2.pos ≤ 800016 := by rw [← hy2, itemPos]; omega
  rw [hb, hy2] at HE2
  rw [hb, hy2]
  have HE3 := Lib.hid (fun wx hx => rdEight_any R p cap l y2 (by omega) wx hx)
  obtain ⟨c, hc⟩ : ∃ u, (rdNum l 8 y2).1 = u := ⟨_, rfl⟩
  obtain ⟨y3, hy3⟩ : ∃ u, (rdNum l 8 y2).2 = u := ⟨_, rfl⟩
  rw [hc, hy3] at HE3
  rw [hc, hy3]
  have wa : IntKind.i64.wrap (a : Int) = i64 a := wrap_i64_64 a
  have wb : IntKind.i64.wrap (b : Int) = i64 b := wrap_i64_64 b
  clear h hp ha hb hc hy1 hy2 hy3 q1 q2
  go_enter Tryd.func54, Tryd.ntmps54
  go_wp2_with fail
  refine (HE1.out _ H0.out.rd).mono ?_
  rintro x w1 ⟨rfl, q, o⟩
  have H1 := Lib.hid (H0.out.call q o)
  have O1 := Lib.hid o
  clear q o
  go_wp2_with fail
  refine (HE2.out _ H1.out.rd).mono ?_
  rintro x w2 ⟨rfl, q, o⟩
  have H2 := Lib.hid (H1.out.call q o)
  have O2 := Lib.hid (O1.out.trans o (fun _ hk => .inl hk))
  clear q o H1 O1
  go_wp2_with fail
  refine (HE3.out _ H2.out.rd).mono ?_
  rintro x w3 ⟨rfl, q, o⟩
  have H3 := Lib.hid (H2.out.call q o)
  have O3 := Lib.hid (O2.out.trans o (fun _ hk => .inl hk))
  clear q o H2 O2
  go_wp2_with ((with_reducible show wpList _ _ _ (⟨none, .store 24 (.tmp 23) (.tmp 21), _, _, _, _⟩ :: _) _ _); refine wpList_store_in (op := ⟨none, .store 24 (.tmp 23) (.tmp 21), _, _, _, _⟩) rfl 24 _ _ rfl M 12 (markC ⟨i64 a, i64 b, (c : Int)⟩) rfl rfl _ 31 H3.out.msg (by rw [msgC_size]; show 12 + 3 ≤ 33; decide) mark_info (mark_one _) ?_; intro w4 h4 o4 z4; have H4 : Hid (DAt w4 O M R p cap l y3 { m with check := ⟨i64 a, i64 b, (c : Int)⟩ } ev iv) := H3.out.put (by rw [h4, setL_mark]) o4 rfl rfl; have O4 : Hid (Off O w w4) := (O3.out.sub (fun k hk => by rw [show k = R from hk]; exact H0.out.oR)).trans (o4.sub (O' := O) (fun k hk => by rw [show k = M from hk]; exact H0.out.oM)) (Sub.refl _ _); clear h4 o4 z4)
  go_end0
  exact ⟨rfl, DAt.tk (q := ({ m with check := ⟨i64 a, i64 b, (c : Int)⟩ }, y3)) H4.out O4.out⟩

set_option maxRecDepth 100000 in
set_option maxHeartbeats 4000000 in
theorem take_E (w : World) (O : Nat → Prop) (M R : Nat) (p : Option Addr) (cap : Nat) (l : List UInt8) (r : Rd) (m : Msg) (ev iv : Value) (h : DAt w O M R p cap l r m ev iv) (hp : r.pos ≤ 800000) :
    Calls Tryd.prog 54 #[.pointer (some ⟨R, 0, none⟩), .pointer (some ⟨M, 0, none⟩), .int .i32 69] w fun x w' => x = .returned (.tuple #[]) ∧ Tk O M R p cap l ({ m with entry := (rdEntry l r).1 }, (rdEntry l r).2) w w' := by
  have H0 := Lib.hid h
  have HE1 := Lib.hid (fun wx hx => rdEntry_any R p cap l r (by omega) wx hx)
  obtain ⟨e, he⟩ : ∃ u, (rdEntry l r).1 = u := ⟨_, rfl⟩
  obtain ⟨y1, hy1⟩ : ∃ u, (rdEntry l r).2 = u := ⟨_, rfl⟩
  rw [he, hy1] at HE1
  rw [he, hy1]
  clear h hp he hy1
  go_enter Tryd.func54, Tryd.ntmps54
  go_wp2_with fail
  refine (HE1.out _ H0.out.rd).mono ?_
  rintro x w3 ⟨rfl, q, o⟩
  have H3 := Lib.hid (H0.out.call q o)
  have O3 := Lib.hid o
  clear q o
  go_wp2_with ((with_reducible show wpList _ _ _ (⟨none, .store 27 (.tmp 43) (.tmp 41), _, _, _, _⟩ :: _) _ _); refine wpList_store_in (op := ⟨none, .store 27 (.tmp 43) (.tmp 41), _, _, _, _⟩) rfl 27 _ _ rfl M 21 (entC e) rfl rfl _ 31 H3.out.msg (by rw [msgC_size]; show 21 + 9 ≤ 33; decide) ent_info (ent_one _) ?_; intro w4 h4 o4 z4; have H4 : Hid (DAt w4 O M R p cap l y1 { m with entry := e } ev iv) := H3.out.put (by rw [h4, setL_entry]) o4 rfl rfl; have O4 : Hid (Off O w w4) := (O3.out.sub (fun k hk => by rw [show k = R from hk]; exact H0.out.oR)).trans (o4.sub (O' := O) (fun k hk => by rw [show k = M from hk]; exact H0.out.oM)) (Sub.refl _ _); clear h4 o4 z4)
  go_end0
  exact ⟨rfl, DAt.tk (q := ({ m with entry := e }, y1)) H4.out O4.out⟩

def setSum (m : Msg) (i : Nat) (v : Int) : Msg := match i with
  | 0 => { m with s0 := v }
  | 1 => { m with s1 := v }
  | 2 => { m with s2 := v }
  | 3 => { m with s3 := v }
  | 4 => { m with s4 := v }
  | 5 => { m with s5 := v }
  | _ => m
def sumsSt (l : List UInt8) (m : Msg) (r : Rd) : Nat → Msg × Rd
  | 0 => (m, r)
  | k + 1 => (setSum (sumsSt l m r k).1 k ((rdNum l 8 (sumsSt l m r k).2).1 : Nat), (rdNum l 8 (sumsSt l m r k).2).2)
theorem sumsSt_six (l : List UInt8) (m : Msg) (r : Rd) : sumsSt l m r 6 = rdTake l m 83 r := by
  rw [rdTake, if_neg (by decide), if_pos rfl]
  simp only [sumsSt, setSum, rdSums, List.getD_cons_zero, List.getD_cons_succ]
theorem sumsSt_pos (l : List UInt8) (m : Msg) (r : Rd) : ∀ k, (sumsSt l m r k).2.pos = r.pos + 8 * k
  | 0 => rfl
  | k + 1 => by show (sumsSt l m r k).2.pos + 8 = _; rw [sumsSt_pos l m r k]; omega
theorem setSum_lists (m : Msg) (i : Nat) (v : Int) : (setSum m i v).entries = m.entries ∧ (setSum m i v).items = m.items := by
  unfold setSum; split <;> exact ⟨rfl, rfl⟩
theorem set_sum (m : Msg) (ev iv : Value) (k : Nat) (hk : k < 6) (v : Int) : (msgC m ev iv).setIfInBounds (15 + k) (.int .u64 v) = msgC (setSum m k v) ev iv := by
  match k, hk with
  | 0, _ => simp only [msgC, setSum, List.setIfInBounds_toArray, List.set_cons_zero, List.set_cons_succ]
  | 1, _ => simp only [msgC, setSum, List.setIfInBounds_toArray, List.set_cons_zero, List.set_cons_succ]
  | 2, _ => simp only [msgC, setSum, List.setIfInBounds_toArray, List.set_cons_zero, List.set_cons_succ]
  | 3, _ => simp only [msgC, setSum, List.setIfInBounds_toArray, List.set_cons_zero, List.set_cons_succ]
  | 4, _ => simp only [msgC, setSum, List.setIfInBounds_toArray, List.set_cons_zero, List.set_cons_succ]
  | 5, _ => simp only [msgC, setSum, List.setIfInBounds_toArray, List.set_cons_zero, List.set_cons_succ]

theorem DAt.has {w : World} {O : Nat → Prop} {M R : Nat} {p : Option Addr} {cap : Nat} {l : List UInt8} {r : Rd} {m : Msg} {ev iv : Value} (h : DAt w O M R p cap l r m ev iv) (j : Nat) (hj : j < 33) : ∃ v, w.cell? ⟨M, j, none⟩ = some v :=
  ⟨(msgC m ev iv)[j]'(by rw [msgC_size]; exact hj), by rw [cell_of_row _ _ _ _ _ _ h.msg]; exact Array.getElem?_eq_getElem _⟩

set_option maxRecDepth 100000 in
set_option maxHeartbeats 4000000 in
theorem take_S (w : World) (O : Nat → Prop) (M R : Nat) (p : Option Addr) (cap : Nat) (l : List UInt8) (r : Rd) (m : Msg) (ev iv : Value) (h : DAt w O M R p cap l r m ev iv) (hp : r.pos ≤ 800000) :
    Calls Tryd.prog 54 #[.pointer (some ⟨R, 0, none⟩), .pointer (some ⟨M, 0, none⟩), .int .i32 83] w fun x w' => x = .returned (.tuple #[]) ∧ Tk O M R p cap l (rdTake l m 83 r) w w' := by
  rw [← sumsSt_six]
  have H0 := Lib.hid h
  have hpos := sumsSt_pos l m r
  clear h
  go_enter Tryd.func54, Tryd.ntmps54
  go_wp2
  go_loopw [26] (fun i wr => ∃ k : Nat, k ≤ 6 ∧ i = .int .i64 k ∧ DAt wr O M R p cap l (sumsSt l m r k).2 (sumsSt l m r k).1 ev iv ∧ Off O w wr) (fun i _ => 6 - (intOf i).toNat)
  case atStart => exact ⟨0, by omega, rfl, H0.out, Off.refl _ _⟩
  case round =>
    obtain ⟨k, hk, rfl, hd, ho⟩ := hrel
    by_cases hlt : k < 6
    · have hpk := hpos k
      obtain ⟨v0, hc⟩ := hd.has (15 + k) (by omega)
      have HD := Lib.hid hd
      have HO := Lib.hid ho
      have HS : Hid (sumsSt l m r (k + 1) = (setSum (sumsSt l m r k).1 k ((rdNum l 8 (sumsSt l m r k).2).1 : Nat), (rdNum l 8 (sumsSt l m r k).2).2)) := rfl
      generalize sumsSt l m r k = q at HD HS hpk hd
      clear hd ho hpos
      have HQ := Lib.hid (HD.out.quiet (below_drewN (Below.refl _ _) 1))
      have HOd := Lib.hid (HO.out.trans (Off.of_below (O := O) (below_drewN (Below.refl wr.heap.size wr) 1)) (Sub.refl _ _))
      have HE := Lib.hid (rdEight_any R p cap l q.2 (by omega) _ HQ.out.rd)
      clear hc
      go_wp2_with fail
      go_region_held3 (fun _ => True)
        (first | exact trivial)
        (first | (go_at_call 78; refine HE.out.mono ?_; rintro x w1 ⟨rfl, q1, o1⟩; have HD1 := Lib.hid (HQ.out.call q1 o1); have HO1 := Lib.hid (HOd.out.trans (o1.sub (O' := O) (fun k hk => by rw [show k = R from hk]; exact H0.out.oR)) (Sub.refl _ _)); have hz1 := frozen_row HD1.out.msg (15 + k); have hc1 := (cell_of_row w1 M (15 + k) _ _ _ HD1.out.msg).trans (Array.getElem?_eq_getElem (by rw [msgC_size]; omega)); clear q1 o1))
      go_wp2
      go_roundw
      case rel => exact ⟨k + 1, by omega, by go_num, by rw [HS.out]; exact HD1.out.put (by rw [set_block (15 + k) _ HD1.out.msg, set_sum _ _ _ _ hlt]) (Off.set (O := only M) (b := M) _ _ _ rfl) (setSum_lists _ _ _).1 (setSum_lists _ _ _).2, HO1.out.trans (Off.set (O := O) (b := M) _ _ _ H0.out.oM) (Sub.refl _ _)⟩
      case measure => simp [intOf]; omega
    · obtain rfl : k = 6 := by omega
      have HD := Lib.hid hd
      have HO := Lib.hid ho
      clear hd ho hpos
      go_wp2
      go_end0
      exact ⟨rfl, HD.out.tk HO.out⟩

theorem set_body (m : Msg) (ev iv : Value) (s : ByteArray) : (msgC m ev iv).setIfInBounds 32 (.string s) = msgC { m with body := s } ev iv := by
  simp only [msgC, List.setIfInBounds_toArray, List.set_cons_zero, List.set_cons_succ]

theorem DAt.body {w : World} {O : Nat → Prop} {M R : Nat} {p : Option Addr} {cap : Nat} {l : List UInt8} {r : Rd} {m : Msg} {ev iv : Value} (h : DAt w O M R p cap l r m ev iv) (s : ByteArray) : Tk O M R p cap l ({ m with body := s }, r) w ((w.setCell ⟨M, 32, none⟩ (.string s)).drew) := by
  have h1 : DAt (w.setCell ⟨M, 32, none⟩ (.string s)) O M R p cap l r { m with body := s } ev iv := h.put (by rw [set_block 32 _ h.msg, set_body]) (Off.set (O := only M) (b := M) _ _ _ rfl) rfl rfl
  exact DAt.tk (q := ({ m with body := s }, r)) (h1.quiet (below_drewN (Below.refl _ _) 1)) ((Off.set (O := O) (b := M) _ _ _ h.oM).trans (Off.of_below (O := O) (below_drewN (Below.refl _ _) 1)) (Sub.refl _ _))

set_option maxRecDepth 100000 in
set_option maxHeartbeats 4000000 in
theorem take_B (w : World) (O : Nat → Prop) (M R pb : Nat) (cap : Nat) (l : List UInt8) (r : Rd) (m : Msg) (ev iv : Value) (h : DAt w O M R (some ⟨pb, 0, none⟩) cap l r m ev iv) (hp : r.pos ≤ 800000) :
    Calls Tryd.prog 54 #[.pointer (some ⟨R, 0, none⟩), .pointer (some ⟨M, 0, none⟩), .int .i32 66] w fun x w' => x = .returned (.tuple #[]) ∧ Tk O M R (some ⟨pb, 0, none⟩) cap l ({ m with body := str (l.drop (min r.pos l.length)) }, r) w w' := by
  have H0 := Lib.hid h
  have hne := h.ne
  have hle := h.rd.le
  have hmx : cap ≤ 9223372036854775807 := h.rd.max
  have hln := h.rd.len
  have c0 : w.cell? ⟨R, 0, none⟩ = some (.slice (some ⟨pb, 0, none⟩) l.length cap) := cell_of_row _ _ _ _ _ _ h.rd.blk
  have c1 : w.cell? ⟨R, 1, none⟩ = some (.int .i64 r.pos) := cell_of_row _ _ _ _ _ _ h.rd.blk
  obtain ⟨v0, hc⟩ := h.has 32 (by omega)
  have hz := frozen_row h.msg 32
  obtain ⟨k, hk⟩ : ∃ k, k = min r.pos l.length := ⟨_, rfl⟩
  rw [← hk]
  have hkn : k ≤ l.length := by omega
  obtain ⟨q, hq⟩ : ∃ q, q = r.pos := ⟨_, rfl⟩
  obtain ⟨n, hn⟩ : ∃ n, n = l.length := ⟨_, rfl⟩
  have hmin : min (q : Int) (n : Int) = (k : Int) := by omega
  rw [← hq] at c1
  rw [← hn] at c0 hle hln hkn
  have hls : (l.drop k).length = n - k := by rw [List.length_drop]; omega
  have hoff := HoldsBytes.at (p := some ⟨pb, 0, none⟩) (cap := cap) (l := l) (w := w) h.rd.bytes
  clear h
  by_cases hck : cap = k
  · have hnk : n = k := by omega
    have hem : l.drop k = [] := by rw [← List.length_eq_zero_iff, hls]; omega
    have hkc : ∀ wx, (convert 51 9 (.slice (some ⟨pb, 0, none⟩) 0 0)).run Tryd.prog wx = .ok (.string (str [])) wx := fun wx => conv_holds (P := Tryd.prog) (l := []) 51 5 9 Tryd.underlying51 Tryd.underlying5 Tryd.underlying9 ⟨_, 0, rfl, (fun h => by cases h), fun _ _ i x hx => by simp at hx⟩
    rw [hem]
    subst hnk
    subst hck
    clear hem hls hoff hk hq hn
    go_enter Tryd.func54, Tryd.ntmps54
    go_wp2_with fail
    go_region_held3 (fun w' => w'.cell? ⟨R, 0, none⟩ = some (.slice (some ⟨pb, 0, none⟩) cap cap) ∧ w'.cell? ⟨R, 1, none⟩ = some (.int .i64 q))
      (first | go_keep)
      (first | fail)
    go_wp2
    go_end0
    exact ⟨rfl, H0.out.body _⟩
  · have hkc : ∀ wx, Below w.heap.size w wx → (convert 51 9 (.slice (some ⟨pb, k, none⟩) (n - k) (cap - k))).run Tryd.prog wx = .ok (.string (str (l.drop k))) wx := fun wx hb => by
      by_cases h0 : 0 < l.length
      · obtain ⟨b', o', e, hc2⟩ := hoff h0
        simp only [Option.some.injEq, Addr.mk.injEq, and_true] at e
        obtain ⟨rfl, rfl⟩ := e
        have h := conv_holds (P := Tryd.prog) 51 5 9 Tryd.underlying51 Tryd.underlying5 Tryd.underlying9 (sub_holds hc2 hb k (n - k) (cap - k))
        rw [List.take_of_length_le (by omega), hls, Nat.zero_add] at h
        exact h
      · have e0 : l = [] := List.length_eq_zero_iff.1 (by omega)
        have hn0 : n - k = 0 := by rw [hn, e0]; simp
        rw [hn0, e0, List.drop_nil]
        exact conv_holds (P := Tryd.prog) (l := []) 51 5 9 Tryd.underlying51 Tryd.underlying5 Tryd.underlying9 ⟨_, _, rfl, (fun h => by cases h), fun _ _ i x hx => by simp at hx⟩
    have kc : (convert 51 9 (.slice (some ⟨pb, k, none⟩) (n - k) (cap - k))).run Tryd.prog w.drew = .ok (.string (str (l.drop k))) w.drew := hkc _ (below_drewN (Below.refl w.heap.size w) 1)
    have kc2 := hkc _ (Below.refl w.heap.size w)
    have hkcap : k ≤ cap := by omega
    clear hls hoff hk hq hn hkc
    go_enter Tryd.func54, Tryd.ntmps54
    go_wp2_with fail
    go_still_tail 19, (by kernel_rfl)
    go_wp2
    go_end0
    exact ⟨rfl, H0.out.body _⟩

end Go.Proofs.YtmidfknlmjgjpaaDoor
