/- What a client meets: the walks of far and data. (Written by gen_cl6.py.) -/
import Derived.Test.YtmidfknlmjgjpaaDoorCl2
import Derived.Test.YtmidfknlmjgjpaaDoorLong
namespace Go.Proofs.YtmidfknlmjgjpaaDoor
open Go.RowKit

theorem ret_dec {a b : Bool} (h : a = b) : Ending.returned (.bool a) = .returned (.bool b) := by rw [h]

structure Play where
  kind : Int
  operation : Int
  body : ByteArray
  m : Msg
  raw : ByteArray

def playC (x : Play) (ev iv : Value) : Array Value := #[.int .i64 x.kind, .int .i64 x.operation, .string x.body, .int .i64 x.m.kind, .int .i64 x.m.src, .int .i64 x.m.view, .int .i64 x.m.logView, .int .i64 x.m.op, .int .i64 x.m.commit, .int .i64 x.m.client, .int .i64 x.m.session, .int .i64 x.m.request, .int .i64 x.m.operation, .int .i64 x.m.index, .int .i64 x.m.size, .int .i64 x.m.check.op, .int .i64 x.m.check.view, .int .u64 x.m.check.sum, .int .u64 x.m.s0, .int .u64 x.m.s1, .int .u64 x.m.s2, .int .u64 x.m.s3, .int .u64 x.m.s4, .int .u64 x.m.s5, .int .i64 x.m.entry.view, .int .i64 x.m.entry.op, .int .i64 x.m.entry.under, .int .u64 x.m.entry.parent, .int .i64 x.m.entry.client, .int .i64 x.m.entry.session, .int .i64 x.m.entry.request, .int .i64 x.m.entry.operation, .string x.m.entry.body, ev, iv, .string x.m.body, .string x.raw]

/-- No more than is gone through. -/
structure Play.near (x : Play) : Prop where
  body : x.body.size ≤ 5000
  raw : x.raw.size ≤ 5000
  items : x.m.items = []
  entries : x.m.entries = []
  mbody : x.m.body.size ≤ 5000
  ebody : x.m.entry.body.size ≤ 5000
structure Play.fit (x : Play) : Prop where
  m : x.m.fit
  body : x.body.size ≤ maxLen
  raw : x.raw.size ≤ maxLen
  op : -9223372036854775808 ≤ x.operation ∧ x.operation ≤ 9223372036854775807

set_option maxRecDepth 100000 in
set_option maxHeartbeats 4000000 in
theorem far_any (x : Play) (ea ia : Option Addr) (ec ic : Nat) (w : World) (hf : x.fit) :
    Calls Tryd.prog 25 #[.agg (playC x (.slice ea x.m.entries.length ec) (.slice ia x.m.items.length ic))] w fun e w' => AnsB (fun b => b = false → x.near) e ∧ Below w.heap.size w w' := by
  have b1 : x.body.size ≤ 9223372036854775807 := hf.body
  have b2 : x.raw.size ≤ 9223372036854775807 := hf.raw
  have b3 : x.m.items.length ≤ 9223372036854775807 := hf.m.len2
  have b4 : x.m.entries.length ≤ 9223372036854775807 := hf.m.len1
  have b5 : x.m.body.size ≤ 9223372036854775807 := hf.m.body
  have b6 : x.m.entry.body.size ≤ 9223372036854775807 := hf.m.entry.1.2
  clear hf

  by_cases h0 : 5000 < x.body.size
  · unfold playC
    go_enter Tryd.func25, Tryd.ntmps25
    go_wp2
    go_ret
    exact ⟨⟨true, rfl, fun h => by cases h⟩, (Below.refl _ _).alloc (Nat.le_refl _) _⟩
  by_cases h1 : 5000 < x.raw.size
  · unfold playC
    go_enter Tryd.func25, Tryd.ntmps25
    go_wp2
    go_ret
    exact ⟨⟨true, rfl, fun h => by cases h⟩, (Below.refl _ _).alloc (Nat.le_refl _) _⟩
  by_cases h2 : 0 < x.m.items.length
  · unfold playC
    go_enter Tryd.func25, Tryd.ntmps25
    go_wp2
    go_ret
    exact ⟨⟨true, rfl, fun h => by cases h⟩, (Below.refl _ _).alloc (Nat.le_refl _) _⟩
  by_cases h3 : 0 < x.m.entries.length
  · unfold playC
    go_enter Tryd.func25, Tryd.ntmps25
    go_wp2
    go_ret
    exact ⟨⟨true, rfl, fun h => by cases h⟩, (Below.refl _ _).alloc (Nat.le_refl _) _⟩
  by_cases h4 : 5000 < x.m.body.size
  · unfold playC
    go_enter Tryd.func25, Tryd.ntmps25
    go_wp2
    go_ret
    exact ⟨⟨true, rfl, fun h => by cases h⟩, (Below.refl _ _).alloc (Nat.le_refl _) _⟩
  by_cases h5 : 5000 < x.m.entry.body.size
  · unfold playC
    go_enter Tryd.func25, Tryd.ntmps25
    go_wp2
    go_ret
    exact ⟨⟨true, ret_dec (by simp; omega), fun h => by cases h⟩, (Below.refl _ _).alloc (Nat.le_refl _) _⟩
  have hn : x.near := ⟨by omega, by omega, List.eq_nil_of_length_eq_zero (by omega), List.eq_nil_of_length_eq_zero (by omega), by omega, by omega⟩
  have HN := Lib.hid hn
  clear hn
  unfold playC
  go_enter Tryd.func25, Tryd.ntmps25
  go_wp2
  go_ret
  exact ⟨⟨false, ret_dec (by simp; omega), fun _ => HN.out⟩, (Below.refl _ _).alloc (Nat.le_refl _) _⟩

/-- What comes. -/
def Play.data (x : Play) : ByteArray := if x.raw.toList.isEmpty = true then x.m.enc.1 else x.raw

theorem play_range (x : Play) (ev iv : Value) (w wr : World) (hb : Below (w.heap.size + 1) (w.alloc (.cells (playC x ev iv) 55)) wr) : wr.rangeAt w.heap.size 3 (msgC x.m ev iv).toList := by
  intro j v hv
  have hj : j < 33 := (List.getElem?_eq_some_iff.1 hv).1
  rw [hb.cell (by simp), cell_of_row _ w.heap.size _ _ _ _ (heap_alloc_new w _)]
  match j, hv, hj with
  | 0, hv, _ => exact hv
  | 1, hv, _ => exact hv
  | 2, hv, _ => exact hv
  | 3, hv, _ => exact hv
  | 4, hv, _ => exact hv
  | 5, hv, _ => exact hv
  | 6, hv, _ => exact hv
  | 7, hv, _ => exact hv
  | 8, hv, _ => exact hv
  | 9, hv, _ => exact hv
  | 10, hv, _ => exact hv
  | 11, hv, _ => exact hv
  | 12, hv, _ => exact hv
  | 13, hv, _ => exact hv
  | 14, hv, _ => exact hv
  | 15, hv, _ => exact hv
  | 16, hv, _ => exact hv
  | 17, hv, _ => exact hv
  | 18, hv, _ => exact hv
  | 19, hv, _ => exact hv
  | 20, hv, _ => exact hv
  | 21, hv, _ => exact hv
  | 22, hv, _ => exact hv
  | 23, hv, _ => exact hv
  | 24, hv, _ => exact hv
  | 25, hv, _ => exact hv
  | 26, hv, _ => exact hv
  | 27, hv, _ => exact hv
  | 28, hv, _ => exact hv
  | 29, hv, _ => exact hv
  | 30, hv, _ => exact hv
  | 31, hv, _ => exact hv
  | 32, hv, _ => exact hv

set_option maxRecDepth 100000 in
set_option maxHeartbeats 4000000 in
theorem data_any (x : Play) (ea ia : Option Addr) (ec ic : Nat) (w : World) (ha : AllAt w) (hf : x.fit) (hn : x.near) :
    Calls Tryd.prog 27 #[.agg (playC x (.slice ea x.m.entries.length ec) (.slice ia x.m.items.length ic))] w fun e w' => e = .returned (.string x.data) ∧ Below w.heap.size w w' := by
  have hb1 : Below w.heap.size w (w.alloc (.cells (playC x (.slice ea x.m.entries.length ec) (.slice ia x.m.items.length ic)) 55)) := (Below.refl _ _).alloc (Nat.le_refl _) _
  have HB1 := Lib.hid hb1
  have HA := Lib.hid (ha.later hb1)
  have hr := play_range x (.slice ea x.m.entries.length ec) (.slice ia x.m.items.length ic) w _ (Below.refl _ _)
  have HR := Lib.hid hr
  have e1 : x.m.entries.length = 0 := by rw [hn.entries]; rfl
  have e2 : x.m.items.length = 0 := by rw [hn.items]; rfl
  have q36 : ∀ ev iv, (playC x ev iv)[36]? = some (.string x.raw) := fun _ _ => rfl
  cases h0 : x.raw.toList.isEmpty
  · have hd : x.data = x.raw := by rw [Play.data, h0]; rfl
    have HD := Lib.hid hd
    rw [hd]
    clear hb1 hr hd HD ha hn hf e1 e2
    go_enter Tryd.func27, Tryd.ntmps27
    go_wp2
    go_ret
    exact ⟨rfl, HB1.out⟩
  · obtain ⟨s, hs⟩ : ∃ s, x.m.enc.1 = s := ⟨_, rfl⟩
    obtain ⟨n, hn1⟩ : ∃ n, x.m.enc.2 = n := ⟨_, rfl⟩
    have hd : x.data = s := by rw [Play.data, h0, if_pos rfl, hs]
    rw [hd]
    have hE : ∀ wx, AllAt wx → Calls Tryd.prog 12 #[.agg (msgC x.m (.slice ea x.m.entries.length ec) (.slice ia x.m.items.length ic)).toList.toArray] wx fun e w' => e = .returned (.tuple #[.string s, .int .i64 n]) ∧ Below wx.heap.size wx w' := fun wx hx => by
      have := encode_any x.m ea ia ec ic wx hx hf.m (by omega) (by omega) (fun h => absurd h (by omega)) (fun h => absurd h (by omega))
      rw [hs, hn1] at this
      exact this
    have HE := Lib.hid hE
    have hlW := fun (o : Oper) (ops : Array Oper) (rest : List Oper) (a : Act) (Q : Exit → Act → World → Prop) (hgd : o.guard = none) (y : Operand) (ho : o.op = .load 31 y) (hx : a.eval y = .pointer (some ⟨w.heap.size, 3, none⟩)) h =>
      wpList_load_mid (P := Tryd.prog) (w := w.alloc (.cells (playC x (.slice ea x.m.entries.length ec) (.slice ia x.m.items.length ic)) 55)) (ops := ops) (rest := rest) (a := a) (Q := Q) hgd 31 y ho w.heap.size 3 hx _ _ HR.out Tryd.underlying31 rfl msg_info h
    have HLW := Lib.hid hlW
    clear hb1 hr hd ha hn hf hE hlW hs hn1 e1 e2
    go_enter Tryd.func27, Tryd.ntmps27
    go_wp2_with (first | (refine HLW.out ⟨some 12, _, _, _, _, _⟩ _ _ _ _ rfl _ rfl rfl ?_) | (go_at_call 12; refine (HE.out _ HA.out).mono ?_; rintro y w3 ⟨rfl, hb3⟩; have HB3 := Lib.hid (HB1.out.trans (hb3.mono HB1.out.size)); clear hb3))
    go_ret
    exact ⟨rfl, HB3.out⟩

end Go.Proofs.YtmidfknlmjgjpaaDoor
