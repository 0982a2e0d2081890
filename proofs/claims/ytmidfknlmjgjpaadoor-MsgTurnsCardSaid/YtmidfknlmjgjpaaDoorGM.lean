/- The reader of a body, in plain words; what it makes of a message's own bytes. No walk. A message's own bytes are read as that message. Plain. -/
import Derived.Test.YtmidfknlmjgjpaaDoorGK
import Derived.Test.YtmidfknlmjgjpaaDoorGL
import Derived.Test.YtmidfknlmjgjpaaDoorKAwake
namespace Go.Proofs.YtmidfknlmjgjpaaDoor
open Go.RowKit

/-- Where a reader stands; has it met bytes that are none? -/
structure Rd where
  pos : Nat
  bad : Bool

def rdNum (l : List UInt8) (k : Nat) (r : Rd) : Nat × Rd := ((takeN l r.pos k).1, ⟨r.pos + k, r.bad || ((takeN l r.pos k).2 != 0)⟩)
def rdEntry (l : List UInt8) (r : Rd) : Entry × Rd :=
  ((unpackE (takeT l r.pos 4096).1).getD zeroEntry, ⟨(takeT l r.pos 4096).2.1, r.bad || ((takeT l r.pos 4096).2.2 != 0) || (unpackE (takeT l r.pos 4096).1).isNone⟩)
def rdStub (l : List UInt8) (r : Rd) : Stub × Rd :=
  let a := rdNum l 8 r
  let b := rdNum l 8 a.2
  let c := rdNum l 8 b.2
  let d := rdNum l 8 c.2
  let e := rdNum l 8 d.2
  ({ op := i64 a.1, view := i64 b.1, under := i64 c.1, parent := (d.1 : Int), sum := (e.1 : Int) }, e.2)
def rdItem (l : List UInt8) (r : Rd) : Item × Rd :=
  let k := rdNum l 1 r
  if k.1 = 1 then ({ kind := 1, stub := (rdEntry l k.2).1.stub, entry := (rdEntry l k.2).1 }, (rdEntry l k.2).2)
  else if k.1 = 2 then ({ kind := 2, stub := (rdStub l k.2).1, entry := zeroEntry }, (rdStub l k.2).2)
  else ({ kind := (k.1 : Int), stub := zeroStub, entry := zeroEntry }, k.2)
def rdMark (l : List UInt8) (r : Rd) : Mark × Rd :=
  let a := rdNum l 8 r
  let b := rdNum l 8 a.2
  let c := rdNum l 8 b.2
  ({ op := i64 a.1, view := i64 b.1, sum := (c.1 : Int) }, c.2)
/-- So many of a kind, as long as no byte is none. -/
def rdMany {α : Type} (f : Rd → α × Rd) : Nat → Rd → List α × Rd
  | 0, r => ([], r)
  | n + 1, r => if r.bad = true then ([], r) else ((f r).1 :: (rdMany f n (f r).2).1, (rdMany f n (f r).2).2)
/-- The six sums. -/
def rdSums (l : List UInt8) : Nat → Rd → List Nat × Rd
  | 0, r => ([], r)
  | n + 1, r => ((rdNum l 8 r).1 :: (rdSums l n (rdNum l 8 r).2).1, (rdSums l n (rdNum l 8 r).2).2)

/-- A field of a body. -/
def rdTake (l : List UInt8) (m : Msg) (f : UInt8) (r : Rd) : Msg × Rd :=
  if f = 67 then ({ m with check := (rdMark l r).1 }, (rdMark l r).2)
  else if f = 83 then
    let q := rdSums l 6 r
    ({ m with s0 := (q.1.getD 0 0 : Nat), s1 := (q.1.getD 1 0 : Nat), s2 := (q.1.getD 2 0 : Nat), s3 := (q.1.getD 3 0 : Nat), s4 := (q.1.getD 4 0 : Nat), s5 := (q.1.getD 5 0 : Nat) }, q.2)
  else if f = 69 then ({ m with entry := (rdEntry l r).1 }, (rdEntry l r).2)
  else if f = 76 then
    let n := rdNum l 1 r
    ({ m with entries := m.entries ++ (rdMany (rdEntry l) n.1 n.2).1 }, (rdMany (rdEntry l) n.1 n.2).2)
  else if f = 73 then ({ m with items := m.items ++ (rdMany (rdItem l) 8 r).1 }, (rdMany (rdItem l) 8 r).2)
  else if f = 66 then ({ m with body := str (l.drop (min r.pos l.length)) }, r)
  else (m, r)

/-- What a header says of a message. -/
def baseM (h : Head) : Msg :=
  { kind := h.kind, src := h.src, view := h.view, logView := h.a, op := h.op, commit := h.commit, client := h.client, session := h.session, request := h.request, operation := h.operation, index := if h.kind = 13 then 0 else h.b, size := if h.kind = 13 then h.b else 0,
    check := ⟨0, 0, 0⟩, s0 := 0, s1 := 0, s2 := 0, s3 := 0, s4 := 0, s5 := 0, entry := zeroEntry, entries := [], items := [], body := str [] }
def rdParts (l : List UInt8) (k : Int) : List UInt8 → Msg × Rd → Msg × Rd
  | [], q => q
  | f :: fs, q => rdParts l k fs (if (fieldsOf k).contains f = true then rdTake l q.1 f q.2 else q)
/-- What is read of a header and a body. -/
def readM (h : Head) (b : List UInt8) : Msg × Rd := rdParts b h.kind orderL (baseM h, ⟨0, false⟩)
/-- What msg.Decode answers. -/
def decM (s : List UInt8) : Option Msg := match unpackH s with
  | none => none
  | some (h, b) => if 1 ≤ h.kind ∧ h.kind ≤ 16 ∧ (readM h b).2.bad = false ∧ (readM h b).1.enc = (str s, 0) then some (readM h b).1 else none

theorem decM_enc {s : List UInt8} {m : Msg} (h : decM s = some m) : m.enc = (str s, 0) := by
  unfold decM at h
  split at h
  · cases h
  · split at h
    · rename_i hc
      rw [← Option.some.inj h]
      exact hc.2.2.2
    · cases h

/-! ### What was laid is read -/
/-- The reader stands ahead of these bytes. -/
def RdOk (l : List UInt8) (r : Rd) (rest : List UInt8) : Prop := r.bad = false ∧ r.pos ≤ l.length ∧ l.drop r.pos = rest

theorem RdOk.len {l : List UInt8} {r : Rd} {rest : List UInt8} (h : RdOk l r rest) : rest.length = l.length - r.pos := by
  rw [← h.2.2, List.length_drop]

theorem drop_add {l : List UInt8} {p k : Nat} {a rest : List UInt8} (h : l.drop p = a ++ rest) (hk : a.length = k) : l.drop (p + k) = rest := by
  rw [← List.drop_drop, h, ← hk, List.drop_left]

theorem rdNum_ok {l : List UInt8} {r : Rd} {rest : List UInt8} {n k : Nat} (h : RdOk l r (Pl.putLE n k ++ rest)) (hn : n < 256 ^ k) : (rdNum l k r).1 = n ∧ RdOk l (rdNum l k r).2 rest := by
  have hl := h.len
  have hp : (Pl.putLE n k).length = k := Pl.putLE_length n k
  rw [List.length_append, hp] at hl
  obtain ⟨h1, h2, h3⟩ := h
  have e : takeN l r.pos k = (n, 0) := by
    rw [takeN, if_pos ⟨h2, by omega⟩, h3]
    rw [show (Pl.putLE n k ++ rest).take k = Pl.putLE n k by rw [List.take_append_of_le_length (by omega), List.take_of_length_le (by omega)]]
    rw [Pl.getLE_putLE n k hn]
  unfold rdNum
  rw [e]
  refine ⟨rfl, by simp [h1], by show r.pos + k ≤ l.length; omega, drop_add h3 hp⟩

theorem i64_small {n : Nat} (h : n < 9223372036854775808) : i64 n = (n : Int) := by
  unfold i64 wrap64
  omega

theorem take_left' {a rest : List UInt8} {k : Nat} (hk : a.length = k) : (a ++ rest).take k = a := by rw [← hk]; exact List.take_left

theorem i64_fit {n : Int} (h : fitB n = true) : i64 (n.toNat % 18446744073709551616) = n := by
  simp only [fitB, Bool.and_eq_true, decide_eq_true_eq] at h
  rw [Nat.mod_eq_of_lt (by omega), i64_small (by omega)]
  omega
theorem fit_pow {n : Int} (h : fitB n = true) : n.toNat < 256 ^ 8 := by
  simp only [fitB, Bool.and_eq_true, decide_eq_true_eq] at h
  have h4 : (256 : Nat) ^ 8 = 18446744073709551616 := by decide
  omega
theorem i64_fit' {n : Int} (h : fitB n = true) : i64 n.toNat = n := by
  simp only [fitB, Bool.and_eq_true, decide_eq_true_eq] at h
  rw [i64_small (by omega)]
  omega

theorem numAt_of {l : List UInt8} {k : Nat} {n : Int} {rest : List UInt8} (hd : l.drop (24 + 8 * k) = Pl.putLE n.toNat 8 ++ rest) (h : fitB n = true) : numAt l k = n ∧ l.drop (24 + 8 * (k + 1)) = rest := by
  refine ⟨?_, ?_⟩
  · rw [numAt, hd, take_left' (Pl.putLE_length _ _), Pl.getLE_putLE _ _ (fit_pow h), i64_fit' h]
  · rw [show 24 + 8 * (k + 1) = 24 + 8 * k + 8 by omega]; exact drop_add hd (Pl.putLE_length _ _)

theorem byte_of {n : Int} (h : byteB n = true) : ((byteOf n).toNat : Int) = n := by
  simp only [byteB, Bool.and_eq_true, decide_eq_true_eq] at h
  rw [byteOf, UInt8.toNat_ofNat']
  omega

theorem getD_drop {l : List UInt8} {i j : Nat} {a : UInt8} (h : (l.drop i)[j]? = some a) : l.getD (i + j) 0 = a := by
  rw [List.getElem?_drop] at h
  rw [List.getD_eq_getElem?_getD, h]; rfl

theorem unpack_pack {h : Head} {b : List UInt8} (hr : h.right = true) (hp : U64 h.parent) (hb : b.length ≤ 3968) : unpackH (h.pack b) = some (h, b) := by
  obtain ⟨l, hl⟩ : ∃ l, l = h.pack b := ⟨_, rfl⟩
  have e0 : l.drop 0 = Pl.putLE (Pl.crcSum (h.mid b)) 4 ++ (Pl.putLE (Pl.crcSum b) 4 ++ ([byteOf h.kind, byteOf h.src, byteOf h.operation, 0] ++ (Pl.putLE b.length 4 ++ (Pl.putLE h.parent.toNat 8 ++ (Pl.putLE h.view.toNat 8 ++ (Pl.putLE h.op.toNat 8 ++ (Pl.putLE h.commit.toNat 8 ++ (Pl.putLE h.client.toNat 8 ++ (Pl.putLE h.session.toNat 8 ++ (Pl.putLE h.request.toNat 8 ++ (Pl.putLE h.a.toNat 8 ++ (Pl.putLE h.b.toNat 8 ++ (List.replicate 40 0 ++ b))))))))))))) := by
    rw [List.drop_zero, hl]
    simp only [Head.pack, Head.mid, Head.front, Head.numB, Head.nums, List.map_cons, List.map_nil, List.flatten_cons, List.flatten_nil, List.append_assoc, List.append_nil]
  have hlen : l.length = 128 + b.length := by
    have := congrArg List.length e0
    simp only [List.drop_zero, List.length_append, Pl.putLE_length, List.length_replicate, List.length_cons, List.length_nil] at this
    omega
  simp only [Head.right, Head.small, Head.nums, List.all_cons, List.all_nil, Bool.and_true, Bool.and_eq_true] at hr
  obtain ⟨⟨s1, s2, s3⟩, n0, n1, n2, n3, n4, n5, n6, n7⟩ := hr
  have hr' : h.right = true := by simp [Head.right, Head.small, Head.nums, s1, s2, s3, n0, n1, n2, n3, n4, n5, n6, n7]
  have e4 := drop_add e0 (Pl.putLE_length _ _)
  have e8 := drop_add e4 (Pl.putLE_length _ _)
  have e12 := drop_add e8 (k := 4) rfl
  have e16 := drop_add e12 (Pl.putLE_length _ _)
  have e24 := drop_add e16 (Pl.putLE_length _ _)
  simp only [Nat.zero_add, Nat.reduceAdd] at e4 e8 e12 e16 e24
  obtain ⟨a0, e32⟩ := numAt_of (k := 0) e24 n0
  obtain ⟨a1, e40⟩ := numAt_of e32 n1
  obtain ⟨a2, e48⟩ := numAt_of e40 n2
  obtain ⟨a3, e56⟩ := numAt_of e48 n3
  obtain ⟨a4, e64⟩ := numAt_of e56 n4
  obtain ⟨a5, e72⟩ := numAt_of e64 n5
  obtain ⟨a6, e80⟩ := numAt_of e72 n6
  obtain ⟨a7, e88⟩ := numAt_of e80 n7
  simp only [Nat.zero_add, Nat.reduceAdd, Nat.reduceMul] at a0 a1 a2 a3 a4 a5 a6 a7 e88
  have e128 := drop_add e88 (k := 40) (by simp)
  simp only [Nat.reduceAdd] at e128
  have k8 : l.getD 8 0 = byteOf h.kind := getD_drop (i := 8) (j := 0) (by rw [e8]; rfl)
  have k9 : l.getD 9 0 = byteOf h.src := getD_drop (i := 8) (j := 1) (by rw [e8]; rfl)
  have k10 : l.getD 10 0 = byteOf h.operation := getD_drop (i := 8) (j := 2) (by rw [e8]; rfl)
  have kp : ((Pl.getLE ((l.drop 16).take 8) : Nat) : Int) = h.parent := by
    rw [e16, take_left' (Pl.putLE_length _ _), Pl.getLE_putLE _ _ hp.pow8]
    have := hp.1; omega
  have hh : headOf l = h := by
    unfold headOf
    rw [k8, k9, k10, kp, a0, a1, a2, a3, a4, a5, a6, a7, byte_of s1, byte_of s2, byte_of s3]
  rw [← hl, unpackH, hh, e128, if_pos ⟨by omega, hr', by omega, hl.symm⟩]

theorem unpackE_bytes {e : Entry} (hr : e.right = true) (hw : e.wf) : unpackE e.bytes = some e := by
  have h1 : e.head.right = true ∧ e.body.size ≤ 200 := by
    simp only [Entry.right, Bool.and_eq_true, decide_eq_true_eq] at hr
    exact ⟨hr.1.1.1.1.1, hr.2⟩
  have h2 : unpackH e.bytes = some (e.head, e.body.data.toList) := unpack_pack h1.1 hw.1 (by simp; omega)
  have h3 : entOf e.head e.body.data.toList = e := by
    obtain ⟨a, b, c, d, f, g, h, i, j⟩ := e; rfl
  have h4 : e.head.beq e.head = true := by simp [Head.beq]
  rw [unpackE, h2]
  simp only [h3, h4, hr, and_self, if_true]

theorem rdEntry_ok {l : List UInt8} {r : Rd} {rest : List UInt8} {e : Entry} (h : RdOk l r (textB e ++ rest)) (hr : e.right = true) (hw : e.wf) : (rdEntry l r).1 = e ∧ RdOk l (rdEntry l r).2 rest := by
  have hs : e.body.size ≤ 200 := by
    simp only [Entry.right, Bool.and_eq_true, decide_eq_true_eq] at hr
    exact hr.2
  have hbl : e.bytes.length = 128 + e.body.size := ent_bytes_length e
  obtain ⟨n, hn⟩ : ∃ n, n = 128 + e.body.size := ⟨_, rfl⟩
  rw [← hn] at hbl
  have hb : textB e = Pl.putLE n 2 ++ e.bytes := by rw [hn]; rfl
  rw [hb, List.append_assoc] at h
  have hl := h.len
  rw [List.length_append, List.length_append, Pl.putLE_length, hbl] at hl
  have h4 : (256 : Nat) ^ 2 = 65536 := by decide
  obtain ⟨h1, h2, h3⟩ := h
  have t2 : takeN l r.pos 2 = (n, 0) := by
    rw [takeN, if_pos ⟨h2, by omega⟩, h3, take_left' (Pl.putLE_length _ _), Pl.getLE_putLE _ _ (by omega)]
  have hd := drop_add h3 (Pl.putLE_length _ _)
  have tt : takeT l r.pos 4096 = (e.bytes, r.pos + 2 + n, 0) := by
    unfold takeT
    rw [t2]
    simp only [ne_eq, not_true_eq_false, if_false]
    rw [if_neg (by omega), if_neg (by omega), hd, take_left' hbl]
  unfold rdEntry
  rw [tt]
  simp only [unpackE_bytes hr hw]
  refine ⟨rfl, by simp [h1], by show r.pos + 2 + n ≤ l.length; omega, drop_add hd hbl⟩

theorem rdStub_ok {l : List UInt8} {r : Rd} {rest : List UInt8} {s : Stub} (h : RdOk l r (flat8 s.nums ++ rest)) (hr : s.right = true) (hp : U64 s.parent) (hs : U64 s.sum) : (rdStub l r).1 = s ∧ RdOk l (rdStub l r).2 rest := by
  simp only [Stub.right, Bool.and_eq_true, decide_eq_true_eq] at hr
  obtain ⟨⟨⟨⟨g1, g2⟩, g3⟩, g4⟩, g5⟩ := hr
  simp only [flat8, Stub.nums, List.map_cons, List.map_nil, List.flatten_cons, List.flatten_nil, List.append_assoc, List.append_nil] at h
  have f1 : fitB s.op = true := by simp [fitB]; omega
  have f2 : fitB s.view = true := by simp [fitB]; omega
  have f3 : fitB s.under = true := by simp [fitB]; omega
  have k1 := rdNum_ok h (fit_pow f1)
  have k2 := rdNum_ok k1.2 (fit_pow f2)
  have k3 := rdNum_ok k2.2 (fit_pow f3)
  have k4 := rdNum_ok k3.2 hp.pow8
  have k5 := rdNum_ok k4.2 hs.pow8
  refine ⟨?_, k5.2⟩
  unfold rdStub
  simp only [k1.1, k2.1, k3.1, k4.1, k5.1, i64_fit' f1, i64_fit' f2, i64_fit' f3]
  obtain ⟨a, b, c, d, e⟩ := s
  have := hp.1
  have := hs.1
  simp only [Stub.mk.injEq, true_and]
  simp only at *
  omega

theorem rdMark_ok {l : List UInt8} {r : Rd} {rest : List UInt8} {m : Mark} (h : RdOk l r (flat8 [m.op, m.view, m.sum] ++ rest)) (f1 : fitB m.op = true) (f2 : fitB m.view = true) (hs : U64 m.sum) : (rdMark l r).1 = m ∧ RdOk l (rdMark l r).2 rest := by
  simp only [flat8, List.map_cons, List.map_nil, List.flatten_cons, List.flatten_nil, List.append_assoc, List.append_nil] at h
  have k1 := rdNum_ok h (fit_pow f1)
  have k2 := rdNum_ok k1.2 (fit_pow f2)
  have k3 := rdNum_ok k2.2 hs.pow8
  refine ⟨?_, k3.2⟩
  unfold rdMark
  simp only [k1.1, k2.1, k3.1, i64_fit' f1, i64_fit' f2]
  obtain ⟨a, b, c⟩ := m
  have := hs.1
  simp only [Mark.mk.injEq, true_and]
  simp only at *
  omega

theorem rdSums_ok {l : List UInt8} : ∀ (x : List Int) (r : Rd) (rest : List UInt8), RdOk l r (flat8 x ++ rest) → (∀ n ∈ x, U64 n) → (rdSums l x.length r).1 = x.map Int.toNat ∧ RdOk l (rdSums l x.length r).2 rest
  | [], r, rest, h, _ => ⟨rfl, h⟩
  | n :: x, r, rest, h, hu => by
    have hn := hu n (by simp)
    have h' : RdOk l r (Pl.putLE n.toNat 8 ++ (flat8 x ++ rest)) := by
      have : flat8 (n :: x) ++ rest = Pl.putLE n.toNat 8 ++ (flat8 x ++ rest) := by simp [flat8]
      rwa [this] at h
    have k1 := rdNum_ok h' hn.pow8
    have ih := rdSums_ok x _ rest k1.2 (fun m hm => hu m (by simp [hm]))
    simp only [List.length_cons, rdSums, k1.1, List.map_cons]
    exact ⟨by rw [ih.1], ih.2⟩

theorem rdMany_ok {α : Type} {l : List UInt8} (f : Rd → α × Rd) (B : α → List UInt8) (ok : α → Prop) (hf : ∀ r x rest, RdOk l r (B x ++ rest) → ok x → (f r).1 = x ∧ RdOk l (f r).2 rest) : ∀ (x : List α) (r : Rd) (rest : List UInt8), RdOk l r ((x.map B).flatten ++ rest) → (∀ n ∈ x, ok n) → (rdMany f x.length r).1 = x ∧ RdOk l (rdMany f x.length r).2 rest
  | [], r, rest, h, _ => ⟨rfl, h⟩
  | n :: x, r, rest, h, hu => by
    have h' : RdOk l r (B n ++ ((x.map B).flatten ++ rest)) := by
      have : ((n :: x).map B).flatten ++ rest = B n ++ ((x.map B).flatten ++ rest) := by simp
      rwa [this] at h
    have k1 := hf r n _ h' (hu n (by simp))
    have ih := rdMany_ok f B ok hf x _ rest k1.2 (fun m hm => hu m (by simp [hm]))
    have hbad : ¬ r.bad = true := by rw [h.1]; simp
    simp only [List.length_cons, rdMany, if_neg hbad, k1.1]
    exact ⟨by rw [ih.1], ih.2⟩

theorem byteList (n : Nat) (hn : n < 256) : [UInt8.ofNat n] = Pl.putLE n 1 := by
  simp [Pl.putLE, Nat.mod_eq_of_lt hn]

theorem item_kinds' {t : Item} (hr : t.right = true) : 0 ≤ t.kind ∧ t.kind ≤ 3 := by
  by_cases h0 : t.kind = 0 ∨ t.kind = 3
  · omega
  · by_cases h1 : t.kind = 1
    · omega
    · by_cases h2 : t.kind = 2
      · omega
      · rw [Item.right, if_neg h0, if_neg h1, if_neg h2] at hr; cases hr
theorem item_one {t : Item} (hr : t.right = true) (h : t.kind = 1) : t.entry.right = true ∧ t.entry.stub = t.stub := by
  rw [Item.right, if_neg (by omega), if_pos h, Bool.and_eq_true] at hr
  exact ⟨hr.1, stub_beq hr.2⟩
theorem item_two {t : Item} (hr : t.right = true) (h : t.kind = 2) : t.stub.right = true ∧ t.entry = zeroEntry := by
  rw [Item.right, if_neg (by omega), if_neg (by omega), if_pos h, Bool.and_eq_true] at hr
  exact ⟨hr.1, entry_zero hr.2⟩
theorem item_none {t : Item} (hr : t.right = true) (h1 : ¬ t.kind = 1) (h2 : ¬ t.kind = 2) : t.stub = zeroStub ∧ t.entry = zeroEntry := by
  have hk := item_kinds' hr
  rw [Item.right, if_pos (by omega), Bool.and_eq_true] at hr
  exact ⟨stub_zero hr.1, entry_zero hr.2⟩

theorem rdItem_ok {l : List UInt8} {r : Rd} {rest : List UInt8} {t : Item} (h : RdOk l r (itemB t ++ rest)) (hr : t.right = true) (hw : t.wf) : (rdItem l r).1 = t ∧ RdOk l (rdItem l r).2 rest := by
  have hk : 0 ≤ t.kind ∧ t.kind ≤ 3 := item_kinds' hr
  have h' : RdOk l r (Pl.putLE t.kind.toNat 1 ++ ((if t.kind = 1 then textB t.entry else if t.kind = 2 then flat8 t.stub.nums else []) ++ rest)) := by
    rw [← List.append_assoc, ← byteList _ (by omega)]; exact h
  have k1 := rdNum_ok h' (by omega)
  unfold rdItem
  simp only [k1.1]
  by_cases h1 : t.kind = 1
  · rw [if_pos h1] at k1
    rw [if_pos (by omega)]
    obtain ⟨e1, e2⟩ := item_one hr h1
    have k2 := rdEntry_ok k1.2 e1 hw.1
    rw [k2.1]
    refine ⟨?_, k2.2⟩
    obtain ⟨a, b, c⟩ := t
    simp only at h1 e2
    rw [h1, e2]
  · rw [if_neg h1] at k1
    rw [if_neg (by omega)]
    by_cases h2 : t.kind = 2
    · rw [if_pos h2] at k1
      rw [if_pos (by omega)]
      obtain ⟨e1, e2⟩ := item_two hr h2
      have k2 := rdStub_ok k1.2 e1 hw.2.1 hw.2.2
      rw [k2.1]
      refine ⟨?_, k2.2⟩
      obtain ⟨a, b, c⟩ := t
      simp only at h2 e2
      rw [h2, e2]
    · rw [if_neg h2, List.nil_append] at k1
      rw [if_neg (by omega)]
      obtain ⟨e1, e2⟩ := item_none hr h1 h2
      refine ⟨?_, k1.2⟩
      obtain ⟨a, b, c⟩ := t
      simp only at e1 e2 hk
      simp only [Item.mk.injEq]
      exact ⟨by omega, e1.symm, e2.symm⟩

theorem contains_or (l : List UInt8) (f : UInt8) : l.contains f = true ∨ l.contains f = false := by cases l.contains f <;> simp

theorem head_base (m : Msg) (hr : rightM m = true) (hk : 1 ≤ m.kind ∧ m.kind ≤ 16) : ({ baseM m.head with check := m.check, s0 := m.s0, s1 := m.s1, s2 := m.s2, s3 := m.s3, s4 := m.s4, s5 := m.s5, entry := m.entry, entries := m.entries, items := m.items, body := m.body } : Msg) = m := by
  have h1 : (if m.kind = 13 then 0 else m.index + m.size) = m.index ∧ (if m.kind = 13 then m.index + m.size else 0) = m.size := by
    by_cases e : m.kind = 13
    · have := none_index hr (by rw [e]; decide)
      rw [if_pos e, if_pos e]; omega
    · have : (fieldsOf m.kind).contains 122 = false := by
        rcases kind_cases hk.1 hk.2 with h | h | h | h | h | h | h | h | h | h | h | h | h | h | h | h
        all_goals first | (rw [h]; decide) | exact absurd h e
      have := none_size hr this
      rw [if_neg e, if_neg e]; omega
  obtain ⟨a1, a2, a3, a4, a5, a6, a7, a8, a9, a10, a11, a12, a13, a14, a15, a16, a17, a18, a19, a20, a21, a22, a23⟩ := m
  simp only [baseM, Msg.head] at h1 ⊢
  simp only [Msg.mk.injEq, true_and, and_true]
  exact h1

theorem readM_ok {m : Msg} (hm : Fine m) : (readM m.head (bodyB m)).1 = m ∧ (readM m.head (bodyB m)).2.bad = false := by
  have hr := hm.right
  obtain ⟨hk, h2, h3, h4, h5, h6, h7⟩ := rightM_parts hr
  obtain ⟨_, _, _, f1, f2⟩ := headOk_true h2
  obtain ⟨l1, l2, l3, l4⟩ := lists_parts h7
  have hb := head_base m hr hk
  obtain ⟨l, hl⟩ : ∃ l, l = bodyB m := ⟨_, rfl⟩
  have r0 : RdOk l ⟨0, false⟩ (optB m 67 ++ (optB m 83 ++ (optB m 69 ++ (optB m 76 ++ (optB m 73 ++ optB m 66))))) := ⟨rfl, Nat.zero_le _, by rw [List.drop_zero, hl, bodyB_eq]⟩
  have h4 : (fieldsOf m.kind).contains 69 = true → m.entry.right = true := fun h => by rw [h] at h4; simpa using h4
  have hkk : m.head.kind = m.kind := rfl
  rw [readM, ← hl, hkk]
  simp only [orderL, rdParts]
  generalize (⟨0, false⟩ : Rd) = r at r0 ⊢
  obtain ⟨b0, hb0⟩ : ∃ b, b = baseM m.head := ⟨_, rfl⟩
  rw [← hb0] at hb ⊢
  -- C
  have sC : ∃ r', (if (fieldsOf m.kind).contains 67 = true then rdTake l b0 67 r else (b0, r)) = ({ b0 with check := m.check }, r') ∧ RdOk l r' (optB m 83 ++ (optB m 69 ++ (optB m 76 ++ (optB m 73 ++ optB m 66)))) := by
    rcases contains_or (fieldsOf m.kind) 67 with hc | hc
    · rw [if_pos hc]
      rw [optB, if_pos hc] at r0
      have k := rdMark_ok r0 f1 f2 hm.sum
      exact ⟨_, by rw [rdTake, if_pos rfl, k.1], k.2⟩
    · rw [if_neg (by rw [hc]; simp)]
      rw [optB, if_neg (by rw [hc]; simp), List.nil_append] at r0
      exact ⟨r, by rw [none_check hr hc, hb0]; rfl, r0⟩
  obtain ⟨r1, eC, r1o⟩ := sC
  rw [eC]
  -- S
  have sS : ∃ r', (if (fieldsOf m.kind).contains 83 = true then rdTake l ({ b0 with check := m.check }) 83 r1 else ({ b0 with check := m.check }, r1)) = ({ b0 with check := m.check, s0 := m.s0, s1 := m.s1, s2 := m.s2, s3 := m.s3, s4 := m.s4, s5 := m.s5 }, r') ∧ RdOk l r' (optB m 69 ++ (optB m 76 ++ (optB m 73 ++ optB m 66))) := by
    rcases contains_or (fieldsOf m.kind) 83 with hc | hc
    · rw [if_pos hc]
      rw [optB, if_pos hc] at r1o
      have k := rdSums_ok [m.s0, m.s1, m.s2, m.s3, m.s4, m.s5] r1 _ r1o hm.sums
      have hu := hm.sums
      simp only [List.mem_cons, List.not_mem_nil, or_false, forall_eq_or_imp, forall_eq] at hu
      obtain ⟨u0, u1, u2, u3, u4, u5⟩ := hu
      have z0 : ((m.s0.toNat : Nat) : Int) = m.s0 := by have := u0.1; omega
      have z1 : ((m.s1.toNat : Nat) : Int) = m.s1 := by have := u1.1; omega
      have z2 : ((m.s2.toNat : Nat) : Int) = m.s2 := by have := u2.1; omega
      have z3 : ((m.s3.toNat : Nat) : Int) = m.s3 := by have := u3.1; omega
      have z4 : ((m.s4.toNat : Nat) : Int) = m.s4 := by have := u4.1; omega
      have z5 : ((m.s5.toNat : Nat) : Int) = m.s5 := by have := u5.1; omega
      have k1 : (rdSums l 6 r1).1 = [m.s0.toNat, m.s1.toNat, m.s2.toNat, m.s3.toNat, m.s4.toNat, m.s5.toNat] := k.1
      refine ⟨(rdSums l 6 r1).2, ?_, k.2⟩
      rw [rdTake, if_neg (by decide), if_pos rfl]
      simp only [k1, List.getD_cons_zero, List.getD_cons_succ, z0, z1, z2, z3, z4, z5]
    · rw [if_neg (by rw [hc]; simp)]
      rw [optB, if_neg (by rw [hc]; simp), List.nil_append] at r1o
      have hz := none_sums hr hc
      simp only [Msg.sums, List.cons.injEq, and_true] at hz
      obtain ⟨u0, u1, u2, u3, u4, u5⟩ := hz
      exact ⟨r1, by rw [u0, u1, u2, u3, u4, u5, hb0]; rfl, r1o⟩
  obtain ⟨r2, eS, r2o⟩ := sS
  rw [eS]
  -- E
  have sE : ∃ r', (if (fieldsOf m.kind).contains 69 = true then rdTake l ({ b0 with check := m.check, s0 := m.s0, s1 := m.s1, s2 := m.s2, s3 := m.s3, s4 := m.s4, s5 := m.s5 }) 69 r2 else ({ b0 with check := m.check, s0 := m.s0, s1 := m.s1, s2 := m.s2, s3 := m.s3, s4 := m.s4, s5 := m.s5 }, r2)) = ({ b0 with check := m.check, s0 := m.s0, s1 := m.s1, s2 := m.s2, s3 := m.s3, s4 := m.s4, s5 := m.s5, entry := m.entry }, r') ∧ RdOk l r' (optB m 76 ++ (optB m 73 ++ optB m 66)) := by
    rcases contains_or (fieldsOf m.kind) 69 with hc | hc
    · rw [if_pos hc]
      rw [optB, if_pos hc] at r2o
      have k := rdEntry_ok r2o (h4 hc) hm.wf.1
      exact ⟨_, by rw [rdTake, if_neg (by decide), if_neg (by decide), if_pos rfl, k.1], k.2⟩
    · rw [if_neg (by rw [hc]; simp)]
      rw [optB, if_neg (by rw [hc]; simp), List.nil_append] at r2o
      exact ⟨r2, by rw [none_entry hr hc, hb0]; rfl, r2o⟩
  obtain ⟨r3, eE, r3o⟩ := sE
  rw [eE]
  -- L
  have sL : ∃ r', (if (fieldsOf m.kind).contains 76 = true then rdTake l ({ b0 with check := m.check, s0 := m.s0, s1 := m.s1, s2 := m.s2, s3 := m.s3, s4 := m.s4, s5 := m.s5, entry := m.entry }) 76 r3 else ({ b0 with check := m.check, s0 := m.s0, s1 := m.s1, s2 := m.s2, s3 := m.s3, s4 := m.s4, s5 := m.s5, entry := m.entry }, r3)) = ({ b0 with check := m.check, s0 := m.s0, s1 := m.s1, s2 := m.s2, s3 := m.s3, s4 := m.s4, s5 := m.s5, entry := m.entry, entries := m.entries }, r') ∧ RdOk l r' (optB m 73 ++ optB m 66) := by
    rcases contains_or (fieldsOf m.kind) 76 with hc | hc
    · rw [if_pos hc]
      rw [optB, if_pos hc] at r3o
      have r3o' : RdOk l r3 (Pl.putLE m.entries.length 1 ++ ((m.entries.map textB).flatten ++ (optB m 73 ++ optB m 66))) := by
        rw [← byteList _ (by omega), ← List.append_assoc]; exact r3o
      have k := rdNum_ok r3o' (by omega)
      have k2 := rdMany_ok (rdEntry l) textB (fun e => e.right = true ∧ e.wf) (fun r x rest h ho => rdEntry_ok h ho.1 ho.2) m.entries _ _ k.2 (fun e he => ⟨l1 e he, hm.wf.2.1 e he⟩)
      refine ⟨_, ?_, k2.2⟩
      rw [rdTake, if_neg (by decide), if_neg (by decide), if_neg (by decide), if_pos rfl]
      simp only [k.1, k2.1]
      rw [hb0]; rfl
    · rw [if_neg (by rw [hc]; simp)]
      rw [optB, if_neg (by rw [hc]; simp), List.nil_append] at r3o
      exact ⟨r3, by rw [none_entries hr hc, hb0]; rfl, r3o⟩
  obtain ⟨r4, eL, r4o⟩ := sL
  rw [eL]
  -- I
  have sI : ∃ r', (if (fieldsOf m.kind).contains 73 = true then rdTake l ({ b0 with check := m.check, s0 := m.s0, s1 := m.s1, s2 := m.s2, s3 := m.s3, s4 := m.s4, s5 := m.s5, entry := m.entry, entries := m.entries }) 73 r4 else ({ b0 with check := m.check, s0 := m.s0, s1 := m.s1, s2 := m.s2, s3 := m.s3, s4 := m.s4, s5 := m.s5, entry := m.entry, entries := m.entries }, r4)) = ({ b0 with check := m.check, s0 := m.s0, s1 := m.s1, s2 := m.s2, s3 := m.s3, s4 := m.s4, s5 := m.s5, entry := m.entry, entries := m.entries, items := m.items }, r') ∧ RdOk l r' (optB m 66) := by
    rcases contains_or (fieldsOf m.kind) 73 with hc | hc
    · rw [if_pos hc]
      rw [optB, if_pos hc] at r4o
      have h8 := l4 (kind_I hk.1 hk.2 hc)
      have k2 := rdMany_ok (rdItem l) itemB (fun t => t.right = true ∧ t.wf) (fun r x rest h ho => rdItem_ok h ho.1 ho.2) m.items _ _ r4o (fun e he => ⟨l2 e he, hm.wf.2.2.1 e he⟩)
      rw [h8] at k2
      refine ⟨_, ?_, k2.2⟩
      rw [rdTake, if_neg (by decide), if_neg (by decide), if_neg (by decide), if_neg (by decide), if_pos rfl]
      simp only [k2.1]
      rw [hb0]; rfl
    · rw [if_neg (by rw [hc]; simp)]
      rw [optB, if_neg (by rw [hc]; simp), List.nil_append] at r4o
      exact ⟨r4, by rw [none_items hr hc, hb0]; rfl, r4o⟩
  obtain ⟨r5, eI, r5o⟩ := sI
  rw [eI]
  -- B
  rcases contains_or (fieldsOf m.kind) 66 with hc | hc
  · rw [if_pos hc]
    rw [optB, if_pos hc] at r5o
    have hd : l.drop (min r5.pos l.length) = m.body.data.toList := by rw [Nat.min_eq_left r5o.2.1]; exact r5o.2.2
    rw [rdTake, if_neg (by decide), if_neg (by decide), if_neg (by decide), if_neg (by decide), if_neg (by decide), if_pos rfl, hd, str_of]
    exact ⟨hb, r5o.1⟩
  · rw [if_neg (by rw [hc]; simp)]
    have e := none_body hr hc
    have e2 : b0.body = m.body := by rw [e, hb0]; rfl
    refine ⟨?_, r5o.1⟩
    rw [← e2] at hb
    exact hb

theorem Msg.fit.fine_right {m : Msg} (h : m.fit) (hr : rightM m = true) : Fine m := by
  obtain ⟨hk, h2, h3, h4, h5, h6, h7⟩ := rightM_parts hr
  obtain ⟨l1, l2, l3, l4⟩ := lists_parts h7
  refine h.fine (by omega) ?_ hr
  rcases contains_or (fieldsOf m.kind) 73 with hc | hc
  · have := l4 (kind_I hk.1 hk.2 hc)
    omega
  · rw [none_items hr hc]; simp

/-- A message's bytes are decoded as it was. -/
theorem decM_of {m : Msg} (hf : m.fit) {s : ByteArray} (h : m.enc = (s, 0)) : decM s.data.toList = some m := by
  obtain ⟨hr, h2, h3, h4⟩ := enc_ok (m := m) (by rw [h])
  have hm := hf.fine_right hr
  have hs : s.data.toList = m.head.pack (bodyB m) := by
    have : s = str (m.head.pack (bodyB m)) := by rw [← h4, h]
    rw [this]
  obtain ⟨k1, k2⟩ := readM_ok hm
  have hk := (rightM_parts hr).1
  have hu : unpackH s.data.toList = some (m.head, bodyB m) := by rw [hs]; exact unpack_pack h2 ⟨by show (0 : Int) ≤ 0; omega, by show (0 : Int) < _; omega⟩ h3
  rw [decM, hu]
  simp only [k1, k2]
  rw [if_pos ⟨hk.1, hk.2, trivial, by rw [h, str_of]⟩]

end Go.Proofs.YtmidfknlmjgjpaaDoor
