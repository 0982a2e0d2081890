/- Unlike messages have unlike bytes: the plain law. -/
import Derived.Test.YtmidfknlmjgjpaaDoorGJ
namespace Go.Proofs.YtmidfknlmjgjpaaDoor
open Go.RowKit

theorem putLE_split {a b k : Nat} {r s : List UInt8} (ha : a < 256 ^ k) (hb : b < 256 ^ k) (h : Pl.putLE a k ++ r = Pl.putLE b k ++ s) : a = b ∧ r = s := by
  obtain ⟨h1, h2⟩ := List.append_inj h (by rw [Pl.putLE_length, Pl.putLE_length])
  exact ⟨Pl.putLE_inj ha hb h1, h2⟩

theorem U64.pow8 {n : Int} (h : U64 n) : n.toNat < 256 ^ 8 := U64.pow h

theorem u64_split {a b : Int} {r s : List UInt8} (ha : U64 a) (hb : U64 b) (h : Pl.putLE a.toNat 8 ++ r = Pl.putLE b.toNat 8 ++ s) : a = b ∧ r = s := by
  obtain ⟨h1, h2⟩ := putLE_split ha.pow8 hb.pow8 h
  have ha0 := ha.1
  have hb0 := hb.1
  exact ⟨by omega, h2⟩

theorem flat8_split : ∀ {l l' : List Int} {r s : List UInt8}, l.length = l'.length → (∀ x ∈ l, U64 x) → (∀ x ∈ l', U64 x) → flat8 l ++ r = flat8 l' ++ s → l = l' ∧ r = s
  | [], [], _, _, _, _, _, h => ⟨rfl, h⟩
  | [], _ :: _, _, _, hl, _, _, _ => by simp at hl
  | _ :: _, [], _, _, hl, _, _, _ => by simp at hl
  | x :: l, y :: l', r, s, hl, h1, h2, h => by
    have e : Pl.putLE x.toNat 8 ++ (flat8 l ++ r) = Pl.putLE y.toNat 8 ++ (flat8 l' ++ s) := by simpa [flat8] using h
    obtain ⟨e1, e2⟩ := u64_split (h1 x (by simp)) (h2 y (by simp)) e
    obtain ⟨e3, e4⟩ := flat8_split (by simpa using hl) (fun z hz => h1 z (by simp [hz])) (fun z hz => h2 z (by simp [hz])) e2
    exact ⟨by rw [e1, e3], e4⟩

theorem byteOf_inj {a b : Int} (ha : 0 ≤ a ∧ a ≤ 255) (hb : 0 ≤ b ∧ b ≤ 255) (h : byteOf a = byteOf b) : a = b := by
  have h1 := byteOf_toNat ha.1 ha.2
  have h2 := byteOf_toNat hb.1 hb.2
  rw [h] at h1
  omega

theorem head_inj {h g : Head} {b c : List UInt8} (hr : h.right = true) (gr : g.right = true) (hp : U64 h.parent) (gp : U64 g.parent) (e : h.pack b = g.pack c) : h = g ∧ b = c := by
  obtain ⟨h1, h2, h3, h4⟩ := right_bounds hr
  obtain ⟨g1, g2, g3, g4⟩ := right_bounds gr
  unfold Head.pack at e
  obtain ⟨e1, e2⟩ := List.append_inj e (by simp [Pl.putLE_length, mid_length])
  obtain ⟨_, e3⟩ := List.append_inj e1 (by simp [Pl.putLE_length])
  unfold Head.mid at e3
  obtain ⟨e4, _⟩ := List.append_inj e3 (by simp [front_length, numB_length])
  obtain ⟨e5, e6⟩ := List.append_inj e4 (by simp [front_length])
  unfold Head.front at e5
  obtain ⟨e7, e8⟩ := List.append_inj e5 (by simp [Pl.putLE_length])
  obtain ⟨e9, _⟩ := List.append_inj e7 (by simp [Pl.putLE_length])
  obtain ⟨_, e10⟩ := List.append_inj e9 (by simp [Pl.putLE_length])
  have hn : ∀ {k : Head}, (∀ n ∈ k.nums, 0 ≤ n ∧ n ≤ 72057594037927935) → ∀ n ∈ k.nums, U64 n := fun f n hn => ⟨(f n hn).1, by have := (f n hn).2; omega⟩
  have e11 : h.nums = g.nums := (flat8_split (l := h.nums) (l' := g.nums) (r := []) (s := []) rfl (hn h4) (hn g4) (by rw [List.append_nil, List.append_nil]; exact e6)).1
  have e12 : h.parent = g.parent := (u64_split (r := []) (s := []) hp gp (by rw [List.append_nil, List.append_nil]; exact e8)).1
  simp only [List.cons.injEq] at e10
  obtain ⟨k1, k2, k3, _⟩ := e10
  replace k1 := byteOf_inj h1 g1 k1
  replace k2 := byteOf_inj h2 g2 k2
  replace k3 := byteOf_inj h3 g3 k3
  clear h1 h2 h3 h4 g1 g2 g3 g4 e e1 e3 e4 e5 e7 e9 e6 e8 hr gr hp gp hn
  obtain ⟨a1, a2, a3, a4, a5, a6, a7, a8, a9, a10, a11, a12⟩ := h
  obtain ⟨b1, b2, b3, b4, b5, b6, b7, b8, b9, b10, b11, b12⟩ := g
  simp only [Head.nums, List.cons.injEq, and_true] at e11
  obtain ⟨q1, q2, q3, q4, q5, q6, q7, q8⟩ := e11
  simp only at k1 k2 k3 e12
  subst k1 k2 k3 e12 q1 q2 q3 q4 q5 q6 q7 q8
  exact ⟨rfl, e2⟩

theorem str_inj {s t : ByteArray} (h : s.data.toList = t.data.toList) : s = t := by
  have := congrArg str h
  rwa [str_of, str_of] at this

theorem byte_nil {s : ByteArray} (h : s.toList.isEmpty = true) : s = str [] := by
  rw [Lib.toList_data] at h
  have : s.data.toList = [] := by simpa using h
  exact str_inj (by rw [this])

theorem ent_inj {e f : Entry} (hr : e.right = true) (fr : f.right = true) (hw : e.wf) (fw : f.wf) (h : e.bytes = f.bytes) : e = f := by
  obtain ⟨h1, h2⟩ := head_inj (ent_right hr).1 (ent_right fr).1 hw.1 fw.1 h
  obtain ⟨a1, a2, a3, a4, a5, a6, a7, a8, a9⟩ := e
  obtain ⟨b1, b2, b3, b4, b5, b6, b7, b8, b9⟩ := f
  simp only [Entry.head, Head.mk.injEq, true_and] at h1
  obtain ⟨q1, q2, q3, q4, q5, q6, q7, q8⟩ := h1
  have q9 : a9 = b9 := str_inj h2
  simp_all

theorem textB_split {e f : Entry} {r s : List UInt8} (hr : e.right = true) (fr : f.right = true) (hw : e.wf) (fw : f.wf) (h : textB e ++ r = textB f ++ s) : e = f ∧ r = s := by
  have he := (ent_right hr).2.2.2.2.2
  have hf := (ent_right fr).2.2.2.2.2
  unfold textB at h
  rw [List.append_assoc, List.append_assoc] at h
  obtain ⟨h1, h2⟩ := putLE_split (by omega) (by omega) h
  obtain ⟨h3, h4⟩ := List.append_inj h2 (by rw [ent_bytes_length, ent_bytes_length]; omega)
  exact ⟨ent_inj hr fr hw fw h3, h4⟩

theorem textsB_split : ∀ {l l' : List Entry} {r s : List UInt8}, l.length = l'.length → (∀ x ∈ l, x.right = true ∧ x.wf) → (∀ x ∈ l', x.right = true ∧ x.wf) → textsB l ++ r = textsB l' ++ s → l = l' ∧ r = s
  | [], [], _, _, _, _, _, h => ⟨rfl, h⟩
  | [], _ :: _, _, _, hl, _, _, _ => by simp at hl
  | _ :: _, [], _, _, hl, _, _, _ => by simp at hl
  | x :: l, y :: l', r, s, hl, h1, h2, h => by
    have e : textB x ++ (textsB l ++ r) = textB y ++ (textsB l' ++ s) := by simpa [textsB] using h
    obtain ⟨e1, e2⟩ := textB_split (h1 x (by simp)).1 (h2 y (by simp)).1 (h1 x (by simp)).2 (h2 y (by simp)).2 e
    obtain ⟨e3, e4⟩ := textsB_split (by simpa using hl) (fun z hz => h1 z (by simp [hz])) (fun z hz => h2 z (by simp [hz])) e2
    exact ⟨by rw [e1, e3], e4⟩

theorem entry_zero {e : Entry} (h : e.zero = true) : e = zeroEntry := by
  obtain ⟨a1, a2, a3, a4, a5, a6, a7, a8, a9⟩ := e
  simp only [Entry.zero, Bool.and_eq_true, beq_iff_eq] at h
  obtain ⟨⟨⟨⟨⟨⟨⟨⟨q1, q2⟩, q3⟩, q4⟩, q5⟩, q6⟩, q7⟩, q8⟩, q9⟩ := h
  have q9 : a9 = str [] := byte_nil q9
  rw [zeroEntry]
  simp_all

theorem stub_zero {s : Stub} (h : s.zero = true) : s = zeroStub := by
  obtain ⟨a1, a2, a3, a4, a5⟩ := s
  simp only [Stub.zero, Bool.and_eq_true, beq_iff_eq] at h
  obtain ⟨⟨⟨⟨q1, q2⟩, q3⟩, q4⟩, q5⟩ := h
  rw [zeroStub]
  simp_all

theorem stub_beq {a b : Stub} (h : a.beq b = true) : a = b := by
  obtain ⟨a1, a2, a3, a4, a5⟩ := a
  obtain ⟨b1, b2, b3, b4, b5⟩ := b
  simp only [Stub.beq, Bool.and_eq_true, beq_iff_eq] at h
  obtain ⟨⟨⟨⟨q1, q2⟩, q3⟩, q4⟩, q5⟩ := h
  simp_all

theorem itemB_split {t u : Item} {r s : List UInt8} (hr : t.right = true) (ur : u.right = true) (hw : t.wf) (uw : u.wf) (h : itemB t ++ r = itemB u ++ s) : t = u ∧ r = s := by
  have k1 := item_kinds hr
  have k2 := item_kinds ur
  simp only [itemB, List.cons_append, List.cons.injEq] at h
  obtain ⟨h1, h2⟩ := h
  have hk : t.kind = u.kind := by
    have h1 : (UInt8.ofNat t.kind.toNat).toNat = (UInt8.ofNat u.kind.toNat).toNat := by rw [h1]
    rw [UInt8.toNat_ofNat', UInt8.toNat_ofNat'] at h1
    omega
  by_cases e1 : t.kind = 1
  · have e2 : u.kind = 1 := hk ▸ e1
    rw [if_pos e1, if_pos e2] at h2
    obtain ⟨h3, h4⟩ := textB_split (item_ent hr e1) (item_ent ur e2) hw.1 uw.1 h2
    have s1 : t.entry.stub = t.stub := by
      simp only [Item.right, e1] at hr
      exact stub_beq (by simpa using (Bool.and_eq_true _ _ ▸ hr).2)
    have s2 : u.entry.stub = u.stub := by
      simp only [Item.right, e2] at ur
      exact stub_beq (by simpa using (Bool.and_eq_true _ _ ▸ ur).2)
    refine ⟨?_, h4⟩
    obtain ⟨a, b, c⟩ := t
    obtain ⟨a', b', c'⟩ := u
    simp only at hk h3 s1 s2
    subst hk h3
    rw [← s1, ← s2]
  · have e2 : ¬ u.kind = 1 := hk ▸ e1
    rw [if_neg e1, if_neg e2] at h2
    by_cases f1 : t.kind = 2
    · have f2 : u.kind = 2 := hk ▸ f1
      rw [if_pos f1, if_pos f2] at h2
      obtain ⟨h3, h4⟩ := flat8_split (l := t.stub.nums) (l' := u.stub.nums) rfl (item_stub hr f1 hw) (item_stub ur f2 uw) h2
      have z1 : t.entry = zeroEntry := by
        simp only [Item.right, f1] at hr
        exact entry_zero (by simpa using (Bool.and_eq_true _ _ ▸ hr).2)
      have z2 : u.entry = zeroEntry := by
        simp only [Item.right, f2] at ur
        exact entry_zero (by simpa using (Bool.and_eq_true _ _ ▸ ur).2)
      refine ⟨?_, h4⟩
      obtain ⟨a, ⟨b1, b2, b3, b4, b5⟩, c⟩ := t
      obtain ⟨a', ⟨b1', b2', b3', b4', b5'⟩, c'⟩ := u
      simp only [Stub.nums, List.cons.injEq, and_true] at h3
      obtain ⟨q1, q2, q3, q4, q5⟩ := h3
      simp_all
    · have f2 : ¬ u.kind = 2 := hk ▸ f1
      rw [if_neg f1, if_neg f2] at h2
      have h3 : t.kind = 0 ∨ t.kind = 3 := by omega
      have h4 : u.kind = 0 ∨ u.kind = 3 := by omega
      simp only [Item.right, h3, if_true, Bool.and_eq_true] at hr
      simp only [Item.right, h4, if_true, Bool.and_eq_true] at ur
      refine ⟨?_, by simpa using h2⟩
      have a1 := stub_zero hr.1
      have a2 := entry_zero hr.2
      have b1 := stub_zero ur.1
      have b2 := entry_zero ur.2
      obtain ⟨a, b, c⟩ := t
      obtain ⟨a', b', c'⟩ := u
      simp_all

theorem itemsB_split : ∀ {l l' : List Item} {r s : List UInt8}, l.length = l'.length → (∀ x ∈ l, x.right = true ∧ x.wf) → (∀ x ∈ l', x.right = true ∧ x.wf) → itemsB l ++ r = itemsB l' ++ s → l = l' ∧ r = s
  | [], [], _, _, _, _, _, h => ⟨rfl, h⟩
  | [], _ :: _, _, _, hl, _, _, _ => by simp at hl
  | _ :: _, [], _, _, hl, _, _, _ => by simp at hl
  | x :: l, y :: l', r, s, hl, h1, h2, h => by
    have e : itemB x ++ (itemsB l ++ r) = itemB y ++ (itemsB l' ++ s) := by simpa [itemsB] using h
    obtain ⟨e1, e2⟩ := itemB_split (h1 x (by simp)).1 (h2 y (by simp)).1 (h1 x (by simp)).2 (h2 y (by simp)).2 e
    obtain ⟨e3, e4⟩ := itemsB_split (by simpa using hl) (fun z hz => h1 z (by simp [hz])) (fun z hz => h2 z (by simp [hz])) e2
    exact ⟨by rw [e1, e3], e4⟩

/-- A part, if the kind has it. -/
def optB (m : Msg) (f : UInt8) : List UInt8 := if (fieldsOf m.kind).contains f = true then partB m f else []
theorem bodyB_eq (m : Msg) : bodyB m = optB m 67 ++ (optB m 83 ++ (optB m 69 ++ (optB m 76 ++ (optB m 73 ++ optB m 66)))) := by
  have e0 : partsB m (orderL.take 0) = [] := rfl
  have e1 : partsB m (orderL.take 1) = _ := partsB_snoc (k := 0) rfl
  have e2 : partsB m (orderL.take 2) = _ := partsB_snoc (k := 1) rfl
  have e3 : partsB m (orderL.take 3) = _ := partsB_snoc (k := 2) rfl
  have e4 : partsB m (orderL.take 4) = _ := partsB_snoc (k := 3) rfl
  have e5 : partsB m (orderL.take 5) = _ := partsB_snoc (k := 4) rfl
  have e6 : partsB m (orderL.take 6) = _ := partsB_snoc (k := 5) rfl
  show partsB m (orderL.take 6) = _
  rw [e6, e5, e4, e3, e2, e1, e0]
  simp only [optB, List.append_assoc, List.nil_append]

theorem wipes_keep {α : Type} (p : Msg → α) (c : UInt8) (hp : ∀ m f, f ≠ c → p (wipeM m f) = p m) : ∀ (l : List UInt8) (m : Msg), l.contains c = false → p (wipes m l) = p m
  | [], _, _ => rfl
  | f :: l, m, h => by
    have h1 : f ≠ c := by rintro rfl; simp at h
    have h2 : l.contains c = false := by
      simp only [List.contains_cons, Bool.or_eq_false_iff] at h
      exact h.2
    show p (wipes (wipeM m f) l) = p m
    rw [wipes_keep p c hp l _ h2, hp m f h1]

theorem empty_parts {m : Msg} (h : emptyM m = true) : m.check.zero = true ∧ m.sumsZero = true ∧ m.entry.zero = true ∧ m.entries = [] ∧ m.items = [] ∧ m.body = str [] := by
  simp only [emptyM, Bool.and_eq_true] at h
  obtain ⟨⟨⟨⟨⟨⟨_, h1⟩, h2⟩, h3⟩, h4⟩, h5⟩, h6⟩ := h
  exact ⟨h1, h2, h3, by simpa using h4, by simpa using h5, byte_nil h6⟩

theorem rest_of {m : Msg} (h : rightM m = true) : emptyM (wipes m (fieldsOf m.kind)) = true := (rightM_parts h).2.2.2.2.2.1

theorem none_check {m : Msg} (h : rightM m = true) (hc : (fieldsOf m.kind).contains 67 = false) : m.check = ⟨0, 0, 0⟩ := by
  have h1 := (empty_parts (rest_of h)).1
  rw [wipes_keep (·.check) 67 (by intro m f hf; simp only [wipeM, apply_ite Msg.check]; simp [hf]) _ m hc] at h1
  rcases hm : m.check with ⟨a, b, c⟩
  simp only [hm, Mark.zero, Bool.and_eq_true, beq_iff_eq] at h1
  simp_all
theorem none_entry {m : Msg} (h : rightM m = true) (hc : (fieldsOf m.kind).contains 69 = false) : m.entry = zeroEntry := by
  have h1 := (empty_parts (rest_of h)).2.2.1
  rw [wipes_keep (·.entry) 69 (by intro m f hf; simp only [wipeM, apply_ite Msg.entry]; simp [hf]) _ m hc] at h1
  exact entry_zero h1
theorem none_entries {m : Msg} (h : rightM m = true) (hc : (fieldsOf m.kind).contains 76 = false) : m.entries = [] := by
  have h1 := (empty_parts (rest_of h)).2.2.2.1
  rwa [wipes_keep (·.entries) 76 (by intro m f hf; simp only [wipeM, apply_ite Msg.entries]; simp [hf]) _ m hc] at h1
theorem none_items {m : Msg} (h : rightM m = true) (hc : (fieldsOf m.kind).contains 73 = false) : m.items = [] := by
  have h1 := (empty_parts (rest_of h)).2.2.2.2.1
  rwa [wipes_keep (·.items) 73 (by intro m f hf; simp only [wipeM, apply_ite Msg.items]; simp [hf]) _ m hc] at h1
theorem none_body {m : Msg} (h : rightM m = true) (hc : (fieldsOf m.kind).contains 66 = false) : m.body = str [] := by
  have h1 := (empty_parts (rest_of h)).2.2.2.2.2
  rwa [wipes_keep (·.body) 66 (by intro m f hf; simp only [wipeM, apply_ite Msg.body]; simp [hf]) _ m hc] at h1
def Msg.sums (m : Msg) : List Int := [m.s0, m.s1, m.s2, m.s3, m.s4, m.s5]
theorem none_sums {m : Msg} (h : rightM m = true) (hc : (fieldsOf m.kind).contains 83 = false) : m.sums = [0, 0, 0, 0, 0, 0] := by
  have h1 := (empty_parts (rest_of h)).2.1
  have h2 : (wipes m (fieldsOf m.kind)).sums = [0, 0, 0, 0, 0, 0] := by
    simp only [Msg.sumsZero, Bool.and_eq_true, beq_iff_eq] at h1
    simp only [Msg.sums, h1]
  rwa [wipes_keep Msg.sums 83 (by intro m f hf; simp only [wipeM, apply_ite Msg.sums]; simp [Msg.sums, hf]) _ m hc] at h2

theorem none_index {m : Msg} (h : rightM m = true) (hc : (fieldsOf m.kind).contains 105 = false) : m.index = 0 := by
  obtain ⟨⟨k1, k2⟩, _⟩ := rightM_parts h
  have h1 := empty_num (rest_of h) (f := 105) (by simp [numL])
  rw [← wipes_index k1 k2 hc]
  simpa [numGet] using h1
theorem none_size {m : Msg} (h : rightM m = true) (hc : (fieldsOf m.kind).contains 122 = false) : m.size = 0 := by
  obtain ⟨⟨k1, k2⟩, _⟩ := rightM_parts h
  have h1 := empty_num (rest_of h) (f := 122) (by simp [numL])
  rw [← wipes_size k1 k2 hc]
  simpa [numGet] using h1

theorem not_both (k : Int) (h1 : 1 ≤ k) (h2 : k ≤ 16) : (fieldsOf k).contains 105 = false ∨ (fieldsOf k).contains 122 = false := by
  rcases kind_cases h1 h2 with rfl | rfl | rfl | rfl | rfl | rfl | rfl | rfl | rfl | rfl | rfl | rfl | rfl | rfl | rfl | rfl <;> decide

theorem opt_split {p : Bool} {a b r s : List UInt8} (h : (if p = true then a else []) ++ r = (if p = true then b else []) ++ s) : (p = true ∧ a ++ r = b ++ s) ∨ (p = false ∧ r = s) := by
  cases p
  · exact .inr ⟨rfl, by simpa using h⟩
  · exact .inl ⟨rfl, by simpa using h⟩

theorem msg_inj {m n : Msg} (hm : Fine m) (hn : Fine n) (hr : m.head.right = true) (gr : n.head.right = true) (e : m.head.pack (bodyB m) = n.head.pack (bodyB n)) : m = n := by
  have z0 : U64 0 := ⟨by omega, by omega⟩
  obtain ⟨e1, e2⟩ := head_inj hr gr z0 z0 e
  simp only [Msg.head, Head.mk.injEq, and_true] at e1
  obtain ⟨q1, q2, q3, q4, q5, q6, q7, q8, q9, q10, q11⟩ := e1
  obtain ⟨⟨k1, k2⟩, _, _, p1, _, _, p2⟩ := rightM_parts hm.right
  obtain ⟨⟨l1, l2⟩, _, _, p3, _, _, p4⟩ := rightM_parts hn.right
  obtain ⟨r1, r2, r3, r4⟩ := lists_parts p2
  obtain ⟨s1, s2, s3, s4⟩ := lists_parts p4
  obtain ⟨w1, w2, w3, _, _, _⟩ := hm.wf
  obtain ⟨v1, v2, v3, _, _, _⟩ := hn.wf
  have qi : m.index = n.index ∧ m.size = n.size := by
    rcases not_both _ k1 k2 with h | h
    · have a := none_index hm.right h
      have b := none_index hn.right (q1 ▸ h)
      exact ⟨by rw [a, b], by omega⟩
    · have a := none_size hm.right h
      have b := none_size hn.right (q1 ▸ h)
      exact ⟨by omega, by rw [a, b]⟩
  rw [bodyB_eq, bodyB_eq] at e2
  unfold optB at e2
  rw [← q1] at e2
  have hC : m.check = n.check ∧ (if (fieldsOf m.kind).contains 83 = true then partB m 83 else []) ++ ((if (fieldsOf m.kind).contains 69 = true then partB m 69 else []) ++ ((if (fieldsOf m.kind).contains 76 = true then partB m 76 else []) ++ ((if (fieldsOf m.kind).contains 73 = true then partB m 73 else []) ++ (if (fieldsOf m.kind).contains 66 = true then partB m 66 else [])))) = (if (fieldsOf m.kind).contains 83 = true then partB n 83 else []) ++ ((if (fieldsOf m.kind).contains 69 = true then partB n 69 else []) ++ ((if (fieldsOf m.kind).contains 76 = true then partB n 76 else []) ++ ((if (fieldsOf m.kind).contains 73 = true then partB n 73 else []) ++ (if (fieldsOf m.kind).contains 66 = true then partB n 66 else [])))) := by
    rcases opt_split e2 with ⟨hp, h⟩ | ⟨hp, h⟩
    · have h : flat8 [m.check.op, m.check.view, m.check.sum] ++ _ = flat8 [n.check.op, n.check.view, n.check.sum] ++ _ := h
      have f : ∀ {x : Msg}, Fine x → ∀ y ∈ [x.check.op, x.check.view, x.check.sum], U64 y := by
        intro x hx y hy
        obtain ⟨_, hh, _⟩ := rightM_parts hx.right
        simp only [headOk, fitB, Bool.and_eq_true, decide_eq_true_eq] at hh
        simp only [List.mem_cons, List.not_mem_nil, or_false] at hy
        rcases hy with rfl | rfl | rfl
        · exact ⟨by omega, by omega⟩
        · exact ⟨by omega, by omega⟩
        · exact hx.sum
      obtain ⟨h1, h2⟩ := flat8_split (l := [m.check.op, m.check.view, m.check.sum]) (l' := [n.check.op, n.check.view, n.check.sum]) rfl (f hm) (f hn) h
      simp only [List.cons.injEq, and_true] at h1
      refine ⟨?_, h2⟩
      rcases hmc : m.check with ⟨c1, c2, c3⟩
      rcases hnc : n.check with ⟨d1, d2, d3⟩
      rw [hmc, hnc] at h1
      simp_all
    · exact ⟨by rw [none_check hm.right hp, none_check hn.right (q1 ▸ hp)], h⟩
  clear e2
  obtain ⟨qC, e2⟩ := hC
  have hS : m.sums = n.sums ∧ ((if (fieldsOf m.kind).contains 69 = true then partB m 69 else []) ++ ((if (fieldsOf m.kind).contains 76 = true then partB m 76 else []) ++ ((if (fieldsOf m.kind).contains 73 = true then partB m 73 else []) ++ (if (fieldsOf m.kind).contains 66 = true then partB m 66 else [])))) = ((if (fieldsOf m.kind).contains 69 = true then partB n 69 else []) ++ ((if (fieldsOf m.kind).contains 76 = true then partB n 76 else []) ++ ((if (fieldsOf m.kind).contains 73 = true then partB n 73 else []) ++ (if (fieldsOf m.kind).contains 66 = true then partB n 66 else [])))) := by
    rcases opt_split e2 with ⟨hp, h⟩ | ⟨hp, h⟩
    · have h : flat8 m.sums ++ _ = flat8 n.sums ++ _ := h
      exact flat8_split rfl hm.sums hn.sums h
    · exact ⟨by rw [none_sums hm.right hp, none_sums hn.right (q1 ▸ hp)], h⟩
  clear e2
  obtain ⟨qS, e2⟩ := hS
  have hE : m.entry = n.entry ∧ (((if (fieldsOf m.kind).contains 76 = true then partB m 76 else []) ++ ((if (fieldsOf m.kind).contains 73 = true then partB m 73 else []) ++ (if (fieldsOf m.kind).contains 66 = true then partB m 66 else [])))) = (((if (fieldsOf m.kind).contains 76 = true then partB n 76 else []) ++ ((if (fieldsOf m.kind).contains 73 = true then partB n 73 else []) ++ (if (fieldsOf m.kind).contains 66 = true then partB n 66 else [])))) := by
    rcases opt_split e2 with ⟨hp, h⟩ | ⟨hp, h⟩
    · have h : textB m.entry ++ _ = textB n.entry ++ _ := h
      rw [hp] at p1
      rw [← q1, hp] at p3
      exact textB_split (by simpa using p1) (by simpa using p3) w1 v1 h
    · exact ⟨by rw [none_entry hm.right hp, none_entry hn.right (q1 ▸ hp)], h⟩
  clear e2
  obtain ⟨qE, e2⟩ := hE
  have hL : m.entries = n.entries ∧ ((((if (fieldsOf m.kind).contains 73 = true then partB m 73 else []) ++ (if (fieldsOf m.kind).contains 66 = true then partB m 66 else [])))) = ((((if (fieldsOf m.kind).contains 73 = true then partB n 73 else []) ++ (if (fieldsOf m.kind).contains 66 = true then partB n 66 else [])))) := by
    rcases opt_split e2 with ⟨hp, h⟩ | ⟨hp, h⟩
    · have h : UInt8.ofNat m.entries.length :: (textsB m.entries ++ _) = UInt8.ofNat n.entries.length :: (textsB n.entries ++ _) := h
      simp only [List.cons.injEq] at h
      obtain ⟨h1, h2⟩ := h
      have hl : m.entries.length = n.entries.length := by
        have h1 : (UInt8.ofNat m.entries.length).toNat = (UInt8.ofNat n.entries.length).toNat := by rw [h1]
        rw [UInt8.toNat_ofNat', UInt8.toNat_ofNat'] at h1
        omega
      exact textsB_split hl (fun x hx => ⟨r1 x hx, w2 x hx⟩) (fun x hx => ⟨s1 x hx, v2 x hx⟩) h2
    · exact ⟨by rw [none_entries hm.right hp, none_entries hn.right (q1 ▸ hp)], h⟩
  clear e2
  obtain ⟨qL, e2⟩ := hL
  have hI : m.items = n.items ∧ (if (fieldsOf m.kind).contains 66 = true then partB m 66 else []) = (if (fieldsOf m.kind).contains 66 = true then partB n 66 else []) := by
    rcases opt_split e2 with ⟨hp, h⟩ | ⟨hp, h⟩
    · have h : itemsB m.items ++ _ = itemsB n.items ++ _ := h
      have hk := kind_I k1 k2 hp
      have hl : m.items.length = n.items.length := by rw [r4 hk, s4 (q1 ▸ hk)]
      exact itemsB_split hl (fun x hx => ⟨r2 x hx, w3 x hx⟩) (fun x hx => ⟨s2 x hx, v3 x hx⟩) h
    · exact ⟨by rw [none_items hm.right hp, none_items hn.right (q1 ▸ hp)], h⟩
  clear e2
  obtain ⟨qI, e2⟩ := hI
  have qB : m.body = n.body := by
    cases hp : (fieldsOf m.kind).contains 66
    · rw [none_body hm.right hp, none_body hn.right (q1 ▸ hp)]
    · rw [hp, if_pos rfl, if_pos rfl] at e2
      exact str_inj e2
  clear e2 hm hn hr gr e p1 p2 p3 p4 r1 r2 r3 r4 s1 s2 s3 s4 w1 w2 w3 v1 v2 v3 k1 k2 l1 l2 z0
  cases m
  cases n
  simp only [Msg.sums, List.cons.injEq, and_true] at qS
  simp_all

end Go.Proofs.YtmidfknlmjgjpaaDoor
