/- What msg.Right answers; plain facts on it. The walk of msg.Right. The walk of msg.Right: the body, the entry; then the loop. -/
import Derived.Test.YtmidfknlmjgjpaaDoorKLists
namespace Go.Proofs.YtmidfknlmjgjpaaDoor
open Go.RowKit

def wipes (m : Msg) (l : List UInt8) : Msg := l.foldl wipeM m
def wipesE (v : Value) (l : List UInt8) : Value := l.foldl wipeE v
def wipesI (v : Value) (l : List UInt8) : Value := l.foldl wipeI v
def numFit (m : Msg) (f : UInt8) : Bool := match numGet m f with | none => true | some n => fitB n
def mostOf (k : Int) : Nat := if k = 15 then 320 else 200
def headOk (m : Msg) : Bool := decide (0 ≤ m.src) && decide (m.src ≤ 255) && decide (m.operation ≤ 255) && fitB m.check.op && fitB m.check.view
/-- May a message be? -/
def rightM (m : Msg) : Bool :=
  decide (1 ≤ m.kind ∧ m.kind ≤ 16) && headOk m && decide (m.body.size ≤ mostOf m.kind) && (!(fieldsOf m.kind).contains 69 || m.entry.right) && (fieldsOf m.kind).all (numFit m) && emptyM (wipes m (fieldsOf m.kind)) && listsM m

theorem kind_cases {k : Int} (h1 : 1 ≤ k) (h2 : k ≤ 16) : k = 1 ∨ k = 2 ∨ k = 3 ∨ k = 4 ∨ k = 5 ∨ k = 6 ∨ k = 7 ∨ k = 8 ∨ k = 9 ∨ k = 10 ∨ k = 11 ∨ k = 12 ∨ k = 13 ∨ k = 14 ∨ k = 15 ∨ k = 16 := by omega

theorem fieldsOf_mem {k : Int} {c : UInt8} (h : c ∈ fieldsOf k) : c ∈ fieldL := by
  by_cases hk : 1 ≤ k ∧ k ≤ 16
  · have all : ∀ l ∈ allL, ∀ c ∈ l, c ∈ fieldL := by decide
    rw [fieldsOf, if_pos hk, List.getD_eq_getElem?_getD] at h
    cases e : allL[k.toNat - 1]? with
    | none => rw [e] at h; simp at h
    | some l =>
      rw [e] at h
      exact all l (List.mem_of_getElem? e) c h
  · rw [fieldsOf, if_neg hk] at h
    cases h

theorem fieldL_small {c : UInt8} (h : c ∈ fieldL) : c.toNat < 128 := by
  have : ∀ c ∈ fieldL, c.toNat < 128 := by decide
  exact this c h

theorem fields_E {k : Int} (h1 : 1 ≤ k) (h2 : k ≤ 16) : decide (0 ≤ Lib.indexByte (str (fieldsOf k)).data.toList (69 : Int).toNat.toUInt8) = (fieldsOf k).contains 69 := by
  rcases kind_cases h1 h2 with rfl | rfl | rfl | rfl | rfl | rfl | rfl | rfl | rfl | rfl | rfl | rfl | rfl | rfl | rfl | rfl <;> decide

theorem wipes_snoc (m : Msg) (l : List UInt8) (c : UInt8) : wipes m (l ++ [c]) = wipeM (wipes m l) c := by simp [wipes, List.foldl_append]
theorem wipesE_snoc (v : Value) (l : List UInt8) (c : UInt8) : wipesE v (l ++ [c]) = wipeE (wipesE v l) c := by simp [wipesE, List.foldl_append]
theorem wipesI_snoc (v : Value) (l : List UInt8) (c : UInt8) : wipesI v (l ++ [c]) = wipeI (wipesI v l) c := by simp [wipesI, List.foldl_append]

theorem wipeM_entries (m : Msg) (c : UInt8) : (wipeM m c).entries = if c = 76 then [] else m.entries := by
  by_cases h : c = 76
  · subst h; rfl
  · simp only [wipeM, apply_ite Msg.entries, if_neg h, ite_self]
theorem wipeM_items (m : Msg) (c : UInt8) : (wipeM m c).items = if c = 73 then [] else m.items := by
  by_cases h : c = 73
  · subst h; rfl
  · simp only [wipeM, apply_ite Msg.items, if_neg h, ite_self]

theorem wipesE_slice (m : Msg) (ea : Option Addr) (ec : Nat) (l : List UInt8) : ∃ a c, wipesE (.slice ea m.entries.length ec) l = .slice a (wipes m l).entries.length c := by
  suffices h : ∀ (l : List UInt8) (m : Msg) (ea : Option Addr) (ec : Nat), ∃ a c, wipesE (.slice ea m.entries.length ec) l = .slice a (wipes m l).entries.length c from h l m ea ec
  intro l
  induction l with
  | nil => intro m ea ec; exact ⟨ea, ec, rfl⟩
  | cons x l ih =>
    intro m ea ec
    show ∃ a c, wipesE (wipeE (.slice ea m.entries.length ec) x) l = .slice a (wipes (wipeM m x) l).entries.length c
    have e := wipeM_entries m x
    by_cases hx : x = 76
    · rw [if_pos hx] at e
      have := ih (wipeM m x) none 0
      rw [e] at this
      simpa [wipeE, hx] using this
    · rw [if_neg hx] at e
      have := ih (wipeM m x) ea ec
      rw [e] at this
      simpa [wipeE, hx] using this
theorem wipesI_slice (m : Msg) (ea : Option Addr) (ec : Nat) (l : List UInt8) : ∃ a c, wipesI (.slice ea m.items.length ec) l = .slice a (wipes m l).items.length c := by
  suffices h : ∀ (l : List UInt8) (m : Msg) (ea : Option Addr) (ec : Nat), ∃ a c, wipesI (.slice ea m.items.length ec) l = .slice a (wipes m l).items.length c from h l m ea ec
  intro l
  induction l with
  | nil => intro m ea ec; exact ⟨ea, ec, rfl⟩
  | cons x l ih =>
    intro m ea ec
    show ∃ a c, wipesI (wipeI (.slice ea m.items.length ec) x) l = .slice a (wipes (wipeM m x) l).items.length c
    have e := wipeM_items m x
    by_cases hx : x = 73
    · rw [if_pos hx] at e
      have := ih (wipeM m x) none 0
      rw [e] at this
      simpa [wipeI, hx] using this
    · rw [if_neg hx] at e
      have := ih (wipeM m x) ea ec
      rw [e] at this
      simpa [wipeI, hx] using this

theorem num_field {m : Msg} {ev iv : Value} {f : UInt8} (hf : f ∈ fieldL) :
    (∃ o x, numOff f.toNat = some o ∧ numGet m f = some x ∧ (msgC m ev iv)[o]? = some (.int .i64 x)) ∨ (numOff f.toNat = none ∧ numGet m f = none) := by
  simp only [fieldL, List.mem_cons, List.not_mem_nil, or_false] at hf
  rcases hf with rfl | rfl | rfl | rfl | rfl | rfl | rfl | rfl | rfl | rfl | rfl | rfl | rfl | rfl | rfl | rfl
  all_goals first | exact .inl ⟨_, _, rfl, rfl, rfl⟩ | exact .inr ⟨rfl, rfl⟩

def Msg.wf (m : Msg) : Prop := m.entry.wf ∧ (∀ e ∈ m.entries, e.wf) ∧ (∀ t ∈ m.items, t.wf) ∧ m.body.size ≤ maxLen ∧ m.entries.length ≤ 1000000 ∧ m.items.length ≤ 1000000

theorem rightM_kind {m : Msg} (h : m.kind < 1 ∨ 16 < m.kind) : rightM m = false := by
  have : decide (1 ≤ m.kind ∧ m.kind ≤ 16) = false := decide_eq_false (by omega)
  simp only [rightM, this, Bool.false_and]
theorem rightM_head {m : Msg} (h : headOk m = false) : rightM m = false := by simp [rightM, h]
theorem rightM_body {m : Msg} (h : mostOf m.kind < m.body.size) : rightM m = false := by
  have : decide (m.body.size ≤ mostOf m.kind) = false := decide_eq_false (by omega)
  simp [rightM, this]
theorem rightM_ent {m : Msg} (h1 : (fieldsOf m.kind).contains 69 = true) (h2 : m.entry.right = false) : rightM m = false := by
  simp only [rightM, h1, h2]; simp
theorem rightM_num {m : Msg} (h : (fieldsOf m.kind).all (numFit m) = false) : rightM m = false := by simp only [rightM, h]; simp
theorem rightM_rest {m : Msg} (hk : 1 ≤ m.kind ∧ m.kind ≤ 16) (h1 : headOk m = true) (h2 : m.body.size ≤ mostOf m.kind) (h3 : (!(fieldsOf m.kind).contains 69 || m.entry.right) = true) (h4 : (fieldsOf m.kind).all (numFit m) = true) :
    rightM m = (emptyM (wipes m (fieldsOf m.kind)) && listsM m) := by
  simp only [rightM, decide_eq_true hk, h1, decide_eq_true h2, h3, h4, Bool.true_and]

set_option maxRecDepth 100000 in
set_option maxHeartbeats 1000000 in
theorem right_kind (m : Msg) (ev iv : Value) (w : World) (h : m.kind < 1 ∨ 16 < m.kind) :
    Calls Tryd.prog 21 #[.agg (msgC m ev iv)] w fun e w' => e = .returned (.bool (rightM m)) ∧ Below w.heap.size w w' := by
  have Hr := Lib.hid (rightM_kind h)
  unfold msgC
  go_enter Tryd.func21, Tryd.ntmps21
  go_wp2_with (go_at_call 31; refine (fields_no _ h _).mono ?_; rintro x w1 ⟨rfl, rfl⟩)
  go_ret
  exact ⟨by rw [Hr.out]; rfl, (Below.refl _ _).alloc (Nat.le_refl _) _⟩

theorem headOk_false {m : Msg} (h : headOk m = false) : m.src < 0 ∨ (0 ≤ m.src ∧ 255 < m.src) ∨ (0 ≤ m.src ∧ m.src ≤ 255 ∧ 255 < m.operation) ∨ (0 ≤ m.src ∧ m.src ≤ 255 ∧ m.operation ≤ 255 ∧ fitB m.check.op = false) ∨ (0 ≤ m.src ∧ m.src ≤ 255 ∧ m.operation ≤ 255 ∧ fitB m.check.op = true ∧ fitB m.check.view = false) := by
  simp only [headOk, Bool.and_eq_false_iff, decide_eq_false_iff_not] at h
  cases h1 : fitB m.check.op <;> cases h2 : fitB m.check.view <;> simp only [h1, h2] at h ⊢ <;> simp at h ⊢ <;> omega

set_option maxRecDepth 100000 in
set_option maxHeartbeats 2000000 in
theorem right_head (m : Msg) (ev iv : Value) (w : World) (ha : AllAt w) (hk1 : 1 ≤ m.kind) (hk2 : m.kind ≤ 16) (h : headOk m = false) :
    Calls Tryd.prog 21 #[.agg (msgC m ev iv)] w fun e w' => e = .returned (.bool (rightM m)) ∧ Below w.heap.size w w' := by
  have Hr := Lib.hid (rightM_head h)
  have HA := Lib.hid (ha.later ((Below.refl w.heap.size w).alloc (Nat.le_refl _) (.cells (msgC m ev iv) 31)))
  have h' := headOk_false h
  clear h ha
  unfold msgC at HA ⊢
  rcases h' with h | ⟨h1, h⟩ | ⟨h1, h2, h⟩ | ⟨h1, h2, h3, h⟩ | ⟨h1, h2, h3, h4, h⟩
  all_goals
    go_enter Tryd.func21, Tryd.ntmps21
    go_wp2_with (first | (go_at_call 31; refine (fields_yes _ hk1 hk2 _ HA.out).mono ?_; rintro x w1 ⟨rfl, rfl⟩) | (go_at_call 42; refine (may_any _ _).mono ?_; rintro x w1 ⟨rfl, rfl⟩))
    go_ret
    exact ⟨by rw [Hr.out]; rfl, (Below.refl _ _).alloc (Nat.le_refl _) _⟩

theorem headOk_true {m : Msg} (h : headOk m = true) : 0 ≤ m.src ∧ m.src ≤ 255 ∧ m.operation ≤ 255 ∧ fitB m.check.op = true ∧ fitB m.check.view = true := by
  simp only [headOk, Bool.and_eq_true, decide_eq_true_eq] at h
  obtain ⟨⟨⟨⟨h1, h2⟩, h3⟩, h4⟩, h5⟩ := h
  exact ⟨h1, h2, h3, h4, h5⟩

set_option maxRecDepth 100000 in
set_option maxHeartbeats 2000000 in
theorem right_body (m : Msg) (ev iv : Value) (w : World) (ha : AllAt w) (hk1 : 1 ≤ m.kind) (hk2 : m.kind ≤ 16) (h : headOk m = true) (hb : mostOf m.kind < m.body.size) (hbs : m.body.size ≤ maxLen) :
    Calls Tryd.prog 21 #[.agg (msgC m ev iv)] w fun e w' => e = .returned (.bool (rightM m)) ∧ Below w.heap.size w w' := by
  have Hr := Lib.hid (rightM_body hb)
  have hbs : m.body.size ≤ 9223372036854775807 := hbs
  have HA := Lib.hid (ha.later ((Below.refl w.heap.size w).alloc (Nat.le_refl _) (.cells (msgC m ev iv) 31)))
  obtain ⟨s0, s1, o1, f1, f2⟩ := headOk_true h
  have hc : ((m.kind == 15) = true ∧ 320 < m.body.size) ∨ ((m.kind == 15) = false ∧ 200 < m.body.size) := by
    unfold mostOf at hb
    by_cases e : m.kind = 15
    · rw [if_pos e] at hb; exact .inl ⟨by simp [e], hb⟩
    · rw [if_neg e] at hb; exact .inr ⟨by simp [e], hb⟩
  clear h ha hb
  unfold msgC at HA ⊢
  rcases hc with ⟨h15, hlong⟩ | ⟨h15, hlong⟩
  all_goals
    go_enter Tryd.func21, Tryd.ntmps21
    go_wp2_with (first | (go_at_call 31; refine (fields_yes _ hk1 hk2 _ HA.out).mono ?_; rintro x w1 ⟨rfl, rfl⟩) | (go_at_call 42; refine (may_any _ _).mono ?_; rintro x w1 ⟨rfl, rfl⟩))
    go_ret
    exact ⟨by rw [Hr.out]; rfl, (Below.refl _ _).alloc (Nat.le_refl _) _⟩

theorem E_kind {k : Int} (h1 : 1 ≤ k) (h2 : k ≤ 16) (h : (fieldsOf k).contains 69 = true) : (k == 15) = false := by
  rcases kind_cases h1 h2 with rfl | rfl | rfl | rfl | rfl | rfl | rfl | rfl | rfl | rfl | rfl | rfl | rfl | rfl | rfl | rfl
  all_goals first | rfl | (exact absurd h (by decide))

set_option maxRecDepth 100000 in
set_option maxHeartbeats 2000000 in
theorem right_ent (m : Msg) (ev iv : Value) (w : World) (ha : AllAt w) (hk1 : 1 ≤ m.kind) (hk2 : m.kind ≤ 16) (h : headOk m = true) (hb : m.body.size ≤ mostOf m.kind) (hE : (fieldsOf m.kind).contains 69 = true) (he : m.entry.right = false) (hes : m.entry.body.size ≤ maxLen) :
    Calls Tryd.prog 21 #[.agg (msgC m ev iv)] w fun e w' => e = .returned (.bool (rightM m)) ∧ Below w.heap.size w w' := by
  have Hr := Lib.hid (rightM_ent hE he)
  have HA := Lib.hid (ha.later ((Below.refl w.heap.size w).alloc (Nat.le_refl _) (.cells (msgC m ev iv) 31)))
  obtain ⟨s0, s1, o1, f1, f2⟩ := headOk_true h
  have h15 := E_kind hk1 hk2 hE
  have hb2 : m.body.size ≤ 200 := by
    unfold mostOf at hb
    rw [if_neg (by rw [beq_eq_false_iff_ne] at h15; exact h15)] at hb
    exact hb
  have HE := Lib.hid hE
  have HN := Lib.hid he
  clear h ha hb hE he
  unfold msgC at HA ⊢
  go_enter Tryd.func21, Tryd.ntmps21
  go_wp2_with (first | (go_at_call 31; refine (fields_yes _ hk1 hk2 _ HA.out).mono ?_; rintro x w1 ⟨rfl, rfl⟩) | (go_at_call 42; refine (may_any _ _).mono ?_; rintro x w1 ⟨rfl, rfl⟩) | (go_at_call 43; refine (Tryd.strings_ContainsRune_ascii _ 69 _ (by omega) (by omega)).mono ?_; rintro x w1 ⟨rfl, rfl⟩; rw [fields_E hk1 hk2, HE.out]) | (go_at_call 44; refine (entRight_any m.entry hes _).mono ?_; rintro x w1 ⟨rfl, hb1⟩; rw [HN.out]))
  go_ret
  exact ⟨by rw [Hr.out]; rfl, below_box hb1 (by simp)⟩

end Go.Proofs.YtmidfknlmjgjpaaDoor
