/- What msg.Right answers; plain facts on it. -/
import Derived.Test.YtmidfknlmjgjpaaDoorLists
namespace Go.Proofs.YtmidfknlmjgjpaaDoor
open Go.RowKit

def wipes (m : Msg) (l : List UInt8) : Msg := l.foldl wipeM m
def wipesE (v : Value) (l : List UInt8) : Value := l.foldl wipeE v
def wipesI (v : Value) (l : List UInt8) : Value := l.foldl wipeI v
def numFit (m : Msg) (f : UInt8) : Bool := match numGet m f with | none => true | some n => fitB n
def mostOf (k : Int) : Nat := if k = 15 then 320 else 200
def headOk (m : Msg) : Bool := decide (0 ≤ m.src) && decide (m.src ≤ 255) && decide (m.operation ≤ 255) && fitB m.check.op && fitB m.check.view
/-- May a message be? -/
def rightM (m : Msg) : Bool :=
  decide (1 ≤ m.kind ∧ m.kind ≤ 16) && headOk m && decide (m.body.size ≤ mostOf m.kind) && (!(fieldsOf m.kind).contains 69 || m.entry.right) && (fieldsOf m.kind).all (numFit m) && emptyM (wipes m (fieldsOf m.kind)) && listsM m

theorem kind_cases {k : Int} (h1 : 1 ≤ k) (h2 : k ≤ 16) : k = 1 ∨ k = 2 ∨ k = 3 ∨ k = 4 ∨ k = 5 ∨ k = 6 ∨ k = 7 ∨ k = 8 ∨ k = 9 ∨ k = 10 ∨ k = 11 ∨ k = 12 ∨ k = 13 ∨ k = 14 ∨ k = 15 ∨ k = 16 := by omega

theorem fieldsOf_mem {k : Int} {c : UInt8} (h : c ∈ fieldsOf k) : c ∈ fieldL := by
  by_cases hk : 1 ≤ k ∧ k ≤ 16
  · have all : ∀ l ∈ allL, ∀ c ∈ l, c ∈ fieldL := by decide
    rw [fieldsOf, if_pos hk, List.getD_eq_getElem?_getD] at h
    cases e : allL[k.toNat - 1]? with
    | none => rw [e] at h; simp at h
    | some l =>
      rw [e] at h
      exact all l (List.mem_of_getElem? e) c h
  · rw [fieldsOf, if_neg hk] at h
    cases h

theorem fieldL_small {c : UInt8} (h : c ∈ fieldL) : c.toNat < 128 := by
  have : ∀ c ∈ fieldL, c.toNat < 128 := by decide
  exact this c h

theorem fields_E {k : Int} (h1 : 1 ≤ k) (h2 : k ≤ 16) : decide (0 ≤ Lib.indexByte (str (fieldsOf k)).data.toList (69 : Int).toNat.toUInt8) = (fieldsOf k).contains 69 := by
  rcases kind_cases h1 h2 with rfl | rfl | rfl | rfl | rfl | rfl | rfl | rfl | rfl | rfl | rfl | rfl | rfl | rfl | rfl | rfl <;> decide

theorem wipes_snoc (m : Msg) (l : List UInt8) (c : UInt8) : wipes m (l ++ [c]) = wipeM (wipes m l) c := by simp [wipes, List.foldl_append]
theorem wipesE_snoc (v : Value) (l : List UInt8) (c : UInt8) : wipesE v (l ++ [c]) = wipeE (wipesE v l) c := by simp [wipesE, List.foldl_append]
theorem wipesI_snoc (v : Value) (l : List UInt8) (c : UInt8) : wipesI v (l ++ [c]) = wipeI (wipesI v l) c := by simp [wipesI, List.foldl_append]

theorem wipeM_entries (m : Msg) (c : UInt8) : (wipeM m c).entries = if c = 76 then [] else m.entries := by
  by_cases h : c = 76
  · subst h; rfl
  · simp only [wipeM, apply_ite Msg.entries, if_neg h, ite_self]
theorem wipeM_items (m : Msg) (c : UInt8) : (wipeM m c).items = if c = 73 then [] else m.items := by
  by_cases h : c = 73
  · subst h; rfl
  · simp only [wipeM, apply_ite Msg.items, if_neg h, ite_self]

theorem wipesE_slice (m : Msg) (ea : Option Addr) (ec : Nat) (l : List UInt8) : ∃ a c, wipesE (.slice ea m.entries.length ec) l = .slice a (wipes m l).entries.length c := by
  suffices h : ∀ (l : List UInt8) (m : Msg) (ea : Option Addr) (ec : Nat), ∃ a c, wipesE (.slice ea m.entries.length ec) l = .slice a (wipes m l).entries.length c from h l m ea ec
  intro l
  induction l with
  | nil => intro m ea ec; exact ⟨ea, ec, rfl⟩
  | cons x l ih =>
    intro m ea ec
    show ∃ a c, wipesE (wipeE (.slice ea m.entries.length ec) x) l = .slice a (wipes (wipeM m x) l).entries.length c
    have e := wipeM_entries m x
    by_cases hx : x = 76
    · rw [if_pos hx] at e
      have := ih (wipeM m x) none 0
      rw [e] at this
      simpa [wipeE, hx] using this
    · rw [if_neg hx] at e
      have := ih (wipeM m x) ea ec
      rw [e] at this
      simpa [wipeE, hx] using this
theorem wipesI_slice (m : Msg) (ea : Option Addr) (ec : Nat) (l : List UInt8) : ∃ a c, wipesI (.slice ea m.items.length ec) l = .slice a (wipes m l).items.length c := by
  suffices h : ∀ (l : List UInt8) (m : Msg) (ea : Option Addr) (ec : Nat), ∃ a c, wipesI (.slice ea m.items.length ec) l = .slice a (wipes m l).items.length c from h l m ea ec
  intro l
  induction l with
  | nil => intro m ea ec; exact ⟨ea, ec, rfl⟩
  | cons x l ih =>
    intro m ea ec
    show ∃ a c, wipesI (wipeI (.slice ea m.items.length ec) x) l = .slice a (wipes (wipeM m x) l).items.length c
    have e := wipeM_items m x
    by_cases hx : x = 73
    · rw [if_pos hx] at e
      have := ih (wipeM m x) none 0
      rw [e] at this
      simpa [wipeI, hx] using this
    · rw [if_neg hx] at e
      have := ih (wipeM m x) ea ec
      rw [e] at this
      simpa [wipeI, hx] using this

theorem num_field {m : Msg} {ev iv : Value} {f : UInt8} (hf : f ∈ fieldL) :
    (∃ o x, numOff f.toNat = some o ∧ numGet m f = some x ∧ (msgC m ev iv)[o]? = some (.int .i64 x)) ∨ (numOff f.toNat = none ∧ numGet m f = none) := by
  simp only [fieldL, List.mem_cons, List.not_mem_nil, or_false] at hf
  rcases hf with rfl | rfl | rfl | rfl | rfl | rfl | rfl | rfl | rfl | rfl | rfl | rfl | rfl | rfl | rfl | rfl
  all_goals first | exact .inl ⟨_, _, rfl, rfl, rfl⟩ | exact .inr ⟨rfl, rfl⟩

end Go.Proofs.YtmidfknlmjgjpaaDoor
