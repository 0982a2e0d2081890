/- What is read of a body, field by field: bounds, kinds of numbers. Plain. The walk of msg.Decode. -/
import Derived.Test.YtmidfknlmjgjpaaDoorGP
namespace Go.Proofs.YtmidfknlmjgjpaaDoor
open Go.RowKit

theorem rdParts_snoc (l : List UInt8) (k : Int) (f : UInt8) : ∀ (fs : List UInt8) (q : Msg × Rd), rdParts l k (fs ++ [f]) q = (if (fieldsOf k).contains f = true then rdTake l (rdParts l k fs q).1 f (rdParts l k fs q).2 else rdParts l k fs q)
  | [], q => rfl
  | g :: fs, q => by rw [List.cons_append, rdParts, rdParts, rdParts_snoc l k f fs]

/-- What is read of the first so many fields. -/
def readK (h : Head) (b : List UInt8) (k : Nat) : Msg × Rd := rdParts b h.kind (orderL.take k) (baseM h, ⟨0, false⟩)
theorem readK_six (h : Head) (b : List UInt8) : readK h b 6 = readM h b := rfl
theorem readK_succ {h : Head} {b : List UInt8} {k : Nat} {f : UInt8} (hf : orderL[k]? = some f) : readK h b (k + 1) = (if (fieldsOf h.kind).contains f = true then rdTake b (readK h b k).1 f (readK h b k).2 else readK h b k) := by
  rw [readK, List.take_add_one, hf]
  exact rdParts_snoc b h.kind f _ _

theorem rdMany_len {α : Type} (f : Rd → α × Rd) : ∀ (n : Nat) (r : Rd), (rdMany f n r).1.length ≤ n
  | 0, r => by simp [rdMany]
  | n + 1, r => by
    rw [rdMany]
    split
    · simp
    · have := rdMany_len f n (f r).2
      simp only [List.length_cons]; omega
theorem rdMany_all {α : Type} (f : Rd → α × Rd) (P : α → Prop) (hf : ∀ r, P (f r).1) : ∀ (n : Nat) (r : Rd), ∀ x ∈ (rdMany f n r).1, P x
  | 0, r => by simp [rdMany]
  | n + 1, r => by
    rw [rdMany]
    split
    · simp
    · intro x hx
      simp only [List.mem_cons] at hx
      rcases hx with rfl | hx
      · exact hf r
      · exact rdMany_all f P hf n _ x hx
theorem rdMany_pos {α : Type} (f : Rd → α × Rd) (c L : Nat) (hf : ∀ r, (f r).2.pos ≤ max (r.pos + c) L) : ∀ (n : Nat) (r : Rd), (rdMany f n r).2.pos ≤ max r.pos L + n * c
  | 0, r => by simp only [rdMany]; omega
  | n + 1, r => by
    rw [rdMany]
    split
    · show r.pos ≤ _
      have : 0 ≤ (n + 1) * c := Nat.zero_le _
      omega
    · have h1 := rdMany_pos f c L hf n (f r).2
      have h2 := hf r
      show (rdMany f n (f r).2).2.pos ≤ _
      rw [Nat.add_mul, Nat.one_mul]
      omega
theorem rdNum_lt (l : List UInt8) (r : Rd) : (rdNum l 8 r).1 < 18446744073709551616 := by
  show (takeN l r.pos 8).1 < _
  unfold takeN
  split
  · have h1 := Pl.getLE_lt ((l.drop r.pos).take 8)
    have h2 : ((l.drop r.pos).take 8).length ≤ 8 := by rw [List.length_take]; omega
    have h3 : (256 : Nat) ^ ((l.drop r.pos).take 8).length ≤ 256 ^ 8 := Nat.pow_le_pow_right (by omega) h2
    have h4 : (256 : Nat) ^ 8 = 18446744073709551616 := by decide
    show Pl.getLE _ < _
    omega
  · show 0 < _; omega
theorem u64_nat {n : Nat} (h : n < 18446744073709551616) : U64 (n : Int) := ⟨by omega, by omega⟩

theorem rdStub_fit (l : List UInt8) (r : Rd) : (rdStub l r).1.fit := by
  unfold rdStub
  refine ⟨u64_nat (rdNum_lt l _), u64_nat (rdNum_lt l _), fun x hx => ?_⟩
  simp only [List.mem_cons, List.not_mem_nil, or_false] at hx
  rcases hx with rfl | rfl | rfl <;> exact i64_range _
theorem zeroStub_fit : zeroStub.fit := ⟨⟨by decide, by decide⟩, ⟨by decide, by decide⟩, by decide⟩
theorem stub_fit {e : Entry} (h : e.fit) : e.stub.fit := by
  unfold Entry.stub
  split
  · refine ⟨h.1.1, ?_, ?_⟩
    · exact u64_nat (Pl.chain_lt _ (by have h1 := h.1.1.1; have h2 := h.1.1.2; omega))
    · intro x hx
      have := h.2
      simp only [List.mem_cons, List.not_mem_nil, or_false, forall_eq_or_imp, forall_eq] at this hx
      rcases hx with rfl | rfl | rfl
      · exact this.2.1
      · exact this.1
      · exact this.2.2.1
  · exact zeroStub_fit
theorem rdItem_fit (l : List UInt8) (r : Rd) : (rdItem l r).1.fit := by
  unfold rdItem
  by_cases h1 : (rdNum l 1 r).1 = 1
  · simp only [h1, if_true]
    exact ⟨stub_fit (rdEntry_fit l _), rdEntry_fit l _, by show (-9223372036854775808 : Int) ≤ 1; decide, by show (1 : Int) ≤ _; decide⟩
  · by_cases h2 : (rdNum l 1 r).1 = 2
    · simp only [h1, h2, if_true, if_false]
      exact ⟨rdStub_fit l _, zeroEntry_fit, by show (-9223372036854775808 : Int) ≤ 2; decide, by show (2 : Int) ≤ _; decide⟩
    · simp only [h1, h2, if_false]
      have : (rdNum l 1 r).1 < 256 := takeN1_lt l r.pos
      exact ⟨zeroStub_fit, zeroEntry_fit, by show (-9223372036854775808 : Int) ≤ ((rdNum l 1 r).1 : Int); omega, by show ((rdNum l 1 r).1 : Int) ≤ _; omega⟩

/-- What holds of the first so many fields. -/
structure KInv (L : Nat) (k : Nat) (q : Msg × Rd) : Prop where
  pos : q.2.pos ≤ L + 2000 * k
  ents : k ≤ 3 → q.1.entries = []
  its : k ≤ 4 → q.1.items = []
  elen : q.1.entries.length ≤ 255
  ilen : q.1.items.length ≤ 8
  fit : q.1.fit

theorem baseM_fit (h : Head) : (baseM h).fit := ⟨zeroEntry_fit, by simp [baseM], by simp [baseM], by show (str []).size ≤ _; decide, ⟨by show (0 : Int) ≤ 0; decide, by show (0 : Int) < _; decide⟩, by simp [baseM, U64], by simp [baseM], by simp [baseM]⟩

theorem rdSums_pos (l : List UInt8) : ∀ (n : Nat) (r : Rd), (rdSums l n r).2.pos = r.pos + 8 * n
  | 0, r => rfl
  | n + 1, r => by
    show (rdSums l n (rdNum l 8 r).2).2.pos = _
    rw [rdSums_pos l n]; show r.pos + 8 + 8 * n = _; omega
theorem rdSums_lt (l : List UInt8) : ∀ (n : Nat) (r : Rd) (i : Nat), (rdSums l n r).1.getD i 0 < 18446744073709551616
  | 0, r, i => by simp [rdSums]
  | n + 1, r, 0 => rdNum_lt l r
  | n + 1, r, i + 1 => by
    show ((rdSums l n (rdNum l 8 r).2).1).getD i 0 < _
    exact rdSums_lt l n _ i

theorem KInv.up {L k : Nat} {q : Msg × Rd} (h : KInv L k q) : KInv L (k + 1) q :=
  ⟨by have := h.pos; omega, fun hk => h.ents (by omega), fun hk => h.its (by omega), h.elen, h.ilen, h.fit⟩
theorem rdMark_sum (l : List UInt8) (r : Rd) : U64 (rdMark l r).1.sum := by
  unfold rdMark
  exact u64_nat (rdNum_lt l _)
theorem rdMark_pos (l : List UInt8) (r : Rd) : (rdMark l r).2.pos = r.pos + 8 + 8 + 8 := by
  unfold rdMark
  simp only [itemPos]
theorem kinv_C0 {b : List UInt8} {q : Msg × Rd} (h : KInv b.length 0 q) (y : Mark × Rd) (hs : U64 y.1.sum) (hp : y.2.pos = q.2.pos + 8 + 8 + 8) : KInv b.length 1 ({ q.1 with check := y.1 }, y.2) := by
  obtain ⟨k1, k2, k3, k4, k5, k6⟩ := h
  have e1 : y.2.pos ≤ b.length + 2000 * 1 := by omega
  have e2 : q.1.entries = [] := k2 (by omega)
  have e3 : q.1.items = [] := k3 (by omega)
  exact ⟨e1, fun _ => e2, fun _ => e3, k4, k5, ⟨k6.entry, k6.entries, k6.items, k6.body, hs, k6.sums, k6.len1, k6.len2⟩⟩
theorem kinv_C {b : List UInt8} {q : Msg × Rd} (h : KInv b.length 0 q) : KInv b.length 1 (rdTake b q.1 67 q.2) := by
  have e : rdTake b q.1 67 q.2 = ({ q.1 with check := (rdMark b q.2).1 }, (rdMark b q.2).2) := by rw [rdTake, if_pos rfl]
  rw [e]
  exact kinv_C0 h _ (rdMark_sum b q.2) (rdMark_pos b q.2)
theorem kinv_S0 {b : List UInt8} {q : Msg × Rd} (h : KInv b.length 1 q) (y : List Nat × Rd) (hx : ∀ i, y.1.getD i 0 < 18446744073709551616) (hp : y.2.pos = q.2.pos + 8 * 6) : KInv b.length 2 ({ q.1 with s0 := (y.1.getD 0 0 : Nat), s1 := (y.1.getD 1 0 : Nat), s2 := (y.1.getD 2 0 : Nat), s3 := (y.1.getD 3 0 : Nat), s4 := (y.1.getD 4 0 : Nat), s5 := (y.1.getD 5 0 : Nat) }, y.2) := by
  obtain ⟨k1, k2, k3, k4, k5, k6⟩ := h
  have e1 : y.2.pos ≤ b.length + 2000 * 2 := by omega
  have e2 : q.1.entries = [] := k2 (by omega)
  have e3 : q.1.items = [] := k3 (by omega)
  have e4 : ∀ x ∈ [((y.1.getD 0 0 : Nat) : Int), (y.1.getD 1 0 : Nat), (y.1.getD 2 0 : Nat), (y.1.getD 3 0 : Nat), (y.1.getD 4 0 : Nat), (y.1.getD 5 0 : Nat)], U64 x := by
    intro x hx2
    simp only [List.mem_cons, List.not_mem_nil, or_false] at hx2
    rcases hx2 with rfl | rfl | rfl | rfl | rfl | rfl <;> exact u64_nat (hx _)
  exact ⟨e1, fun _ => e2, fun _ => e3, k4, k5, ⟨k6.entry, k6.entries, k6.items, k6.body, k6.sum, e4, k6.len1, k6.len2⟩⟩
theorem kinv_S {b : List UInt8} {q : Msg × Rd} (h : KInv b.length 1 q) : KInv b.length 2 (rdTake b q.1 83 q.2) := by
  have e : rdTake b q.1 83 q.2 = ({ q.1 with s0 := ((rdSums b 6 q.2).1.getD 0 0 : Nat), s1 := ((rdSums b 6 q.2).1.getD 1 0 : Nat), s2 := ((rdSums b 6 q.2).1.getD 2 0 : Nat), s3 := ((rdSums b 6 q.2).1.getD 3 0 : Nat), s4 := ((rdSums b 6 q.2).1.getD 4 0 : Nat), s5 := ((rdSums b 6 q.2).1.getD 5 0 : Nat) }, (rdSums b 6 q.2).2) := by rw [rdTake, if_neg (by decide), if_pos rfl]
  rw [e]
  exact kinv_S0 h _ (rdSums_lt b 6 q.2) (rdSums_pos b 6 q.2)
theorem kinv_E0 {b : List UInt8} {q : Msg × Rd} (h : KInv b.length 2 q) (y : Entry × Rd) (hf : y.1.fit) (hp : y.2.pos ≤ b.length) : KInv b.length 3 ({ q.1 with entry := y.1 }, y.2) := by
  obtain ⟨k1, k2, k3, k4, k5, k6⟩ := h
  have e1 : y.2.pos ≤ b.length + 2000 * 3 := by omega
  have e2 : q.1.entries = [] := k2 (by omega)
  have e3 : q.1.items = [] := k3 (by omega)
  exact ⟨e1, fun _ => e2, fun _ => e3, k4, k5, ⟨hf, k6.entries, k6.items, k6.body, k6.sum, k6.sums, k6.len1, k6.len2⟩⟩
theorem kinv_E {b : List UInt8} {q : Msg × Rd} (h : KInv b.length 2 q) : KInv b.length 3 (rdTake b q.1 69 q.2) := by
  have e : rdTake b q.1 69 q.2 = ({ q.1 with entry := (rdEntry b q.2).1 }, (rdEntry b q.2).2) := by rw [rdTake, if_neg (by decide), if_neg (by decide), if_pos rfl]
  rw [e]
  exact kinv_E0 h _ (rdEntry_fit b q.2) (rdEntry_pos b q.2)
theorem kinv_L0 {b : List UInt8} {q : Msg × Rd} (h : KInv b.length 3 q) (y : List Entry × Rd) (hl : y.1.length ≤ 255) (hf : ∀ x ∈ y.1, x.fit) (hp : y.2.pos ≤ max (q.2.pos + 1) b.length) : KInv b.length 4 ({ q.1 with entries := q.1.entries ++ y.1 }, y.2) := by
  obtain ⟨k1, k2, k3, k4, k5, k6⟩ := h
  have e1 : y.2.pos ≤ b.length + 2000 * 4 := by omega
  have e3 : q.1.items = [] := k3 (by omega)
  have e2 : q.1.entries = [] := k2 (by omega)
  rw [e2, List.nil_append]
  have e5 : y.1.length ≤ maxLen := by simp only [maxLen]; omega
  exact ⟨e1, fun h => by omega, fun _ => e3, hl, k5, ⟨k6.entry, hf, k6.items, k6.body, k6.sum, k6.sums, e5, k6.len2⟩⟩
theorem kinv_L {b : List UInt8} {q : Msg × Rd} (h : KInv b.length 3 q) : KInv b.length 4 (rdTake b q.1 76 q.2) := by
  have e : rdTake b q.1 76 q.2 = ({ q.1 with entries := q.1.entries ++ (rdMany (rdEntry b) (rdNum b 1 q.2).1 (rdNum b 1 q.2).2).1 }, (rdMany (rdEntry b) (rdNum b 1 q.2).1 (rdNum b 1 q.2).2).2) := by rw [rdTake, if_neg (by decide), if_neg (by decide), if_neg (by decide), if_pos rfl]
  rw [e]
  have hn : (rdNum b 1 q.2).1 < 256 := takeN1_lt b q.2.pos
  have hq : (rdNum b 1 q.2).2.pos = q.2.pos + 1 := rfl
  generalize rdNum b 1 q.2 = x at hn hq
  have hl := rdMany_len (rdEntry b) x.1 x.2
  have hp := rdMany_pos (rdEntry b) 0 b.length (fun r => Nat.le_trans (rdEntry_pos b r) (Nat.le_max_right _ _)) x.1 x.2
  exact kinv_L0 h _ (by omega) (rdMany_all _ Entry.fit (rdEntry_fit b) x.1 x.2) (by omega)
theorem kinv_I0 {b : List UInt8} {q : Msg × Rd} (h : KInv b.length 4 q) (y : List Item × Rd) (hl : y.1.length ≤ 8) (hf : ∀ x ∈ y.1, x.fit) (hp : y.2.pos ≤ max q.2.pos b.length + 8 * 41) : KInv b.length 5 ({ q.1 with items := q.1.items ++ y.1 }, y.2) := by
  obtain ⟨k1, k2, k3, k4, k5, k6⟩ := h
  have e1 : y.2.pos ≤ b.length + 2000 * 5 := by omega
  have e2 : q.1.items = [] := k3 (by omega)
  rw [e2, List.nil_append]
  have e5 : y.1.length ≤ maxLen := by simp only [maxLen]; omega
  exact ⟨e1, fun h => by omega, fun h => by omega, k4, hl, ⟨k6.entry, k6.entries, hf, k6.body, k6.sum, k6.sums, k6.len1, e5⟩⟩
theorem kinv_I {b : List UInt8} {q : Msg × Rd} (h : KInv b.length 4 q) : KInv b.length 5 (rdTake b q.1 73 q.2) := by
  have e : rdTake b q.1 73 q.2 = ({ q.1 with items := q.1.items ++ (rdMany (rdItem b) 8 q.2).1 }, (rdMany (rdItem b) 8 q.2).2) := by rw [rdTake, if_neg (by decide), if_neg (by decide), if_neg (by decide), if_neg (by decide), if_pos rfl]
  rw [e]
  exact kinv_I0 h _ (rdMany_len (rdItem b) 8 q.2) (rdMany_all _ Item.fit (rdItem_fit b) 8 q.2) (rdMany_pos (rdItem b) 41 b.length (rdItem_pos b) 8 q.2)
theorem kinv_B0 {b : List UInt8} {q : Msg × Rd} (h : KInv b.length 5 q) (y : ByteArray) (hy : y.size ≤ maxLen) : KInv b.length 6 ({ q.1 with body := y }, q.2) := by
  obtain ⟨k1, k2, k3, k4, k5, k6⟩ := h
  have e1 : q.2.pos ≤ b.length + 2000 * 6 := by omega
  exact ⟨e1, fun h => by omega, fun h => by omega, k4, k5, ⟨k6.entry, k6.entries, k6.items, hy, k6.sum, k6.sums, k6.len1, k6.len2⟩⟩
theorem kinv_B {b : List UInt8} {q : Msg × Rd} (hb : b.length ≤ 100000) (h : KInv b.length 5 q) : KInv b.length 6 (rdTake b q.1 66 q.2) := by
  have e : rdTake b q.1 66 q.2 = ({ q.1 with body := str (b.drop (min q.2.pos b.length)) }, q.2) := by rw [rdTake, if_neg (by decide), if_neg (by decide), if_neg (by decide), if_neg (by decide), if_neg (by decide), if_pos rfl]
  rw [e]
  exact kinv_B0 h _ (by rw [str_size, List.length_drop]; simp only [maxLen]; omega)

theorem KInv.step {h : Head} {b : List UInt8} {k : Nat} {f : UInt8} (hb : b.length ≤ 100000) (hf : orderL[k]? = some f) (hk : KInv b.length k (readK h b k)) : KInv b.length (k + 1) (readK h b (k + 1)) := by
  rw [readK_succ hf]
  generalize readK h b k = q at hk
  split
  · have hk6 : k < 6 := (List.getElem?_eq_some_iff.1 hf).1
    have hk7 : k = 0 ∨ k = 1 ∨ k = 2 ∨ k = 3 ∨ k = 4 ∨ k = 5 := by omega
    rcases hk7 with rfl | rfl | rfl | rfl | rfl | rfl
    all_goals simp only [orderL, List.getElem?_cons_zero, List.getElem?_cons_succ, Option.some.injEq] at hf
    all_goals subst hf
    · exact kinv_C hk
    · exact kinv_S hk
    · exact kinv_E hk
    · exact kinv_L hk
    · exact kinv_I hk
    · exact kinv_B hb hk
  · exact hk.up
theorem KInv.start (h : Head) (b : List UInt8) : KInv b.length 0 (readK h b 0) := ⟨Nat.zero_le _, fun _ => rfl, fun _ => rfl, Nat.zero_le _, Nat.zero_le _, baseM_fit h⟩

set_option maxRecDepth 100000 in
theorem rdTake_any (w : World) (O : Nat → Prop) (M R pb : Nat) (cap : Nat) (l : List UInt8) (q : Msg × Rd) (ev iv : Value) (h : DAt w O M R (some ⟨pb, 0, none⟩) cap l q.2 q.1 ev iv) (k : Nat) (f : UInt8) (hf : orderL[k]? = some f) (hk : KInv l.length k q) :
    Calls Tryd.prog 54 #[.pointer (some ⟨R, 0, none⟩), .pointer (some ⟨M, 0, none⟩), .int .i32 f.toNat] w fun x w' => x = .returned (.tuple #[]) ∧ Tk O M R (some ⟨pb, 0, none⟩) cap l (rdTake l q.1 f q.2) w w' := by
  have hl := h.rd.len
  have hp := hk.pos
  have hk6 : k < 6 := (List.getElem?_eq_some_iff.1 hf).1
  have hk7 : k = 0 ∨ k = 1 ∨ k = 2 ∨ k = 3 ∨ k = 4 ∨ k = 5 := by omega
  rcases hk7 with rfl | rfl | rfl | rfl | rfl | rfl
  all_goals simp only [orderL, List.getElem?_cons_zero, List.getElem?_cons_succ, Option.some.injEq] at hf
  all_goals subst hf
  · have e : rdTake l q.1 67 q.2 = ({ q.1 with check := (rdMark l q.2).1 }, (rdMark l q.2).2) := by rw [rdTake, if_pos rfl]
    rw [e]; exact take_C w O M R _ cap l q.2 q.1 ev iv h (by omega)
  · exact take_S w O M R _ cap l q.2 q.1 ev iv h (by omega)
  · have e : rdTake l q.1 69 q.2 = ({ q.1 with entry := (rdEntry l q.2).1 }, (rdEntry l q.2).2) := by rw [rdTake, if_neg (by decide), if_neg (by decide), if_pos rfl]
    rw [e]; exact take_E w O M R _ cap l q.2 q.1 ev iv h (by omega)
  · have e : rdTake l q.1 76 q.2 = ({ q.1 with entries := q.1.entries ++ (rdMany (rdEntry l) (rdNum l 1 q.2).1 (rdNum l 1 q.2).2).1 }, (rdMany (rdEntry l) (rdNum l 1 q.2).1 (rdNum l 1 q.2).2).2) := by rw [rdTake, if_neg (by decide), if_neg (by decide), if_neg (by decide), if_pos rfl]
    rw [e]; exact take_L w O M R _ cap l q.2 q.1 ev iv h (by omega) (by rw [hk.ents (by omega)]; simp)
  · have e : rdTake l q.1 73 q.2 = ({ q.1 with items := q.1.items ++ (rdMany (rdItem l) 8 q.2).1 }, (rdMany (rdItem l) 8 q.2).2) := by rw [rdTake, if_neg (by decide), if_neg (by decide), if_neg (by decide), if_neg (by decide), if_pos rfl]
    rw [e]; exact take_I w O M R _ cap l q.2 q.1 ev iv h (by omega) (by rw [hk.its (by omega)]; simp)
  · have e : rdTake l q.1 66 q.2 = ({ q.1 with body := str (l.drop (min q.2.pos l.length)) }, q.2) := by rw [rdTake, if_neg (by decide), if_neg (by decide), if_neg (by decide), if_neg (by decide), if_neg (by decide), if_pos rfl]
    rw [e]; exact take_B w O M R pb cap l q.2 q.1 ev iv h (by omega)

theorem DAt.off {w w' : World} {O X : Nat → Prop} {M R : Nat} {p : Option Addr} {cap : Nat} {l : List UInt8} {r : Rd} {m : Msg} {ev iv : Value} (h : DAt w O M R p cap l r m ev iv) (ho : Off X w w') (hx : ∀ k, X k → ¬ O k) (hp : ∀ a, p = some a → ¬ X a.block) : DAt w' O M R p cap l r m ev iv where
  rd := h.rd.later ho (fun hR => hx R hR h.oR) hp
  msg := (ho.block M (h.low M h.oM) (fun hM => hx M hM h.oM)).trans h.msg
  ents := h.ents.same ho.size fun k hk _ => ho.block k (h.low k (h.oe k hk).1) (fun hX => hx k hX (h.oe k hk).1)
  items := h.items.same ho.size fun k hk _ => ho.block k (h.low k (h.oi k hk).1) (fun hX => hx k hX (h.oi k hk).1)
  oM := h.oM
  oR := h.oR
  ne := h.ne
  oe := h.oe
  oi := h.oi
  op := h.op
  low := fun k hk => Nat.lt_of_lt_of_le (h.low k hk) ho.size

/-- The loop over a body's fields: the iterator's block, the result's. -/
structure DLoop (w : World) (hd : Head) (b : List UInt8) (M R pb cap IT : Nat) (wr : World) (k : Nat) (O : Nat → Prop) (ev iv : Value) : Prop where
  d : DAt wr O M R (some ⟨pb, 0, none⟩) cap b (readK hd b k).2 (readK hd b k).1 ev iv
  it : wr.heap[IT]? = some (.stringIter (str orderL) k)
  oit : ¬ O IT
  pit : pb ≠ IT
  res : wr.heap[w.heap.size]? = some (.cells (msgC (baseM zeroHead) (.slice none 0 0) (.slice none 0 0)) 31 (0, 0))
  ores : ¬ O w.heap.size
  low : ∀ k, O k → w.heap.size ≤ k
  ltit : w.heap.size < IT
  pg : pb ≠ w.heap.size
  below : Below w.heap.size w wr

theorem DLoop.next {w : World} {hd : Head} {b : List UInt8} {M R pb cap IT : Nat} {wr : World} {k : Nat} {O : Nat → Prop} {ev iv : Value} (h : DLoop w hd b M R pb cap IT wr k O ev iv) :
    DAt (setIter wr IT (str orderL) (k + 1)) O M R (some ⟨pb, 0, none⟩) cap b (readK hd b k).2 (readK hd b k).1 ev iv ∧ (setIter wr IT (str orderL) (k + 1)).heap[IT]? = some (.stringIter (str orderL) (k + 1)) ∧
    (setIter wr IT (str orderL) (k + 1)).heap[w.heap.size]? = some (.cells (msgC (baseM zeroHead) (.slice none 0 0) (.slice none 0 0)) 31 (0, 0)) ∧ Below w.heap.size w (setIter wr IT (str orderL) (k + 1)) ∧ IT < (setIter wr IT (str orderL) (k + 1)).heap.size := by
  have ho : Off (only IT) wr (setIter wr IT (str orderL) (k + 1)) := ⟨rfl, rfl, rfl, by rw [setIter_size]; exact Nat.le_refl _, fun j _ hj => setIter_other _ _ _ _ hj⟩
  refine ⟨h.d.off ho (fun j hj => by rw [show j = IT from hj]; exact h.oit) (fun a e hk => by obtain rfl := Option.some.inj e; exact h.pit hk), setIter_at _ _ h.it, ?_, ?_, ?_⟩
  · rw [setIter_other _ _ _ _ (by have := h.ltit; omega)]; exact h.res
  · exact h.below.trans (ho.below (fun j hj => by rw [show j = IT from hj]; exact Nat.le_of_lt h.ltit) h.below.size)
  · rw [setIter_size]; exact (Array.getElem?_eq_some_iff.1 h.it).1

/-- Behind a field that is read. -/
theorem DLoop.took {w : World} {hd : Head} {b : List UInt8} {M R pb cap IT : Nat} {wr wa wb : World} {k : Nat} {O : Nat → Prop} {ev iv : Value} (h : DLoop w hd b M R pb cap IT wr k O ev iv) (hb : Below (setIter wr IT (str orderL) (k + 1)).heap.size (setIter wr IT (str orderL) (k + 1)) wa)
    (hT : Tk O M R (some ⟨pb, 0, none⟩) cap b (readK hd b (k + 1)) wa wb) : ∃ O' ev' iv', DLoop w hd b M R pb cap IT wb (k + 1) O' ev' iv' := by
  obtain ⟨h1, h2, h3, h4, h5⟩ := h.next
  obtain ⟨O', ev', iv', hd', hs, ho⟩ := hT
  have hIT : IT < wa.heap.size := Nat.lt_of_lt_of_le h5 hb.size
  have hG : w.heap.size < wa.heap.size := Nat.lt_trans h.ltit hIT
  refine ⟨O', ev', iv', hd', ?_, ?_, h.pit, ?_, ?_, ?_, h.ltit, h.pg, ?_⟩
  · exact (ho.block IT hIT h.oit).trans ((hb.block IT h5).trans h2)
  · intro hO
    rcases hs IT hO with h6 | h6
    · exact h.oit h6
    · omega
  · exact (ho.block _ hG h.ores).trans ((hb.block _ (Nat.lt_trans h.ltit h5)).trans h3)
  · intro hO
    rcases hs _ hO with h6 | h6
    · exact h.ores h6
    · omega
  · intro j hj
    rcases hs j hj with h6 | h6
    · exact h.low j h6
    · omega
  · exact (h4.trans (hb.mono h4.size)).trans (ho.below h.low (Nat.le_trans h4.size hb.size))

theorem DLoop.skip {w : World} {hd : Head} {b : List UInt8} {M R pb cap IT : Nat} {wr wa : World} {k : Nat} {O : Nat → Prop} {ev iv : Value} (h : DLoop w hd b M R pb cap IT wr k O ev iv) (hb : Below (setIter wr IT (str orderL) (k + 1)).heap.size (setIter wr IT (str orderL) (k + 1)) wa)
    (e : readK hd b (k + 1) = readK hd b k) : ∃ O' ev' iv', DLoop w hd b M R pb cap IT wa (k + 1) O' ev' iv' := by
  have h1 := h.next.1.quiet hb
  rw [← e] at h1
  exact h.took hb ⟨O, ev, iv, h1, Sub.refl _ _, Off.refl _ _⟩

/-- At the loop's start. -/
theorem DLoop.start {w w5 : World} {hd : Head} {bd : List UInt8} {M : Nat} (hM : w5.heap[M]? = some (.cells (msgC (baseM hd) (.slice none 0 0) (.slice none 0 0)) 31 (0, 0))) (hR : w5.heap[w.heap.size]? = some (.cells (msgC (baseM zeroHead) (.slice none 0 0) (.slice none 0 0)) 31 (0, 0)))
    (hB : Below w.heap.size w w5) (hlt : w.heap.size < M) (hbl : bd.length ≤ 3968) :
    DLoop w hd bd M (Lib.bytesWorld w5 5 (str bd)).heap.size w5.heap.size (grownCap w5 bd.length 0 5) ((Lib.bytesWorld w5 5 (str bd)).alloc (.cells #[.slice (some ⟨w5.heap.size, 0, none⟩) bd.length (grownCap w5 bd.length 0 5), .int .i64 0, .bool false] 95)).heap.size
      (((Lib.bytesWorld w5 5 (str bd)).alloc (.cells #[.slice (some ⟨w5.heap.size, 0, none⟩) bd.length (grownCap w5 bd.length 0 5), .int .i64 0, .bool false] 95)).iter (str orderL) 0) 0 (fun k => k = M ∨ k = (Lib.bytesWorld w5 5 (str bd)).heap.size) (.slice none 0 0) (.slice none 0 0) := by
  have hMl : M < w5.heap.size := (Array.getElem?_eq_some_iff.1 hM).1
  have hb1 : Below w5.heap.size w5 (Lib.bytesWorld w5 5 (str bd)) := ⟨rfl, rfl, rfl, by rw [Lib.bytesWorld_size]; omega, fun k hk => Lib.bytesWorld_at_old w5 5 (str bd) k (by omega)⟩
  have hs1 : (Lib.bytesWorld w5 5 (str bd)).heap.size = w5.heap.size + 1 := Lib.bytesWorld_size w5 5 (str bd)
  have hh := bytes_holds (w := w5) 5 (str bd) (grownCap w5 bd.length 0 5) (Below.refl _ _)
  rw [str_data, str_size] at hh
  generalize Lib.bytesWorld w5 5 (str bd) = wb at *
  have hcg : bd.length ≤ grownCap w5 bd.length 0 5 := grownCap_ge w5 bd.length 0 5
  have hcx : grownCap w5 bd.length 0 5 ≤ maxLen := grownCap_le_maxLen w5 bd.length 0 5 (by simp only [maxLen]; omega)
  generalize grownCap w5 bd.length 0 5 = cap at *
  obtain ⟨w6, hw6⟩ : ∃ w6, w6 = wb.alloc (.cells #[.slice (some ⟨w5.heap.size, 0, none⟩) bd.length cap, .int .i64 0, .bool false] 95) := ⟨_, rfl⟩
  have hr6 : w6.heap[wb.heap.size]? = some (.cells #[.slice (some ⟨w5.heap.size, 0, none⟩) bd.length cap, .int .i64 0, .bool false] 95 (0, 0)) := by rw [hw6]; exact heap_alloc_new wb _
  have hb6 : Below wb.heap.size wb w6 := by rw [hw6]; exact (Below.refl _ _).alloc (Nat.le_refl _) _
  have hs6 : w6.heap.size = wb.heap.size + 1 := by rw [hw6]; simp
  rw [← hw6]
  clear hw6
  have hb7 : Below w6.heap.size w6 (w6.iter (str orderL) 0) := (Below.refl _ _).alloc (Nat.le_refl _) (.stringIter (str orderL) 0)
  have hb : Below w5.heap.size w5 (w6.iter (str orderL) 0) := (hb1.trans (hb6.mono (by omega))).trans (hb7.mono (by omega))
  have hbb : Below wb.heap.size wb (w6.iter (str orderL) 0) := hb6.trans (hb7.mono (by omega))
  have hws := hB.size
  have hr7 := (hb7.block wb.heap.size (by omega)).trans hr6
  refine ⟨⟨⟨hr7, HoldsBytes.later hh hbb, hcg, hcx, by omega, fun a e => ?_, fun a e => ?_⟩, (hb.block M hMl).trans hM, Own.nil _ _ _, Own.nil _ _ _, .inl rfl, .inr rfl, by omega, (fun k h => by cases h), (fun k h => by cases h), fun a e ho => ?_, fun k hk => ?_⟩, iter_at0 w6, fun h => ?_, by omega, (hb.block _ (Nat.lt_trans hlt hMl)).trans hR, fun h => ?_, fun k hk => ?_, by omega, by omega, hB.trans (hb.mono hws)⟩
  · obtain rfl := Option.some.inj e; show w5.heap.size ≠ _; omega
  · obtain rfl := Option.some.inj e; have := hb.size; have := hb7.size; show w5.heap.size < _; omega
  · obtain rfl := Option.some.inj e; rcases ho with h | h
    · have h : w5.heap.size = M := h; omega
    · have h : w5.heap.size = wb.heap.size := h; omega
  · have := hb7.size
    rcases hk with rfl | rfl <;> omega
  · rcases h with h | h <;> omega
  · rcases h with h | h <;> omega
  · rcases hk with rfl | rfl <;> omega

theorem flat_get {α : Type} (f : α → List Value) (n : Nat) (hf : ∀ x, (f x).length = n) : ∀ (l : List α) (i j : Nat) (x : α), l[i]? = some x → j < n → ((l.map f).flatten)[i * n + j]? = (f x)[j]?
  | [], i, j, x, h, _ => by simp at h
  | a :: l, 0, j, x, h, hj => by
    obtain rfl : a = x := by simpa using h
    rw [List.map_cons, List.flatten_cons, Nat.zero_mul, Nat.zero_add, List.getElem?_append_left (by rw [hf]; exact hj)]
  | a :: l, i + 1, j, x, h, hj => by
    rw [List.map_cons, List.flatten_cons, List.getElem?_append_right (by rw [hf, Nat.add_mul]; omega), hf, show (i + 1) * n + j - n = i * n + j by rw [Nat.add_mul]; omega]
    exact flat_get f n hf l i j x (by simpa using h) hj

theorem Own.row {α : Type} {B : Nat} {w : World} {size : Nat} {p : Option Addr} {cap : Nat} {l : List α} (f : α → Array Value) (d : α) (hf : ∀ x, (f x).size = size) (h : Own B w size (.slice p l.length cap) l.length ((l.map fun e => (f e).toList).flatten)) : RowAt w p l.length size (fun i => f (l.getD i d)) := by
  intro h0
  obtain ⟨h1, ⟨h2, h3⟩ | ⟨g, cap', e, h3, h4, h5, hg, hc, hfr⟩⟩ := h
  · omega
  · simp only [Value.slice.injEq, true_and] at e
    obtain ⟨rfl, rfl⟩ := e
    refine ⟨g, 0, rfl, fun i hi j v hv => ?_⟩
    have hx : l[i]? = some (l.getD i d) := by rw [List.getD_eq_getElem?_getD, List.getElem?_eq_getElem hi]; rfl
    have hj : j < size := by rw [← hf (l.getD i d)]; exact (Array.getElem?_eq_some_iff.1 hv).1
    rw [Nat.zero_add]
    refine hc _ _ ?_
    rw [flat_get (fun e => (f e).toList) size (fun x => by simpa using hf x) l i j _ hx hj]
    simpa using hv

theorem kinv_all (h : Head) (b : List UInt8) (hb : b.length ≤ 100000) : ∀ k, k ≤ 6 → KInv b.length k (readK h b k)
  | 0, _ => KInv.start h b
  | k + 1, hk => KInv.step hb (f := orderL[k]'(by simp [orderL]; omega)) (List.getElem?_eq_getElem _) (kinv_all h b hb k (by omega))

end Go.Proofs.YtmidfknlmjgjpaaDoor
