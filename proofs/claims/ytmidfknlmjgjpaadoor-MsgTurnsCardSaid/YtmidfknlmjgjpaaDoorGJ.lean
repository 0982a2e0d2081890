/- The walk of msg.Encode. The walk of msg.Encode, joined. The walk of msg.Encode, joined. -/
import Derived.Test.YtmidfknlmjgjpaaDoorKPart3
namespace Go.Proofs.YtmidfknlmjgjpaaDoor
open Go.RowKit

def partB (m : Msg) (f : UInt8) : List UInt8 :=
  if f = 67 then flat8 [m.check.op, m.check.view, m.check.sum] else if f = 83 then flat8 [m.s0, m.s1, m.s2, m.s3, m.s4, m.s5] else if f = 69 then textB m.entry
  else if f = 76 then UInt8.ofNat m.entries.length :: textsB m.entries else if f = 73 then itemsB m.items else m.body.data.toList
def partsB (m : Msg) (l : List UInt8) : List UInt8 := ((l.filter fun f => (fieldsOf m.kind).contains f).map (partB m)).flatten
def orderL : List UInt8 := [67, 83, 69, 76, 73, 66]
def bodyB (m : Msg) : List UInt8 := partsB m orderL

theorem partsB_snoc {m : Msg} {k : Nat} {c : UInt8} (h : orderL[k]? = some c) : partsB m (orderL.take (k + 1)) = partsB m (orderL.take k) ++ (if (fieldsOf m.kind).contains c = true then partB m c else []) := by
  rw [partsB, List.take_add_one, h]
  simp only [Option.toList, List.filter_append, List.map_append, List.flatten_append, partsB]
  congr 1
  rw [List.filter_cons]
  cases e : (fieldsOf m.kind).contains c <;> simp

/-- What a right message's parts are. -/
structure Fine (m : Msg) : Prop where
  wf : m.wf
  right : rightM m = true
  sum : U64 m.check.sum
  sums : ∀ x ∈ [m.s0, m.s1, m.s2, m.s3, m.s4, m.s5], U64 x

theorem rightM_parts {m : Msg} (h : rightM m = true) : (1 ≤ m.kind ∧ m.kind ≤ 16) ∧ headOk m = true ∧ m.body.size ≤ mostOf m.kind ∧ (!(fieldsOf m.kind).contains 69 || m.entry.right) = true ∧ (fieldsOf m.kind).all (numFit m) = true ∧ emptyM (wipes m (fieldsOf m.kind)) = true ∧ listsM m = true := by
  simp only [rightM, Bool.and_eq_true, decide_eq_true_eq] at h
  obtain ⟨⟨⟨⟨⟨⟨h1, h2⟩, h3⟩, h4⟩, h5⟩, h6⟩, h7⟩ := h
  exact ⟨h1, h2, h3, h4, h5, h6, h7⟩

theorem mostOf_le (k : Int) : mostOf k ≤ 320 := by unfold mostOf; split <;> omega

theorem lists_parts {m : Msg} (h : listsM m = true) : (∀ e ∈ m.entries, e.right = true) ∧ (∀ t ∈ m.items, t.right = true) ∧ m.entries.length ≤ 8 ∧ (m.kind = 7 → m.items.length = 8) := by
  simp only [listsM, Bool.and_eq_true, Bool.or_eq_true, decide_eq_true_eq, List.all_eq_true] at h
  obtain ⟨⟨⟨h1, h2⟩, h3⟩, h4⟩ := h
  exact ⟨h1, h2, h3, fun e => by rcases h4 with h4 | h4; exact absurd e h4; exact h4⟩

theorem kind_I {k : Int} (h1 : 1 ≤ k) (h2 : k ≤ 16) (h : (fieldsOf k).contains 73 = true) : k = 7 := by
  rcases kind_cases h1 h2 with rfl | rfl | rfl | rfl | rfl | rfl | rfl | rfl | rfl | rfl | rfl | rfl | rfl | rfl | rfl | rfl
  all_goals first | rfl | (exact absurd h (by decide))

/-- One part. -/
theorem part_any (w0 w : World) (v : Value) (l : List UInt8) (m : Msg) (ea ia : Option Addr) (ec ic : Nat) (f : UInt8) (hf : f ∈ orderL) (hc : (fieldsOf m.kind).contains f = true) (hm : Fine m) (hb : Below w0.heap.size w0 w) (hv : Bs w0.heap.size w v l) (hl : l.length ≤ 800000)
    (hre : RowAt w0 ea m.entries.length 9 (entAt m.entries)) (hri : RowAt w0 ia m.items.length 15 (itemAt m.items)) :
    Calls Tryd.prog 33 #[v, .agg (msgC m (.slice ea m.entries.length ec) (.slice ia m.items.length ic)), .int .i32 f.toNat] w fun x w' => ∃ v', x = .returned v' ∧ Bs w0.heap.size w' v' (l ++ partB m f) ∧ Below w0.heap.size w w' := by
  obtain ⟨⟨k1, k2⟩, h2, h3, h4, h5, h6, h7⟩ := rightM_parts hm.right
  obtain ⟨_, _, _, f1, f2⟩ := headOk_true h2
  obtain ⟨l1, l2, l3, l4⟩ := lists_parts h7
  have hs := hb.size
  have hm3 := mostOf_le m.kind
  simp only [orderL, List.mem_cons, List.not_mem_nil, or_false] at hf
  rcases hf with rfl | rfl | rfl | rfl | rfl | rfl
  · exact part_C _ v l m _ _ w hv hs (by omega) f1 f2 hm.sum
  · exact part_S _ v l m _ _ w hv hs (by omega) hm.sums
  · rw [hc] at h4
    exact part_E _ v l m _ _ w hv hs (by omega) (by simpa using h4) hm.wf.1
  · exact part_L w0 w v l m ea ec _ hb hv hl l1 hm.wf.2.1 l3 hre
  · have := l4 (kind_I k1 k2 hc)
    exact part_I w0 w v l m ia ic _ hb hv hl l2 hm.wf.2.2.1 (by omega) hri
  · exact part_B _ v l m _ _ w hv hs (by omega) (by omega)

theorem partB_len {m : Msg} (h : rightM m = true) (f : UInt8) (hc : (fieldsOf m.kind).contains f = true) : (partB m f).length ≤ 3000 := by
  obtain ⟨⟨k1, k2⟩, h2, h3, h4, h5, h6, h7⟩ := rightM_parts h
  obtain ⟨l1, l2, l3, l4⟩ := lists_parts h7
  have hm3 := mostOf_le m.kind
  have e1 := textsB_len l1
  have e2 := itemsB_len l2
  unfold partB
  split
  · rw [flat8_len]; simp
  · split
    · rw [flat8_len]; simp
    · split
      · rename_i e; subst e
        rw [hc] at h4
        have := textB_len (e := m.entry) (by simpa using h4)
        omega
      · split
        · rw [List.length_cons]; omega
        · split
          · rename_i e; subst e
            have := l4 (kind_I k1 k2 hc)
            omega
          · have : m.body.data.toList.length = m.body.size := by simp
            omega

theorem partsB_len {m : Msg} (h : rightM m = true) (l : List UInt8) : (partsB m l).length ≤ 3000 * l.length := by
  induction l with
  | nil => simp [partsB]
  | cons c l ih =>
    have e : partsB m (c :: l) = (if (fieldsOf m.kind).contains c = true then partB m c else []) ++ partsB m l := by
      unfold partsB
      rw [List.filter_cons]
      cases hc : (fieldsOf m.kind).contains c <;> simp
    rw [e, List.length_append, List.length_cons]
    cases hc : (fieldsOf m.kind).contains c
    · simp; omega
    · have := partB_len h c hc
      simp; omega

/-- What the fields of a kind leave alone. -/
theorem wipes_index {m : Msg} (h1 : 1 ≤ m.kind) (h2 : m.kind ≤ 16) (h : (fieldsOf m.kind).contains 105 = false) : (wipes m (fieldsOf m.kind)).index = m.index := by
  obtain ⟨F, hF⟩ : ∃ F, F = fieldsOf m.kind := ⟨_, rfl⟩
  rw [← hF] at h ⊢
  rcases kind_cases h1 h2 with e | e | e | e | e | e | e | e | e | e | e | e | e | e | e | e
  all_goals rw [e] at hF; subst hF; first | rfl | (exact absurd h (by decide))
theorem wipes_size {m : Msg} (h1 : 1 ≤ m.kind) (h2 : m.kind ≤ 16) (h : (fieldsOf m.kind).contains 122 = false) : (wipes m (fieldsOf m.kind)).size = m.size := by
  obtain ⟨F, hF⟩ : ∃ F, F = fieldsOf m.kind := ⟨_, rfl⟩
  rw [← hF] at h ⊢
  rcases kind_cases h1 h2 with e | e | e | e | e | e | e | e | e | e | e | e | e | e | e | e
  all_goals rw [e] at hF; subst hF; first | rfl | (exact absurd h (by decide))

theorem empty_num {m : Msg} (h : emptyM m = true) {f : UInt8} (hf : f ∈ numL) : numGet m f = some 0 := by
  simp only [emptyM, Bool.and_eq_true, List.all_eq_true, beq_iff_eq] at h
  exact h.1.1.1.1.1.1 f hf

theorem fit_index {m : Msg} (h : rightM m = true) : fitB m.index = true := by
  obtain ⟨⟨k1, k2⟩, _, _, _, h5, h6, _⟩ := rightM_parts h
  cases hc : (fieldsOf m.kind).contains 105
  · have := empty_num h6 (f := 105) (by decide)
    have e : m.index = 0 := by
      rw [← wipes_index k1 k2 hc]
      exact Option.some.inj this
    rw [e]; rfl
  · rw [List.all_eq_true] at h5
    exact h5 105 (by simpa using hc)
theorem fit_size {m : Msg} (h : rightM m = true) : fitB m.size = true := by
  obtain ⟨⟨k1, k2⟩, _, _, _, h5, h6, _⟩ := rightM_parts h
  cases hc : (fieldsOf m.kind).contains 122
  · have := empty_num h6 (f := 122) (by decide)
    have e : m.size = 0 := by
      rw [← wipes_size k1 k2 hc]
      exact Option.some.inj this
    rw [e]; rfl
  · rw [List.all_eq_true] at h5
    exact h5 122 (by simpa using hc)

theorem setIter_both {N : Nat} {a b : World} {r : Nat} {s : ByteArray} {p : Nat} (h : Below N a b) (hr : r < N) (hs : r < a.heap.size) : Below N (setIter a r s p) (setIter b r s p) := by
  refine ⟨h.1, h.2, h.3, by rw [setIter_size, setIter_size]; exact h.4, fun k hk => ?_⟩
  by_cases e : k = r
  · subst e
    have hs2 : k < b.heap.size := Nat.lt_of_lt_of_le hs h.size
    rw [setIter_at (o := b.heap[k]'hs2) s p (Array.getElem?_eq_getElem hs2), setIter_at (o := a.heap[k]'hs) s p (Array.getElem?_eq_getElem hs)]
  · rw [setIter_other _ _ _ _ e, setIter_other _ _ _ _ e]
    exact h.5 k hk

set_option maxRecDepth 100000 in
set_option maxHeartbeats 2000000 in
theorem encode_no (m : Msg) (ea ia : Option Addr) (ec ic : Nat) (w : World) (ha : AllAt w) (hw : m.wf) (hre : RowAt w ea m.entries.length 9 (entAt m.entries)) (hri : RowAt w ia m.items.length 15 (itemAt m.items)) (hr : rightM m = false) :
    Calls Tryd.prog 12 #[.agg (msgC m (.slice ea m.entries.length ec) (.slice ia m.items.length ic))] w fun e w' => e = .returned (.tuple #[.string (str []), .int .i64 4]) ∧ Below w.heap.size w w' := by
  have HM0 : Hid (MBox m (.slice ea m.entries.length ec) (.slice ia m.items.length ic) w (w.alloc (.cells (msgC m (.slice ea m.entries.length ec) (.slice ia m.items.length ic)) 31))) := Below.refl _ _
  have b0 : Below w.heap.size w (w.alloc (.cells (msgC m (.slice ea m.entries.length ec) (.slice ia m.items.length ic)) 31)) := (Below.refl w.heap.size w).alloc (Nat.le_refl _) _
  have HA := Lib.hid (ha.later b0)
  have HW := Lib.hid hw
  have HRE := Lib.hid (hre.later b0)
  have HRI := Lib.hid (hri.later b0)
  have Hr := Lib.hid hr
  clear ha hw hre hri hr b0
  have hlM := fun (wx : World) (hbw : MBox m (.slice ea m.entries.length ec) (.slice ia m.items.length ic) w wx) (o : Oper) (ops : Array Oper) (rest : List Oper) (a : Act) (Q : Exit → Act → World → Prop) (hgd : Region.wanted o (yielded ops a.tmps) = true) (x : Operand) (ho : o.op = .load 31 x) (hx : a.eval x = .pointer (some ⟨w.heap.size, 0, none⟩)) h => wpList_load_rowG (P := Tryd.prog) (ops := ops) (rest := rest) (a := a) (w := wx) (Q := Q) hgd 31 x ho w.heap.size hx 31 _ (0, 0) _ ((Below.block hbw w.heap.size (by omega)).trans (heap_alloc_new w _)) Tryd.underlying31 rfl msg_info h
  have HLM := Lib.hid hlM
  clear hlM
  go_enter Tryd.func12, Tryd.ntmps12
  go_wp2_with (first | (refine HLM.out _ HM0.out ⟨some _, _, _, _, _, _⟩ _ _ _ _ rfl _ rfl rfl ?_) | (go_at_call 21; refine (right_any m _ _ _ _ _ HA.out HW.out HRE.out HRI.out).mono ?_; rintro x w1 ⟨rfl, hb1⟩; have HB1 := Lib.hid (HM0.out.later hb1); rw [Hr.out]; clear hb1))
  go_ret2
  exact ⟨rfl, HB1.out.below⟩

theorem Bs.setIter {B : Nat} {w : World} {v : Value} {l : List UInt8} (h : Bs B w v l) (r : Nat) (t : ByteArray) (p : Nat) (hr : r < B) : Bs B (setIter w r t p) v l := by
  refine Own.same h (by rw [setIter_size]; exact Nat.le_refl _) fun k hk hlt => setIter_other _ _ _ _ ?_
  obtain ⟨h1, ⟨rfl, h2⟩ | ⟨g, cap, rfl, h3, h4, h5, hg, hc, hf⟩⟩ := h
  · cases hk
  · have : g = k := by simpa [Value.ownBlock] using hk
    omega

/-- The world at the loop's start, its iterator at a place. -/
def EW (w1 : World) (k : Nat) : World := setIter (w1.iter (str orderL) 0) w1.heap.size (str orderL) k
theorem EW_size (w1 : World) (k : Nat) : (EW w1 k).heap.size = w1.heap.size + 1 := by rw [EW, setIter_size]; simp [World.iter]
theorem iter_at0 (w1 : World) : (w1.iter (str orderL) 0).heap[w1.heap.size]? = some (.stringIter (str orderL) 0) := World.iter_heap _ _ _
theorem EW_at (w1 : World) (k : Nat) : (EW w1 k).heap[w1.heap.size]? = some (.stringIter (str orderL) k) := setIter_at _ _ (iter_at0 w1)
theorem EW_below (w1 : World) (k : Nat) : Below w1.heap.size w1 (EW w1 k) := by
  refine Below.trans ((Below.refl _ _).alloc (Nat.le_refl _) (.stringIter (str orderL) 0)) (setIter_below _ _ _ _ (Nat.le_refl _))
theorem EW_start (w1 : World) : Below (w1.heap.size + 1) (EW w1 0) (w1.iter (str orderL) 0) := by
  refine ⟨rfl, rfl, rfl, by rw [EW_size]; simp [World.iter], fun k hk => ?_⟩
  by_cases e : k = w1.heap.size
  · subst e; rw [EW_at, iter_at0]
  · rw [EW, setIter_other _ _ _ _ e]
theorem EW_next {w1 wr : World} {k : Nat} (h : Below (w1.heap.size + 1) (EW w1 k) wr) (p : Nat) : Below (w1.heap.size + 1) (EW w1 p) (setIter wr w1.heap.size (str orderL) p) := by
  have h1 := setIter_both (r := w1.heap.size) (s := str orderL) (p := p) h (by omega) (by rw [EW_size]; omega)
  refine Below.trans ?_ h1
  refine ⟨rfl, rfl, rfl, by rw [EW_size, setIter_size, EW_size]; omega, fun j hj => ?_⟩
  by_cases e : j = w1.heap.size
  · subst e; rw [EW_at, setIter_at _ _ (EW_at w1 k)]
  · rw [setIter_other _ _ _ _ e, EW, EW, setIter_other _ _ _ _ e, setIter_other _ _ _ _ e]

/-- The state of the loop. -/
def ELoop (m : Msg) (w1 wr : World) (bv : Value) (k : Nat) : Prop :=
  Below (w1.heap.size + 1) (EW w1 k) wr ∧ Bs (w1.heap.size + 1) wr bv (partsB m (orderL.take k))

theorem ELoop.iter {m : Msg} {w1 wr : World} {bv : Value} {k : Nat} (h : ELoop m w1 wr bv k) : wr.heap[w1.heap.size]? = some (.stringIter (str orderL) k) := by
  rw [Below.block h.1 w1.heap.size (by omega)]; exact EW_at w1 k
theorem ELoop.below {m : Msg} {w1 wr : World} {bv : Value} {k : Nat} (h : ELoop m w1 wr bv k) : Below w1.heap.size w1 wr := (EW_below w1 k).trans (Below.mono h.1 (by omega))
theorem ELoop.start (m : Msg) (w1 : World) : ELoop m w1 (w1.iter (str orderL) 0) (.slice none 0 0) 0 := ⟨EW_start w1, Bs.nil _ _⟩

theorem yieldsIf_load_row {P : Program} {ops : Array Oper} {S : World → Prop} {op : Oper} {a : Act} (hw : Region.wanted op (yielded ops a.tmps) = true) (ty : TypeId) (x : Operand) (ho : op.op = .load ty x)
    (g : Nat) (hx : a.eval x = .pointer (some ⟨g, 0, none⟩)) (t : TypeId) (cs : Array Value) (fr : Nat × Nat) (d : TypeDesc) (hg : ∀ w, S w → w.heap[g]? = some (.cells cs t fr))
    (hu : P.underlying ty = some d) (hd : (match d with | .struct _ | .array _ _ => true | _ => false) = true) (hi : (P.info? ty).map (·.size) = some cs.size) : YieldsIf P ops S op (.agg cs) a :=
  .inl ⟨hw, fun w hw' => by
    unfold execOp
    simp only [ho, hx, Instr.loadAt, Instr.sureAddr, Sem.run_bind, Sem.run_pure, Result.andThen_ok, run_loadVar_row w g t ty cs fr d (hg w hw') hu hd hi]⟩

theorem yieldsIf_convert {P : Program} {ops : Array Oper} {S : World → Prop} {op : Oper} {a : Act} (hw : Region.wanted op (yielded ops a.tmps) = true) (src dst : TypeId) (x : Operand) (ho : op.op = .convert src dst x)
    (v r : Value) (hx : a.eval x = v) (hg : ∀ w, S w → (convert src dst v).run P w = .ok r w) : YieldsIf P ops S op r a :=
  .inl ⟨hw, fun w hw' => by
    unfold execOp
    simp only [ho, hx, Sem.run_bind, Sem.run_pure, Result.andThen_ok, hg w hw']⟩

theorem pack_as (h : Head) (s : ByteArray) (x : ByteArray) (n : Int) (hx : x = (h.packed s).1) (hn : n = (h.packed s).2) (w : World) (hs : s.size ≤ maxLen) (hp0 : 0 ≤ h.parent) (hp1 : h.parent < 18446744073709551616) :
    Calls Tryd.prog 34 #[.agg (headC h), .string s] w fun e w' => e = .returned (.tuple #[.string x, .int .i64 n]) ∧ Below w.heap.size w w' := by
  rw [hx, hn]; exact pack_any h s w hs hp0 hp1

set_option maxRecDepth 100000 in
set_option maxHeartbeats 2000000 in
theorem encode_yes (m : Msg) (ea ia : Option Addr) (ec ic : Nat) (w : World) (ha : AllAt w) (hf : Fine m) (hre : RowAt w ea m.entries.length 9 (entAt m.entries)) (hri : RowAt w ia m.items.length 15 (itemAt m.items)) :
    Calls Tryd.prog 12 #[.agg (msgC m (.slice ea m.entries.length ec) (.slice ia m.items.length ic))] w fun e w' => e = .returned (.tuple #[.string (m.head.packed (str (bodyB m))).1, .int .i64 (m.head.packed (str (bodyB m))).2]) ∧ Below w.heap.size w w' := by
  have HM0 : Hid (MBox m (.slice ea m.entries.length ec) (.slice ia m.items.length ic) w (w.alloc (.cells (msgC m (.slice ea m.entries.length ec) (.slice ia m.items.length ic)) 31))) := Below.refl _ _
  have b0 : Below w.heap.size w (w.alloc (.cells (msgC m (.slice ea m.entries.length ec) (.slice ia m.items.length ic)) 31)) := (Below.refl w.heap.size w).alloc (Nat.le_refl _) _
  have HA := Lib.hid (ha.later b0)
  have HF := Lib.hid hf
  have HRE := Lib.hid (hre.later b0)
  have HRI := Lib.hid (hri.later b0)
  obtain ⟨⟨k1, k2⟩, _⟩ := rightM_parts hf.right
  have Hr := Lib.hid hf.right
  clear ha hf hre hri b0
  have hlM := fun (wx : World) (hbw : MBox m (.slice ea m.entries.length ec) (.slice ia m.items.length ic) w wx) (o : Oper) (ops : Array Oper) (rest : List Oper) (a : Act) (Q : Exit → Act → World → Prop) (hgd : Region.wanted o (yielded ops a.tmps) = true) (x : Operand) (ho : o.op = .load 31 x) (hx : a.eval x = .pointer (some ⟨w.heap.size, 0, none⟩)) h => wpList_load_rowG (P := Tryd.prog) (ops := ops) (rest := rest) (a := a) (w := wx) (Q := Q) hgd 31 x ho w.heap.size hx 31 _ (0, 0) _ ((Below.block hbw w.heap.size (by omega)).trans (heap_alloc_new w _)) Tryd.underlying31 rfl msg_info h
  have HLM := Lib.hid hlM
  clear hlM
  go_enter Tryd.func12, Tryd.ntmps12
  go_wp2_with (first | (refine HLM.out _ HM0.out ⟨some _, _, _, _, _, _⟩ _ _ _ _ rfl _ rfl rfl ?_) | (go_at_call 21; refine (right_any m _ _ _ _ _ HA.out HF.out.wf HRE.out HRI.out).mono ?_; rintro x w1 ⟨rfl, hb1⟩; have HB1 := Lib.hid (HM0.out.later hb1); have HA1 := Lib.hid (HA.out.later hb1); rw [Hr.out]; have g0 : w1.cell? ⟨w.heap.size, 0, none⟩ = some (.int .i64 m.kind) := HB1.out.cell rfl; have HRE1 := Lib.hid (HRE.out.later hb1); have HRI1 := Lib.hid (HRI.out.later hb1); clear hb1) | (go_at_call 31; refine (fields_yes _ k1 k2 _ HA1.out).mono ?_; rintro x w2 ⟨rfl, rfl⟩))
  clear g0
  go_loopw [6] (fun bv wr => ∃ k : Nat, k ≤ 6 ∧ ELoop m w2 wr bv k) (fun _ wr => 6 - wr.iterPos w2.heap.size)
  case atStart => exact ⟨0, by omega, ELoop.start m w2⟩
  case round =>
    obtain ⟨k, hk, hL⟩ := hrel
    have HL := Lib.hid hL
    have HI : Hid (wr.heap[w2.heap.size]? = some (.stringIter (str orderL) k)) := hL.iter
    clear hL
    have hsz : w2.heap.size + 1 ≤ wr.heap.size := by have := HL.out.1.size; rw [EW_size] at this; exact this
    by_cases hlt : k < 6
    · obtain ⟨c, hc⟩ : ∃ c, orderL[k]? = some c := ⟨orderL[k]'(by simpa [orderL] using hlt), List.getElem?_eq_getElem _⟩
      have hcm : c ∈ orderL := List.mem_of_getElem? hc
      have hc128 : c.toNat < 128 := by
        have : ∀ c ∈ orderL, c.toNat < 128 := by decide
        exact this c hcm
      have hn := fun ty => run_next_at (P := Tryd.prog) ty HI.out hc hc128
      have HB2 : Hid (Below (EW w2 (k + 1)).heap.size (EW w2 (k + 1)) (setIter wr w2.heap.size (str orderL) (k + 1))) := by
        show Below _ _ _
        rw [EW_size]; exact EW_next HL.out.1 (k + 1)
      have hV2 := HL.out.2.setIter w2.heap.size (str orderL) (k + 1) (by omega)
      rw [← EW_size w2 (k + 1)] at hV2
      have HV2 := Lib.hid hV2
      have HN := Lib.hid (setIter_at (str orderL) (k + 1) HI.out)
      have HPS := Lib.hid (partsB_snoc (m := m) hc)
      have HM3 : Hid (MBox m (.slice ea m.entries.length ec) (.slice ia m.items.length ic) w (setIter wr w2.heap.size (str orderL) (k + 1))) := HB1.out.later (HL.out.below.trans (setIter_below _ _ _ _ (Nat.le_refl _)))
      have Hcm := Lib.hid hcm
      have hlen : (partsB m (orderL.take k)).length ≤ 800000 := by
        have h1 := partsB_len Hr.out (orderL.take k)
        have h2 : (orderL.take k).length ≤ 6 := by rw [List.length_take]; omega
        omega
      have HLen := Lib.hid hlen
      have hss : ∀ c ∈ fieldsOf m.kind, c.toNat < 128 := fun c h => fieldL_small (fieldsOf_mem h)
      have Hss := Lib.hid hss
      clear hV2 hc hcm hc128 hlen hss
      cases hh : (fieldsOf m.kind).contains c
      · have HH := Lib.hid hh
        clear hh
        go_wp2_with (go_at_call 32; refine (hasRune_any _ _ Hss.out _).mono ?_; rintro x w3 ⟨rfl, hb3⟩; have HB3 := Lib.hid hb3; rw [HH.out]; clear hb3)
        have hsz3 := HB3.out.size
        rw [setIter_size] at hsz3
        have hE : ELoop m w2 w3 u6 (k + 1) := by
          refine ⟨(EW_next HL.out.1 (k + 1)).trans (HB3.out.mono (by rw [setIter_size]; exact hsz)), ?_⟩
          have := HV2.out.later HB3.out
          rw [EW_size] at this
          exact bs_eq (by rw [HPS.out, HH.out]; simp) this
        have HE := Lib.hid hE
        clear hE
        go_roundw
        case rel => exact ⟨k + 1, by omega, HE.out⟩
        case measure => simp only [World.iterPos, HE.out.iter, HI.out]; omega
      · have HH := Lib.hid hh
        clear hh
        go_wp2_with (first | (go_at_call 32; refine (hasRune_any _ _ Hss.out _).mono ?_; rintro x w3 ⟨rfl, hb3⟩; have HB3 := Lib.hid hb3; rw [HH.out]; have HM4 := Lib.hid (HM3.out.later hb3); have HV3 := Lib.hid (HV2.out.later hb3); clear hb3) | (refine HLM.out _ HM4.out ⟨some _, _, _, _, _, _⟩ _ _ _ _ rfl _ rfl rfl ?_) | (go_at_call 33; refine (part_any (EW w2 (k + 1)) _ _ _ m _ _ _ _ c Hcm.out HH.out HF.out (HB2.out.trans (HB3.out.mono (by rw [EW_size, setIter_size]; exact hsz))) HV3.out HLen.out (HRE1.out.later (EW_below w2 (k + 1))) (HRI1.out.later (EW_below w2 (k + 1)))).mono ?_; rintro x w4 ⟨v4, rfl, hv4, hb4⟩; have HV4 := Lib.hid hv4; have HB4 := Lib.hid hb4; clear hv4 hb4))
        have hE : ELoop m w2 w4 v4 (k + 1) := by
          have h1 := HB4.out
          have h2 := HV4.out
          rw [EW_size] at h1 h2
          exact ⟨((EW_next HL.out.1 (k + 1)).trans (HB3.out.mono (by rw [setIter_size]; exact hsz))).trans h1, bs_eq (by rw [HPS.out, HH.out]; simp) h2⟩
        have HE := Lib.hid hE
        clear hE
        go_roundw
        case rel => exact ⟨k + 1, by omega, HE.out⟩
        case measure => simp only [World.iterPos, HE.out.iter, HI.out]; omega
    · obtain rfl : k = 6 := by omega
      have hn := fun ty => run_next_done (P := Tryd.prog) ty HI.out (show orderL.length ≤ 6 by decide)
      have HM3 := Lib.hid (HB1.out.later HL.out.below)
      have HHo := Lib.hid HL.out.2.holds
      have kc : ∀ wx : World, Lib.HoldsBytes wx u6 (partsB m (orderL.take 6)) → (convert 51 9 u6).run Tryd.prog wx = .ok (.string (str (partsB m (orderL.take 6)))) wx := fun wx hx =>
        conv_holds (P := Tryd.prog) 51 5 9 Tryd.underlying51 Tryd.underlying5 Tryd.underlying9 hx
      go_wp2_with fail
      have fi := fit_index Hr.out
      have fz := fit_size Hr.out
      have hbl : (str (partsB m (orderL.take 6))).size ≤ maxLen := by
        have := partsB_len Hr.out (orderL.take 6)
        have h2 : (orderL.take 6).length ≤ 6 := by rw [List.length_take]; omega
        rw [str_size]; simp only [maxLen]; omega
      have hp0 : 0 ≤ m.head.parent := Int.le_refl 0
      have hp1 : m.head.parent < 18446744073709551616 := by show (0:Int) < _; omega
      obtain ⟨px, hpx⟩ : ∃ x, x = (m.head.packed (str (partsB m (orderL.take 6)))).1 := ⟨_, rfl⟩
      obtain ⟨pn, hpn⟩ : ∃ x, x = (m.head.packed (str (partsB m (orderL.take 6)))).2 := ⟨_, rfl⟩
      have HPx := Lib.hid hpx
      have HPn := Lib.hid hpn
      obtain ⟨hh, hhe⟩ : ∃ hh, hh = m.head := ⟨_, rfl⟩
      rw [← hhe] at hp0 hp1
      have HHh := Lib.hid hhe
      have HFi := Lib.hid fi
      have HFz := Lib.hid fz
      clear hhe fi fz
      have HP0 := Lib.hid hp0
      have HP1 := Lib.hid hp1
      have HBl := Lib.hid hbl
      clear hpx hpn hp0 hp1 hbl
      have hS : ∀ wx : World, Below wr.heap.size wr wx → wx.heap[w.heap.size]? = some (.cells (msgC m (.slice ea m.entries.length ec) (.slice ia m.items.length ic)) 31 (0, 0)) ∧ Lib.HoldsBytes wx u6 (partsB m (orderL.take 6)) := fun wx hb =>
        ⟨(Below.block (HM3.out.later hb) w.heap.size (by omega)).trans (heap_alloc_new w _), (HL.out.2.later hb).holds⟩
      have HS := Lib.hid hS
      have hS1 := hS wr.drew (below_drewN (Below.refl _ _) 1)
      clear hS
      refine wp_region_held_drew (S := fun wx => wx.heap[w.heap.size]? = some (.cells (msgC m (.slice ea m.entries.length ec) (.slice ia m.items.length ic)) 31 (0, 0)) ∧ Lib.HoldsBytes wx u6 (partsB m (orderL.take 6))) (by kernel_rfl) hS1 ?_
      intro hSd
      refine wpAnyH_take (i := 0) rfl (by kernel_rfl) (by kernel_rfl) (by kernel_rfl) (fun _ _ _ h => h) (yieldsIf_load_row (by rfl) 31 _ rfl w.heap.size rfl 31 _ (0, 0) _ (fun _ h => h.1) Tryd.underlying31 rfl msg_info) hSd ?_
      · refine wpAnyH_take (i := 2) rfl (by kernel_rfl) (by kernel_rfl) (by kernel_rfl) (fun _ _ _ h => h) (v := u6) (Or.inl ⟨by rfl, fun wx hx => by rfl⟩) hSd ?_
        refine wpAnyH_take (i := 3) rfl (by kernel_rfl) (by kernel_rfl) (by kernel_rfl) (fun _ _ _ h => h) (yieldsIf_convert (by rfl) 51 9 _ rfl u6 _ rfl (fun _ h => kc _ h.2)) hSd ?_
        · refine wpAnyH_ready (rs := [1]) (by kernel_rfl) (by simp) (AllReadyH.cons rfl ?_ AllReadyH.nil)
          intro K' hK'
          go_wp2_with (go_at_call 35; refine (msgHeader_any m _ _ _ HFi.out HFz.out).mono ?_; rintro x w5 ⟨rfl, hb5⟩; rw [← HHh.out])
          have hbd := below_drewN (Below.refl wr.heap.size wr) 1
          refine hK'.out _ _ (HS.out w5 (hbd.trans (hb5.mono hbd.size))) (fun hSd2 => ?_)
          have HSd2 := Lib.hid hSd2
          have HHbd := Lib.hid hbd
          have HHb5 := Lib.hid hb5
          clear hSd hS1 hSd2 hbd hb5
          refine wpAnyH_ready (rs := [4]) (by kernel_rfl) (by simp) (AllReadyH.cons rfl ?_ AllReadyH.nil)
          intro K2 hK2
          refine Eq.mpr (if_pos (by rfl)) ?_
          go_wp2_with fail
          refine (pack_as hh _ px pn (by rw [HHh.out]; exact HPx.out) (by rw [HHh.out]; exact HPn.out) _ HBl.out HP0.out HP1.out).mono ?_
          rintro x w6 ⟨rfl, hb6⟩
          have hbz : Below wr.heap.size wr w6 := (HHbd.out.trans (HHb5.out.mono HHbd.out.size)).trans (hb6.mono (Nat.le_trans HHbd.out.size HHb5.out.size))
          refine hK2.out _ _ (HS.out w6 hbz) (fun hSd3 => ?_)
          refine wpAnyH_take (i := 5) rfl (by kernel_rfl) (by kernel_rfl) (by kernel_rfl) (fun _ _ _ h => h) (v := .string px) (Or.inl ⟨by rfl, fun wx hx => by rfl⟩) hSd3 ?_
          refine wpAnyH_take (i := 6) rfl (by kernel_rfl) (by kernel_rfl) (by kernel_rfl) (fun _ _ _ h => h) (v := .int .i64 pn) (Or.inl ⟨by rfl, fun wx hx => by rfl⟩) hSd3 ?_
          refine wpAnyH_take (i := 7) rfl (by kernel_rfl) (by kernel_rfl) (by kernel_rfl) (fun _ _ _ h => h) (v := .string px) (Or.inl ⟨by rfl, fun wx hx => by rfl⟩) hSd3 ?_
          refine wpAnyH_take (i := 8) rfl (by kernel_rfl) (by kernel_rfl) (by kernel_rfl) (fun _ _ _ h => h) (v := .int .i64 pn) (Or.inl ⟨by rfl, fun wx hx => by rfl⟩) hSd3 ?_
          refine wpAnyH_done (by kernel_rfl) ?_ _
          go_wp2
          go_ret2
          exact ⟨by rw [HPx.out, HPn.out]; rfl, HM3.out.below.trans (hbz.mono (by have := HM3.out.size; omega))⟩

end Go.Proofs.YtmidfknlmjgjpaaDoor
