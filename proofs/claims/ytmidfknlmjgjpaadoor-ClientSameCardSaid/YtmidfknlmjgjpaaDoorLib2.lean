/- More words on slices of bytes: a string of one; zeros appended. No program. -/
import Derived.Test.YtmidfknlmjgjpaaDoorLib
namespace Go.Proofs.YtmidfknlmjgjpaaDoor
open Go.RowKit

theorem strOfNums_numsL (l : List UInt8) : strOfNums (Lib.numsL l) = str l := by
  simp only [strOfNums, Lib.numsL, List.map_map]
  congr 1
  have : (fun n : Int => UInt8.ofNat n.toNat) ∘ (fun x : UInt8 => (x.toNat : Int)) = id := by
    funext x; simp
  rw [this, List.map_id]

/-- 'string(b)'. -/
theorem conv_holds {P : Program} {w : World} {v : Value} {l : List UInt8} (src e dst : TypeId) (hs : P.underlying src = some (.slice e)) (he : P.underlying e = some (.int .u8)) (hd : P.underlying dst = some .string) (h : Lib.HoldsBytes w v l) :
    (convert src dst v).run P w = .ok (.string (str l)) w := by
  obtain ⟨p, cap, rfl, h1, h2⟩ := h
  cases p with
  | none =>
    have : l = [] := h1 rfl
    subst this
    exact run_convert_bytes_nil w src e hs he 0 cap dst hd
  | some a =>
    have hl : (loadCells a l.length).run P w = .ok ((Lib.numsL l).map (Value.int .u8)).toArray w := by
      have := run_loadCells_list (P := P) w a ((Lib.numsL l).map (Value.int .u8)) (fun j v hj => by
        simp only [Lib.numsL, List.map_map, List.getElem?_map, Option.map_eq_some_iff] at hj
        obtain ⟨x, hx, rfl⟩ := hj
        exact h2 a rfl j x hx)
      simpa [Lib.numsL] using this
    rw [run_convert_bytes_string w src dst e _ _ cap hs he hd, run_bytesToString w _ _ cap _ hl, foldl_push_bytes, ← strOfNums_numsL]
    simp [strOfNums, ByteArray.empty, ByteArray.emptyWithCapacity]
    rfl

theorem zeroCells_u8 (n : Nat) : Builtin.zeroCells (Value.int .u8 0).cells n = (bcells (List.replicate n 0)).toArray := by
  apply Array.ext'
  simp only [Builtin.zeroCells, bcells, Value.cells, Array.size, List.map_replicate]
  simp [List.eq_replicate_iff]
  intro a _
  have : a % 1 = 0 := by omega
  rw [this]; rfl

/-- APPENDING ZEROS: 'append(b, make([]byte, m)...)'. -/
theorem run_append_zeros {P : Program} (w : World) (B : Nat) (t u ty e : TypeId) (i : TypeInfo) (ku k : IntKind) (ht : P.underlying t = some (.slice e)) (hu : P.underlying u = some (.int ku)) (hi : P.info? e = some i) (hz : i.zero = some (.int .u8 0))
    (hsize : i.size = 1) (hby : i.bytes = 1)
    (v : Value) (l : List UInt8) (hown : Bs B w v l) (m : Nat) (h63 : l.length + m ≤ 1000000000) (hB : B ≤ w.heap.size) :
    ∃ v' w', (Builtin.append_ #[t, u] ty #[v, .int k (m : Int)]).run P w = .ok v' w' ∧ Bs B w' v' (l ++ List.replicate m 0) ∧ w.grownBy w' v.ownBlock := by
  have hw : IntKind.i64.wrap (m : Int) = m := by rw [IntKind.wrap_i64]; omega
  have hneg : ¬ ((m : Int) < 0) := by omega
  have h48i : ¬ (281474976710656 < (m : Int)) := by omega
  have hnl : (bcells (List.replicate m 0)).length = m * 1 := by simp [bcells]
  have hal : (bcells l ++ bcells (List.replicate m 0)).length = (l.length + m) * 1 := by simp [bcells]
  have hll : (l ++ List.replicate m (0 : UInt8)).length = l.length + m := by simp
  have hmax : l.length + m ≤ maxLen := by simp only [maxLen]; omega
  have hown' : Own B w 1 v l.length (bcells l) := hown
  obtain ⟨h1, ⟨rfl, hl0⟩ | ⟨g, cap, rfl, h3, h4, h5, hg, hc, hf⟩⟩ := id hown'
  · have hx : l = [] := List.eq_nil_of_length_eq_zero hl0
    subst hx
    by_cases hm : m = 0
    · subst hm
      refine ⟨.slice none 0 0, w, ?_, Bs.nil B w, ⟨rfl, rfl, rfl, Nat.le_refl _, fun _ _ _ => rfl⟩⟩
      have hw0 : IntKind.i64.wrap 0 = 0 := rfl
      simp [Builtin.append_, run_underlying ht, run_underlying hu, sizeOf, typeInfo, hi, hsize, asInt, asIntOf, hw0, Result.andThen]
    · have hO := Own.of_grown (B := B) w e 1 (0 + m) 0 (Value.int .u8 0).cells ([] ++ bcells (List.replicate m 0)) hB (by simp [bcells]) rfl (by simpa using hmax) (Value.ownBlock (.slice none 0 0))
      refine ⟨_, _, ?_, by simpa [Bs] using hO.1, hO.2⟩
      have h48 : ¬ (281474976710656 < Builtin.nextslicecap m 0) := by
        have := growslice_fits (need := m) (old := 0) (bytes := 1) (by omega) (by omega); omega
      have h63' : ¬ (9223372036854775807 < (m : Int)) := by omega
      have hfo : (Builtin.firstCells 1 0 (.slice none 0 0)).run P w.drew = .ok #[] w.drew := rfl
      simp [Builtin.append_, run_underlying ht, run_underlying hu, sizeOf, typeInfo, zeroValue, hi, hz, hsize, hby, asInt, asIntOf, hw, hneg, h48i, hm, h63', h48, Question.forced, hfo, newRow, grownCap, Result.andThen, zeroCells_u8]
  · by_cases hroom : l.length + m ≤ cap
    · have hO := Own.of_room hown' hnl hroom
      refine ⟨_, _, ?_, by unfold Bs; rw [hll, bcells_append]; exact hO.1, hO.2⟩
      have hst := run_storeCells_cells (P := P) g (l.length * 1) (bcells (List.replicate m 0)) 0 w (fun j hj => (hf _ (by omega)).1) (fun j hj => (hf _ (by omega)).2) (bcells_one _)
      simp only [Nat.add_zero, Nat.mul_one] at hst
      by_cases hm : m = 0
      · subst hm
        have hw0 : IntKind.i64.wrap 0 = 0 := rfl
        simp [Builtin.append_, run_underlying ht, run_underlying hu, sizeOf, typeInfo, hi, hsize, asInt, asIntOf, hw0, h4, Addr.add_lit, Result.andThen, bcells, storeCells, World.setCells]
      · simp [Builtin.append_, run_underlying ht, run_underlying hu, sizeOf, typeInfo, zeroValue, hi, hz, hsize, hby, asInt, asIntOf, hw, hneg, h48i, hm, hroom, hst, Addr.add_lit, Result.andThen, zeroCells_u8]
    · have hO := Own.of_grown (B := B) w e 1 (l.length + m) cap (Value.int .u8 0).cells (bcells l ++ bcells (List.replicate m 0)) hB hal rfl hmax (Value.ownBlock (.slice (some ⟨g, 0, none⟩) l.length cap))
      refine ⟨_, _, ?_, by unfold Bs; rw [hll, bcells_append]; exact hO.1, hO.2⟩
      have hm : m ≠ 0 := by omega
      have h48 : ¬ (281474976710656 < Builtin.nextslicecap (l.length + m) cap) := by
        have := growslice_fits (need := l.length + m) (old := cap) (bytes := 1) (by omega) (by omega); omega
      have h63' : ¬ (9223372036854775807 < ((l.length : Int) + (m : Int))) := by omega
      have hfo := run_firstCells_some (P := P) w.drew 1 l.length ⟨g, 0, none⟩ l.length cap (bcells l) h1 (fun j x hx => by rw [add_plain, Nat.zero_add]; simpa using hc j x hx)
      simp [Builtin.append_, run_underlying ht, run_underlying hu, sizeOf, typeInfo, zeroValue, hi, hz, hsize, hby, asInt, asIntOf, hw, hneg, h48i, hm, hroom, h63', h48, Question.forced, hfo, newRow, grownCap, Result.andThen, zeroCells_u8]
      all_goals (congr 2; apply Array.ext'; simp [List.append_assoc])

theorem wpList_append_zeros {P : Program} {w : World} {ops : Array Oper} {rest : List Oper} {o : Oper} {a : Act} {Q : Exit → Act → World → Prop} (hgd : o.guard = none) (s x : Operand) (t u : TypeId)
    (ho : o.op = .call { callee := .builtin .append, args := #[s, x], argTypes := #[t, u] })
    (B e : Nat) (i : TypeInfo) (ku k : IntKind) (ht : P.underlying t = some (.slice e)) (hu : P.underlying u = some (.int ku)) (hi : P.info? e = some i) (hz : i.zero = some (.int .u8 0))
    (hsize : i.size = 1) (hby : i.bytes = 1)
    (v : Value) (l : List UInt8) (hs : a.eval s = v) (hown : Bs B w v l) (m : Int) (hx : a.eval x = .int k m) (h0 : 0 ≤ m) (h63 : l.length + m.toNat ≤ 1000000000) (hB : B ≤ w.heap.size)
    (h : ∀ v' w', Bs B w' v' (l ++ List.replicate m.toNat 0) → w.grownBy w' v.ownBlock → wpList P ops Q rest (a.put o.dst v') w') : wpList P ops Q (o :: rest) a w := by
  obtain ⟨m, rfl⟩ := Int.eq_ofNat_of_zero_le h0
  rw [Int.toNat_natCast] at h63 h
  obtain ⟨v', w', hr, h2, h3⟩ := run_append_zeros (P := P) w B t u o.type e i ku k ht hu hi hz hsize hby v l hown m h63 hB
  exact Lib.wpList_append_run w hgd s x t u ho v _ hs hx v' w' hr (h v' w' h2 h3)

/-- Bytes at an address are what may be appended. -/
theorem src_bytes {P : Program} {w : World} {u e : TypeId} {v : Value} {l : List UInt8} (hu : P.underlying u = some (.slice e)) (h : Lib.HoldsBytes w v l) (hnil : ∀ c, v ≠ .slice none 0 (c + 1)) : Src P w u 1 v l.length (bcells l) := by
  obtain ⟨p, cap, rfl, h1, h2⟩ := h
  refine ⟨by simp [bcells], bcells_one l, .inl ⟨⟨e, hu⟩, ?_⟩⟩
  cases p with
  | none =>
    have : l = [] := h1 rfl
    subst this
    cases cap with
    | zero => exact .inl ⟨rfl, rfl⟩
    | succ c => exact absurd rfl (hnil c)
  | some a =>
    refine .inr ⟨a, cap, rfl, fun j v hv => ?_⟩
    simp only [bcells, List.getElem?_map, Option.map_eq_some_iff] at hv
    obtain ⟨x, hx, rfl⟩ := hv
    exact h2 a rfl j x hx

theorem Bs.append {B : Nat} {w : World} {v : Value} {l m : List UInt8} (h : Own B w 1 v (l.length + m.length) (bcells l ++ bcells m)) : Bs B w v (l ++ m) := by
  unfold Bs
  rw [List.length_append, bcells_append]
  exact h

theorem wpList_append_Bs {P : Program} {w : World} {ops : Array Oper} {rest : List Oper} {o : Oper} {a : Act} {Q : Exit → Act → World → Prop} (hgd : o.guard = none) (s x : Operand) (t : TypeId)
    (ho : o.op = .call { callee := .builtin .append, args := #[s, x], argTypes := #[t, t] })
    (B e : Nat) (i : TypeInfo) (ht : P.underlying t = some (.slice e)) (hi : P.info? e = some i) (hz : i.zero = some (.int .u8 0)) (hsize : i.size = 1) (hby : i.bytes = 1)
    (v : Value) (l : List UInt8) (hs : a.eval s = v) (hown : Bs B w v l) (xv : Value) (m : List UInt8) (hx : a.eval x = xv) (hsrc : Lib.HoldsBytes w xv m) (hnil : ∀ c, xv ≠ .slice none 0 (c + 1))
    (hlen : l.length + m.length ≤ 1000000000) (hB : B ≤ w.heap.size)
    (h : ∀ v' w', Bs B w' v' (l ++ m) → w.grownBy w' v.ownBlock → wpList P ops Q rest (a.put o.dst v') w') : wpList P ops Q (o :: rest) a w :=
  wpList_append_Own w hgd s x t t ho B e i (.int .u8 0) 1 1 ht hi hz hsize hby rfl v l.length (bcells l) hs hown xv m.length (bcells m) hx (src_bytes ht hsrc hnil)
    (by simp only [maxLen]; omega) (by omega) hB fun v' w' h1 h2 => h v' w' (Bs.append h1) h2

theorem wpList_append_Bs_str {P : Program} {w : World} {ops : Array Oper} {rest : List Oper} {o : Oper} {a : Act} {Q : Exit → Act → World → Prop} (hgd : o.guard = none) (s x : Operand) (t u : TypeId)
    (ho : o.op = .call { callee := .builtin .append, args := #[s, x], argTypes := #[t, u] })
    (B e : Nat) (i : TypeInfo) (ht : P.underlying t = some (.slice e)) (hu : P.underlying u = some .string) (hi : P.info? e = some i) (hz : i.zero = some (.int .u8 0)) (hsize : i.size = 1) (hby : i.bytes = 1)
    (v : Value) (l : List UInt8) (hs : a.eval s = v) (hown : Bs B w v l) (m : ByteArray) (hx : a.eval x = .string m)
    (hlen : l.length + m.size ≤ 1000000000) (hB : B ≤ w.heap.size)
    (h : ∀ v' w', Bs B w' v' (l ++ m.data.toList) → w.grownBy w' v.ownBlock → wpList P ops Q rest (a.put o.dst v') w') : wpList P ops Q (o :: rest) a w := by
  have hm : m.data.toList.length = m.size := by simp
  refine wpList_append_Own w hgd s x t u ho B e i (.int .u8 0) 1 1 ht hi hz hsize hby rfl v l.length (bcells l) hs hown (.string m) m.size (bcells m.data.toList) hx
    ⟨by simp [bcells], bcells_one _, .inr ⟨hu, rfl, m, rfl, rfl, rfl⟩⟩
    (by simp only [maxLen]; omega) (by omega) hB fun v' w' h1 h2 => h v' w' (Bs.append ?_) h2
  rw [hm]; exact h1

theorem Bs.below {B : Nat} {w w' : World} {v : Value} {l : List UInt8} (h : Bs B w v l) (hg : w.grownBy w' v.ownBlock) (hB : B ≤ w.heap.size) : Below B w w' := Own.below h hg hB

/-- A block of bytes just laid. -/
theorem new_holds (w : World) (l : List UInt8) (T : Nat) (c : Nat) : Lib.HoldsBytes (w.alloc (.cells (bcells l).toArray T)) (.slice (some ⟨w.heap.size, 0, none⟩) l.length c) l := by
  refine ⟨some ⟨w.heap.size, 0, none⟩, c, rfl, (fun e => nomatch e), fun a e i x hx => ?_⟩
  obtain rfl := Option.some.inj e
  rw [add_plain, Nat.zero_add]
  have := bcells_get hx
  simpa using this

theorem str_append (a b : List UInt8) : str a ++ str b = str (a ++ b) := by
  apply ByteArray.ext
  simp

theorem str_data (a : List UInt8) : (str a).data.toList = a := rfl
theorem str_size (a : List UInt8) : (str a).size = a.length := by simp [ByteArray.size]
theorem str_of (s : ByteArray) : str s.data.toList = s := rfl

end Go.Proofs.YtmidfknlmjgjpaaDoor
