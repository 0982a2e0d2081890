/- The walk of num.Take. The walk of num.TakeText. -/
import Derived.Test.YtmidfknlmjgjpaaDoorGB
import Derived.Test.YtmidfknlmjgjpaaDoorGC
import Derived.Test.YtmidfknlmjgjpaaDoorKRow
import Derived.Laws.Bits64b
import Derived.Laws.CopyRow
import Derived.Deep.RegionLaw
namespace Go.Proofs.YtmidfknlmjgjpaaDoor
open Go.RowKit

namespace Pl
theorem getLE_append (a b : List UInt8) : getLE (a ++ b) = getLE a + 256 ^ a.length * getLE b := by
  induction a with
  | nil => simp [getLE]
  | cons c a ih =>
    simp only [List.cons_append, getLE, ih, List.length_cons, Nat.pow_succ]
    rw [Nat.mul_add, Nat.mul_comm (256 ^ a.length) 256, Nat.mul_assoc]
    omega
theorem getLE_zeros (n : Nat) : getLE (List.replicate n 0) = 0 := by
  induction n with
  | zero => rfl
  | succ n ih => simp [List.replicate_succ, getLE, ih]
theorem getLE_pad (a : List UInt8) (n : Nat) : getLE (a ++ List.replicate n 0) = getLE a := by
  rw [getLE_append, getLE_zeros]; simp
theorem getLE_next {l : List UInt8} {k : Nat} {c : UInt8} (h : l[k]? = some c) : getLE (l.take (k + 1)) = getLE (l.take k) ||| (c.toNat <<< (8 * k)) := by
  have hk : k < l.length := (List.getElem?_eq_some_iff.1 h).1
  have e : l.take (k + 1) = l.take k ++ [c] := by rw [List.take_add_one, h]; rfl
  have hl : (l.take k).length = k := by rw [List.length_take]; omega
  have hlt := getLE_lt (l.take k)
  rw [hl, show (256 : Nat) ^ k = 2 ^ (8 * k) by rw [Nat.pow_mul]] at hlt
  rw [e, getLE_append, hl, Nat.shiftLeft_eq]
  have h1 : getLE [c] = c.toNat := by simp [getLE]
  rw [h1, show (256 : Nat) ^ k = 2 ^ (8 * k) by rw [Nat.pow_mul]]
  have h2 := Nat.two_pow_add_eq_or_of_lt hlt c.toNat
  rw [Nat.or_comm, Nat.mul_comm c.toNat, ← h2, Nat.add_comm]
end Pl

/-- What num.Take answers. -/
def takeN (l : List UInt8) (at_ size : Nat) : Nat × Int := if at_ ≤ l.length ∧ size ≤ l.length - at_ then (Pl.getLE ((l.drop at_).take size), 0) else (0, 3)

theorem or_term (n c k : Nat) (hn : n < 18446744073709551616) (hc : c < 256) (hk : k < 8) : bits BinOp.or IntKind.u64 (n : Int) (((c <<< (8 * k) : Nat)) : Int) = ((n ||| c <<< (8 * k) : Nat) : Int) := by
  refine bits_or_u64_nat _ _ hn ?_
  rw [Nat.shiftLeft_eq]
  have h1 : 2 ^ (8 * k) ≤ 2 ^ 56 := Nat.pow_le_pow_right (by omega) (by omega)
  have h2 : c * 2 ^ (8 * k) ≤ 255 * 2 ^ 56 := Nat.mul_le_mul (by omega) h1
  omega

/-- copy into a row of its own. -/
theorem wpList_copy_row {P : Program} {ops : Array Oper} {rest : List Oper} {op : Oper} {a : Act} {w : World} {Q : Exit → Act → World → Prop} (hg : op.guard = none) (d s : Operand) (dT sT : TypeId)
    (hop : op.op = .call { callee := .builtin .copy, args := #[d, s], argTypes := #[dT, sT] }) (elem : TypeId) (hu : P.underlying dT = some (.slice elem)) (hz : (P.info? elem).map (·.size) = some 1)
    (g o dLen dCap : Nat) (hd : a.eval d = .slice (some ⟨g, o, none⟩) dLen dCap) (ad : Addr) (sLen sCap : Nat) (hs : a.eval s = .slice (some ad) sLen sCap) (cur : Array Value) (t : TypeId) (cs : List Value)
    (hgc : w.heap[g]? = some (.cells cur t (0, 0))) (hn : cs.length = Nat.min sLen dLen) (hsrc : ∀ j v, cs[j]? = some v → w.cell? (ad.add j) = some v) (hfit : o + cs.length ≤ cur.size) (h1 : ∀ v ∈ cs, v.oneCell' = true)
    (h : wpList P ops Q rest (a.put op.dst (goInt cs.length)) (w.setRow g (cur.toList.take o ++ cs ++ cur.toList.drop (o + cs.length)).toArray)) : wpList P ops Q (op :: rest) a w := by
  refine wpList_plain hg fun K hK => ?_
  have hK := hK _ _ h
  have hr := run_copy_row (P := P) w dT sT op.type elem g o dLen dCap ad sLen sCap cur t cs hu hz hgc hn hsrc hfit h1
  generalize w.setRow g (cur.toList.take o ++ cs ++ cur.toList.drop (o + cs.length)).toArray = w' at hr hK
  unfold Oper.wp
  simp [execOp, hop, resolve, invoke, builtin, hd, hs, hr, Result.andThen]
  exact hK

theorem setRow_alloc_drew (w : World) (old cells : Array Value) (T : Nat) : (w.alloc (.cells old T)).drew.setRow w.heap.size cells = (w.alloc (.cells cells T)).drew := by
  rw [← setRow_alloc w old cells T]; rfl

theorem wrap_i64_small {n : Int} (h0 : 0 ≤ n) (h1 : n < 9223372036854775808) : IntKind.i64.wrap n = n := by
  simp [IntKind.wrap, IntKind.bits, IntKind.signed]; omega

def zero8 : Array Value := #[.int .u8 0, .int .u8 0, .int .u8 0, .int .u8 0, .int .u8 0, .int .u8 0, .int .u8 0, .int .u8 0]
def pad8 (ch : List UInt8) : List UInt8 := ch ++ List.replicate (8 - ch.length) 0

theorem info_arr8 : (Tryd.prog.info? 135).map (·.size) = some 8 := by kernel_rfl

theorem copied (ch : List UInt8) (h : ch.length ≤ 8) : (zero8.toList.take 0 ++ bcells ch ++ zero8.toList.drop (0 + (bcells ch).length)).toArray = (bcells (pad8 ch)).toArray := by
  have hd : ∀ k, k ≤ 8 → zero8.toList.drop k = bcells (List.replicate (8 - k) 0) := by
    intro k hk
    match k, hk with
    | 0, _ => rfl
    | 1, _ => rfl
    | 2, _ => rfl
    | 3, _ => rfl
    | 4, _ => rfl
    | 5, _ => rfl
    | 6, _ => rfl
    | 7, _ => rfl
    | 8, _ => rfl
  rw [List.take_zero, List.nil_append, Nat.zero_add, bcells_length, hd _ h, pad8, bcells_append]

theorem or_term2 (n c k : Nat) (hn : n < 18446744073709551616) (hc : c < 256) (hk : k < 8) : bits BinOp.or IntKind.u64 (n : Int) (IntKind.u64.wrap ((c : Int) * 2 ^ (8 * k))) = ((n ||| c <<< (8 * k) : Nat) : Int) := by
  have h1 : 2 ^ (8 * k) ≤ 2 ^ 56 := Nat.pow_le_pow_right (by omega) (by omega)
  have h2 : c * 2 ^ (8 * k) ≤ 255 * 2 ^ 56 := Nat.mul_le_mul (by omega) h1
  have e : IntKind.u64.wrap ((c : Int) * 2 ^ (8 * k)) = ((c <<< (8 * k) : Nat) : Int) := by
    have e2 : (c : Int) * 2 ^ (8 * k) = ((c * 2 ^ (8 * k) : Nat) : Int) := by simp
    rw [IntKind.wrap_u64, e2, Nat.shiftLeft_eq]
    omega
  rw [e]
  exact or_term n c k hn hc hk
theorem getLE_pad_lt {ch : List UInt8} (h : (pad8 ch).length = 8) (k : Nat) : Pl.getLE ((pad8 ch).take k) < 18446744073709551616 := by
  have h1 := Pl.getLE_lt ((pad8 ch).take k)
  have h2 : ((pad8 ch).take k).length ≤ 8 := by rw [List.length_take]; omega
  have h3 : (256 : Nat) ^ ((pad8 ch).take k).length ≤ 256 ^ 8 := Nat.pow_le_pow_right (by omega) h2
  have h4 : (256 : Nat) ^ 8 = 18446744073709551616 := by decide
  omega
theorem u8_agg (w : World) : (isAgg 5).run Tryd.prog w = .ok false w := by kernel_rfl
theorem u8_one (w : World) : (sizeOf 5).run Tryd.prog w = .ok 1 w := by kernel_rfl
theorem take_all8 {ch : List UInt8} (h : (pad8 ch).length = 8) : Pl.getLE ((pad8 ch).take 8) = Pl.getLE ch := by
  rw [List.take_of_length_le (by omega), pad8, Pl.getLE_pad]

set_option maxRecDepth 100000 in
set_option maxHeartbeats 4000000 in
theorem take_any (p : Option Addr) (cap : Nat) (l : List UInt8) (at_ size : Nat) (hsz : size = 1 ∨ size = 2 ∨ size = 8) (w : World) (hv : Lib.HoldsBytes w (.slice p l.length cap) l) (hcap : l.length ≤ cap) (hcm : cap ≤ maxLen) (hl : l.length ≤ 1000000) (hat : at_ ≤ 1000000000) :
    Calls Tryd.prog 77 #[.slice p l.length cap, .int .i64 at_, .int .i64 size] w fun e w' => e = .returned (.tuple #[.int .u64 ((takeN l at_ size).1 : Nat), .int .i64 (takeN l at_ size).2]) ∧ Below w.heap.size w w' := by
  have h18 : 1 ≤ size ∧ size ≤ 8 := by omega
  have hcm : cap ≤ 9223372036854775807 := hcm
  obtain ⟨p', cap', e', hnil, hc⟩ := hv
  simp only [Value.slice.injEq, true_and] at e'
  obtain ⟨rfl, rfl⟩ := e'
  by_cases h1 : at_ ≤ l.length
  · by_cases h2 : size ≤ l.length - at_
    · have e : takeN l at_ size = (Pl.getLE ((l.drop at_).take size), 0) := by rw [takeN, if_pos ⟨h1, h2⟩]
      rw [e]
      have h0 : 0 < l.length := by omega
      obtain ⟨a, rfl⟩ : ∃ a, p = some a := by
        cases p with
        | none => have := hnil rfl; rw [this] at h0; simp at h0
        | some a => exact ⟨a, rfl⟩
      obtain ⟨b, o, spot⟩ := a
      have hspot : spot = none := by
        have := hc _ rfl 0 _ (List.getElem?_eq_getElem h0)
        simpa [Addr.add] using World.cell?_spot this
      subst hspot
      have hc2 : ∀ i x, l[i]? = some x → w.cell? ⟨b, o + i, none⟩ = some (.int .u8 (x.toNat : Int)) := fun i x hx => by
        have := hc _ rfl i x hx
        rwa [add_plain] at this
      obtain ⟨ch, hch⟩ : ∃ ch, ch = (l.drop at_).take size := ⟨_, rfl⟩
      have hcl : ch.length = size := by rw [hch, List.length_take, List.length_drop]; omega
      have hgz : (w.alloc (.cells zero8 135)).drew.heap[w.heap.size]? = some (.cells zero8 135 (0, 0)) := heap_alloc_new w _
      have hsrc : ∀ j v, (bcells ch)[j]? = some v → (w.alloc (.cells zero8 135)).drew.cell? ((⟨b, o + at_, none⟩ : Addr).add j) = some v := by
        intro j v hv
        rw [add_plain]
        have hj : j < ch.length := by have := (List.getElem?_eq_some_iff.1 hv).1; rwa [bcells_length] at this
        obtain ⟨x, h3⟩ : ∃ x, ch[j]? = some x := ⟨_, List.getElem?_eq_getElem hj⟩
        rw [bcells_get h3] at hv
        have hx : l[at_ + j]? = some x := by
          rw [hch, List.getElem?_take] at h3
          split at h3
          · rwa [List.getElem?_drop] at h3
          · cases h3
        have h4 := hc2 _ _ hx
        rw [← Option.some.inj hv, show o + at_ + j = o + (at_ + j) by omega, Below.cell ((Below.refl w.heap.size w).alloc (Nat.le_refl _) (.cells zero8 135)).drew (World.block_lt_of_cell? _ _ h4)]
        exact h4
      have hb1 : ∀ v ∈ bcells ch, v.oneCell' = true := bcells_one ch
      have hl8 : (bcells ch).length = size := by rw [bcells_length, hcl]
      have hcp := copied ch (by omega)
      have hlC := fun (op : Oper) (ops : Array Oper) (rest : List Oper) (a : Act) (Q : Exit → Act → World → Prop) (hg : op.guard = none) (d s : Operand) (hop : op.op = .call { callee := .builtin .copy, args := #[d, s], argTypes := #[51, 51] }) (hd : a.eval d = .slice (some ⟨w.heap.size, 0, none⟩) 8 8) (sCap : Nat) (hs : a.eval s = .slice (some ⟨b, o + at_, none⟩) size sCap)
          (h : wpList Tryd.prog ops Q rest (a.put op.dst (goInt (bcells ch).length)) (w.alloc (.cells (bcells (pad8 ch)).toArray 135)).drew) =>
        wpList_copy_row (P := Tryd.prog) (ops := ops) (rest := rest) (a := a) (Q := Q) hg d s 51 51 hop 5 Tryd.underlying51 (by kernel_rfl) w.heap.size 0 8 8 hd ⟨b, o + at_, none⟩ size sCap hs zero8 135 (bcells ch) hgz (by rw [hl8]; exact (Nat.min_eq_left h18.2).symm) hsrc (by rw [hl8]; exact (by show 0 + size ≤ 8; omega)) hb1 (by rw [hcp, setRow_alloc_drew]; exact h)
      have HLC := Lib.hid hlC
      have HGz := Lib.hid hgz
      have HSrc := Lib.hid hsrc
      have HB1 := Lib.hid hb1
      have HL8 := Lib.hid hl8
      have HCp := Lib.hid hcp
      have hpl : (pad8 ch).length = 8 := by rw [pad8, List.length_append, List.length_replicate, hcl]; omega
      have hinf : (Tryd.prog.info? 135).map (·.size) = some (bcells (pad8 ch)).toArray.size := by
        have : (bcells (pad8 ch)).toArray.size = 8 := by rw [List.size_toArray, bcells_length, hpl]
        rw [this]; exact info_arr8
      have HI := Lib.hid hinf
      have HPl := Lib.hid hpl
      have HCl := Lib.hid hcl
      have HCh := Lib.hid hch
      clear hc hnil e hgz hsrc hb1 hl8 hcp hcl hch hc2 hinf hpl hlC
      obtain ⟨E, hE⟩ : ∃ E, E = at_ + size := ⟨_, rfl⟩
      have q2 : E ≤ cap := by omega
      have q3 : at_ ≤ E := by omega
      have q5 : ¬ cap = at_ := by omega
      have q1 : IntKind.i64.wrap ((at_ : Int) + size) = (E : Int) := by
        rw [wrap_i64_small (by omega) (by omega), hE]; simp
      have q4 : E - at_ = size := by omega
      clear hE
      rcases hsz with rfl | rfl | rfl
      all_goals
        first | (replace q1 : IntKind.i64.wrap ((at_ : Int) + 1) = (E : Int) := q1) | (replace q1 : IntKind.i64.wrap ((at_ : Int) + 2) = (E : Int) := q1) | (replace q1 : IntKind.i64.wrap ((at_ : Int) + 8) = (E : Int) := q1)
        go_enter Tryd.func77, Tryd.ntmps77
        go_wp2
        go_still_tail 7, (by kernel_rfl)
        go_wp2_with (first | (refine wpList_load_row rfl 135 _ rfl w.heap.size rfl 135 (bcells (pad8 ch)).toArray (0, 0) _ (heap_alloc_new w _) Tryd.underlying135 rfl HI.out ?_) | (refine HLC.out ⟨some 41, _, _, _, _, _⟩ _ _ _ _ rfl _ _ rfl rfl _ rfl ?_))
        clear q1 q2 q3 q4 q5
        go_loopw [9, 43] (fun nv i wr => ∃ k : Nat, k ≤ 8 ∧ i = .int .i64 k ∧ nv = .int .u64 ((Pl.getLE ((pad8 ch).take k) : Nat) : Int) ∧ Below w.heap.size w wr) (fun _ i _ => 8 - (intOf i).toNat)
        case atStart => exact ⟨0, by omega, rfl, rfl, ((Below.refl _ _).alloc (Nat.le_refl _) _).drew⟩
        case round =>
          obtain ⟨k, hk, rfl, rfl, hb⟩ := hrel
          have HB := Lib.hid hb
          clear hb
          by_cases hlt : k < 8
          · obtain ⟨c, hcx⟩ : ∃ c, (pad8 ch)[k]? = some c := ⟨_, List.getElem?_eq_getElem (by rw [HPl.out]; exact hlt)⟩
            have hix := run_index_agg (P := Tryd.prog) wr 135 5 8 (bcells (pad8 ch)).toArray k (.int .u8 (c.toNat : Int)) Tryd.underlying135 (u8_agg wr) (u8_one wr) hlt (by rw [List.getElem?_toArray]; exact bcells_get hcx)
            have HNx := Lib.hid (Pl.getLE_next hcx)
            have hc256 : c.toNat < 256 := c.toNat_lt
            clear hcx
            go_wp2
            go_roundw
            case rel => exact ⟨k + 1, by omega, by go_num, by rw [HNx.out, or_term2 _ _ _ (getLE_pad_lt HPl.out k) hc256 hlt], HB.out⟩
            case measure => simp [intOf]; omega
          · obtain rfl : k = 8 := by omega
            go_wp2
            go_ret2
            exact ⟨by rw [take_all8 HPl.out, ← HCh.out]; rfl, HB.out⟩
    · have e : takeN l at_ size = (0, 3) := by rw [takeN, if_neg (fun h => h2 h.2)]
      rw [e]
      clear e hc hnil hsz
      go_enter Tryd.func77, Tryd.ntmps77
      go_wp2
      go_ret2
      exact ⟨rfl, Below.refl _ _⟩
  · have e : takeN l at_ size = (0, 3) := by rw [takeN, if_neg (fun h => h1 h.1)]
    rw [e]
    clear e hc hnil hsz
    go_enter Tryd.func77, Tryd.ntmps77
    go_wp2
    go_ret2
    exact ⟨rfl, Below.refl _ _⟩

/-- What num.TakeText answers. -/
def takeT (l : List UInt8) (at_ most : Nat) : List UInt8 × Nat × Int :=
  if (takeN l at_ 2).2 ≠ 0 then ([], 0, (takeN l at_ 2).2) else if most < (takeN l at_ 2).1 then ([], 0, 5) else if l.length - at_ - 2 < (takeN l at_ 2).1 then ([], 0, 3)
  else ((l.drop (at_ + 2)).take (takeN l at_ 2).1, at_ + 2 + (takeN l at_ 2).1, 0)

theorem HoldsBytes.at {w : World} {p : Option Addr} {cap : Nat} {l : List UInt8} (h : Lib.HoldsBytes w (.slice p l.length cap) l) (h0 : 0 < l.length) : ∃ b o, p = some ⟨b, o, none⟩ ∧ ∀ i x, l[i]? = some x → w.cell? ⟨b, o + i, none⟩ = some (.int .u8 (x.toNat : Int)) := by
  obtain ⟨p', cap', e', hnil, hc⟩ := h
  simp only [Value.slice.injEq, true_and] at e'
  obtain ⟨rfl, rfl⟩ := e'
  cases p with
  | none => have := hnil rfl; rw [this] at h0; simp at h0
  | some a =>
    obtain ⟨b, o, spot⟩ := a
    have hspot : spot = none := by
      have := hc _ rfl 0 _ (List.getElem?_eq_getElem h0)
      simpa [Addr.add] using World.cell?_spot this
    subst hspot
    refine ⟨b, o, rfl, fun i x hx => ?_⟩
    have := hc _ rfl i x hx
    rwa [add_plain] at this

theorem sub_holds {w wx : World} {b o : Nat} {l : List UInt8} (h : ∀ i x, l[i]? = some x → w.cell? ⟨b, o + i, none⟩ = some (.int .u8 (x.toNat : Int))) (hb : Below w.heap.size w wx) (k n c : Nat) :
    Lib.HoldsBytes wx (.slice (some ⟨b, o + k, none⟩) ((l.drop k).take n).length c) ((l.drop k).take n) := by
  refine ⟨_, c, rfl, (fun e => by cases e), fun a e i x hx => ?_⟩
  obtain rfl := Option.some.inj e
  rw [add_plain]
  have h1 : l[k + i]? = some x := by
    rw [List.getElem?_take] at hx
    split at hx
    · rwa [List.getElem?_drop] at hx
    · cases hx
  have h2 := h _ _ h1
  rw [show o + k + i = o + (k + i) by omega, hb.cell (World.block_lt_of_cell? _ _ h2)]
  exact h2

theorem takeN_ok {l : List UInt8} {at_ size : Nat} (h : (takeN l at_ size).2 = 0) : at_ ≤ l.length ∧ size ≤ l.length - at_ ∧ (takeN l at_ size).1 = Pl.getLE ((l.drop at_).take size) := by
  unfold takeN at h ⊢
  by_cases hc : at_ ≤ l.length ∧ size ≤ l.length - at_
  · rw [if_pos hc]; exact ⟨hc.1, hc.2, rfl⟩
  · rw [if_neg hc] at h; simp at h
theorem takeN_err (l : List UInt8) (at_ size : Nat) : (takeN l at_ size).2 = 0 ∨ (takeN l at_ size).2 = 3 := by
  unfold takeN; split <;> simp
theorem takeN2_lt (l : List UInt8) (at_ : Nat) : (takeN l at_ 2).1 < 65536 := by
  unfold takeN
  split
  · have h1 := Pl.getLE_lt ((l.drop at_).take 2)
    have h2 : ((l.drop at_).take 2).length ≤ 2 := by rw [List.length_take]; omega
    have h3 : (256 : Nat) ^ ((l.drop at_).take 2).length ≤ 256 ^ 2 := Nat.pow_le_pow_right (by omega) h2
    show Pl.getLE _ < _
    omega
  · show 0 < 65536; omega

set_option maxRecDepth 100000 in
set_option maxHeartbeats 4000000 in
theorem takeText_any (p : Option Addr) (cap : Nat) (l : List UInt8) (at_ most : Nat) (hmo : most ≤ 1000000) (w : World) (hv : Lib.HoldsBytes w (.slice p l.length cap) l) (hcap : l.length ≤ cap) (hcm : cap ≤ maxLen) (hl : l.length ≤ 1000000) (hat : at_ ≤ 1000000000) :
    Calls Tryd.prog 105 #[.slice p l.length cap, .int .i64 at_, .int .i64 most] w fun e w' => e = .returned (.tuple #[.string (str (takeT l at_ most).1), .int .i64 (takeT l at_ most).2.1, .int .i64 (takeT l at_ most).2.2]) ∧ Below w.heap.size w w' := by
  have HT := Lib.hid (fun wx hb => take_any p cap l at_ 2 (by omega) wx (HoldsBytes.later hv hb) hcap hcm hl hat)
  have HV := Lib.hid hv
  have hcm' : cap ≤ 9223372036854775807 := hcm
  have hn := takeN2_lt l at_
  have hok := fun h => takeN_ok (l := l) (at_ := at_) (size := 2) h
  have herr := takeN_err l at_ 2
  obtain ⟨n, hn1⟩ : ∃ n, (takeN l at_ 2).1 = n := ⟨_, rfl⟩
  obtain ⟨e, he1⟩ : ∃ e, (takeN l at_ 2).2 = e := ⟨_, rfl⟩
  have hdef : takeT l at_ most = if e ≠ 0 then ([], 0, e) else if most < n then ([], 0, 5) else if l.length - at_ - 2 < n then ([], 0, 3) else ((l.drop (at_ + 2)).take n, at_ + 2 + n, 0) := by
    unfold takeT; rw [hn1, he1]
  rw [hn1] at hn
  rw [he1] at hok herr
  have HN := Lib.hid hn1
  have HE := Lib.hid he1
  clear hn1 he1 hv hcm
  rw [hdef]
  clear hdef
  have arm : Hid (Calls Tryd.prog 77 #[.slice p l.length cap, .int .i64 at_, .int .i64 2] w fun x w' => x = .returned (.tuple #[.int .u64 (n : Int), .int .i64 e]) ∧ Below w.heap.size w w') := by
    have := HT.out w (Below.refl _ _)
    rw [HN.out, HE.out] at this
    exact this
  clear HT
  by_cases h1 : e = 0
  · subst h1
    obtain ⟨o1, o2, _⟩ := hok rfl
    clear hok herr
    rw [if_neg (by simp)]
    by_cases h2 : most < n
    · rw [if_pos h2]
      go_enter Tryd.func105, Tryd.ntmps105
      go_wp2_with (go_at_call 77; refine arm.out.mono ?_; rintro x w1 ⟨rfl, hb1⟩; have HB1 := Lib.hid hb1; clear hb1)
      go_ret3
      exact ⟨rfl, HB1.out⟩
    · rw [if_neg h2]
      by_cases h3 : l.length - at_ - 2 < n
      · rw [if_pos h3]
        go_enter Tryd.func105, Tryd.ntmps105
        go_wp2_with (go_at_call 77; refine arm.out.mono ?_; rintro x w1 ⟨rfl, hb1⟩; have HB1 := Lib.hid hb1; clear hb1)
        go_ret3
        exact ⟨rfl, HB1.out⟩
      · rw [if_neg h3]
        have h0 : 0 < l.length := by omega
        obtain ⟨b, o, rfl, hc2⟩ := HoldsBytes.at HV.out h0
        have HC2 := Lib.hid hc2
        clear hc2
        have hsub : ((l.drop (at_ + 2)).take n).length = n := by rw [List.length_take, List.length_drop]; omega
        have hkc : ∀ wx, Below w.heap.size w wx → (convert 51 9 (.slice (some ⟨b, o + (at_ + 2), none⟩) n (cap - (at_ + 2)))).run Tryd.prog wx = .ok (.string (str ((l.drop (at_ + 2)).take n))) wx := fun wx hb => by
          have h := conv_holds (P := Tryd.prog) 51 5 9 Tryd.underlying51 Tryd.underlying5 Tryd.underlying9 (sub_holds HC2.out hb (at_ + 2) n (cap - (at_ + 2)))
          rwa [hsub] at h
        have HKC := Lib.hid hkc
        by_cases hcp : cap = at_ + 2
        · have hn0 : n = 0 := by omega
          have hkd : ∀ wx, (convert 51 9 (.slice (some ⟨b, o, none⟩) 0 0)).run Tryd.prog wx = .ok (.string (str [])) wx := fun wx => conv_holds (P := Tryd.prog) (l := []) 51 5 9 Tryd.underlying51 Tryd.underlying5 Tryd.underlying9 ⟨_, 0, rfl, (fun h => by cases h), fun _ _ i x hx => by simp at hx⟩
          have hem : (l.drop (at_ + 2)).take n = [] := by rw [hn0]; rfl
          rw [hem]
          subst hn0
          subst hcp
          replace arm : Hid (Calls Tryd.prog 77 #[.slice (some ⟨b, o, none⟩) l.length (at_ + 2), .int .i64 at_, .int .i64 2] w fun x w' => x = .returned (.tuple #[.int .u64 0, .int .i64 0]) ∧ Below w.heap.size w w') := arm
          clear hem hsub hkc HKC HN HE HV HC2 h2 h3 hn
          go_enter Tryd.func105, Tryd.ntmps105
          go_wp2_with (go_at_call 77; refine arm.out.mono ?_; rintro x w1 ⟨rfl, hb1⟩; have HB1 := Lib.hid hb1; clear hb1)
          go_ret3
          exact ⟨rfl, HB1.out⟩
        · clear hsub hkc
          go_enter Tryd.func105, Tryd.ntmps105
          go_wp2_with (go_at_call 77; refine arm.out.mono ?_; rintro x w1 ⟨rfl, hb1⟩; have HB1 := Lib.hid hb1; have kc := HKC.out _ hb1; clear hb1)
          go_ret3
          exact ⟨rfl, HB1.out⟩
  · rw [if_pos h1]
    have e3 : e = 3 := by omega
    subst e3
    go_enter Tryd.func105, Tryd.ntmps105
    go_wp2_with (go_at_call 77; refine arm.out.mono ?_; rintro x w1 ⟨rfl, hb1⟩; have HB1 := Lib.hid hb1; clear hb1)
    go_ret3
    exact ⟨rfl, HB1.out⟩

end Go.Proofs.YtmidfknlmjgjpaaDoor
