/- A turned byte is found without fail. Plain. The walk of MsgTurns. -/
import Derived.Test.YtmidfknlmjgjpaaDoorGR
import Derived.Test.YtmidfknlmjgjpaaDoorGM
import Derived.Test.YtmidfknlmjgjpaaDoorKLong
namespace Go.Proofs.YtmidfknlmjgjpaaDoor
open Go.RowKit

theorem append_three {a b c a' b' c' : List UInt8} (h : a ++ b ++ c = a' ++ b' ++ c') (h1 : a.length = a'.length) (h2 : b.length = b'.length) : a = a' ∧ b = b' ∧ c = c' := by
  rw [List.append_assoc, List.append_assoc] at h
  obtain ⟨e1, e2⟩ := List.append_inj h h1
  obtain ⟨e3, e4⟩ := List.append_inj e2 h2
  exact ⟨e1, e3, e4⟩

theorem mid_length2 (h : Head) (b : List UInt8) : (h.mid b).length = 124 := by
  simp only [Head.mid, Head.front, Head.numB, Head.nums, List.map_cons, List.map_nil, List.flatten_cons, List.flatten_nil, List.length_append, Pl.putLE_length, List.length_replicate, List.length_cons, List.length_nil]
theorem mid_crc (h : Head) (b : List UInt8) : (h.mid b).take 4 = Pl.putLE (Pl.crcSum b) 4 := by
  simp only [Head.mid, Head.front, List.append_assoc]
  exact take_left' (Pl.putLE_length _ _)

theorem set_split {l : List UInt8} {i : Nat} (h : i < l.length) (d : UInt8) : l = l.take i ++ l[i] :: l.drop (i + 1) ∧ l.set i d = l.take i ++ d :: l.drop (i + 1) := by
  refine ⟨?_, List.set_eq_take_append_cons_drop .. |>.trans (by rw [if_pos h])⟩
  rw [List.getElem_cons_drop, List.take_append_drop]

theorem crc_set {l : List UInt8} {i : Nat} (h : i < l.length) {d : UInt8} (hd : d ≠ l[i]) : Pl.crcSum (l.set i d) ≠ Pl.crcSum l := by
  intro e
  obtain ⟨h1, h2⟩ := set_split h d
  rw [h2] at e
  have e2 : Pl.crcSum (l.take i ++ d :: l.drop (i + 1)) = Pl.crcSum (l.take i ++ l[i] :: l.drop (i + 1)) := by rw [← h1]; exact e
  exact hd (Pl.crcSum_turned _ _ _ _ e2)

theorem put4_inj {a b : Nat} (ha : a < 4294967296) (hb : b < 4294967296) (h : Pl.putLE a 4 = Pl.putLE b 4) : a = b := by
  have h4 : (256 : Nat) ^ 4 = 4294967296 := by decide
  have := congrArg Pl.getLE h
  rwa [Pl.getLE_putLE _ _ (by omega), Pl.getLE_putLE _ _ (by omega)] at this

theorem set_append_three (a b c : List UInt8) (i : Nat) (d : UInt8) : (a ++ b ++ c).set i d = if i < a.length then a.set i d ++ b ++ c else if i < a.length + b.length then a ++ b.set (i - a.length) d ++ c else a ++ b ++ c.set (i - a.length - b.length) d := by
  rw [List.append_assoc, List.set_append]
  split
  · rw [← List.append_assoc]
  · rw [List.set_append]
    split
    · rw [if_pos (by omega), ← List.append_assoc]
    · rw [if_neg (by omega), ← List.append_assoc]

set_option maxRecDepth 10000 in
/-- Two messages' bytes are not alike but for one byte. -/
theorem pack_turned {h g : Head} {b c : List UInt8} {i : Nat} (hi : i < (h.pack b).length) {d : UInt8} (hd : d ≠ (h.pack b)[i]) (e : (h.pack b).set i d = g.pack c) : False := by
  have l1 := mid_length2 h b
  have l2 := mid_length2 g c
  have c1 := Pl.crcSum_lt (h.mid b)
  have c2 := Pl.crcSum_lt (g.mid c)
  have c3 := Pl.crcSum_lt b
  have c4 := Pl.crcSum_lt c
  have e' := e
  unfold Head.pack at e'
  rw [set_append_three, Pl.putLE_length, l1] at e'
  have hlen : (h.pack b).length = 4 + 124 + b.length := by
    unfold Head.pack
    rw [List.length_append, List.length_append, Pl.putLE_length, l1]
  have hb4 : (h.pack b).take 4 = Pl.putLE (Pl.crcSum (h.mid b)) 4 := by
    unfold Head.pack; rw [List.append_assoc]; exact take_left' (Pl.putLE_length _ _)
  by_cases h1 : i < 4
  · rw [if_pos h1] at e'
    obtain ⟨e1, e2, e3⟩ := append_three e' (by rw [List.length_set, Pl.putLE_length, Pl.putLE_length]) (by rw [l1, l2])
    rw [← e2] at e1
    have h5 : (Pl.putLE (Pl.crcSum (h.mid b)) 4)[i]'(by rw [Pl.putLE_length]; exact h1) = (h.pack b)[i] := by
      simp only [← hb4, List.getElem_take]
    apply hd
    rw [← h5]
    have h6 : ((Pl.putLE (Pl.crcSum (h.mid b)) 4).set i d)[i]'(by rw [List.length_set, Pl.putLE_length]; exact h1) = d := List.getElem_set_self ..
    rw [← h6]
    simp only [e1]
  · rw [if_neg h1] at e'
    by_cases h2 : i < 4 + 124
    · rw [if_pos h2] at e'
      obtain ⟨e1, e2, e3⟩ := append_three e' (by rw [Pl.putLE_length, Pl.putLE_length]) (by rw [List.length_set, l1, l2])
      have h3 : i - 4 < (h.mid b).length := by rw [l1]; omega
      have h5 : (h.mid b)[i - 4] = (h.pack b)[i] := by
        have : (h.pack b)[i] = (Pl.putLE (Pl.crcSum (h.mid b)) 4 ++ (h.mid b ++ b))[i]'(by rw [← List.append_assoc]; exact hi) := by
          simp only [Head.pack, List.append_assoc]
        rw [this, List.getElem_append_right (by rw [Pl.putLE_length]; omega)]
        simp only [Pl.putLE_length]
        rw [List.getElem_append_left h3]
      have h6 := put4_inj c1 c2 e1
      rw [← e2] at h6
      exact crc_set h3 (fun q => hd (q.trans h5)) h6.symm
    · rw [if_neg h2] at e'
      obtain ⟨e1, e2, e3⟩ := append_three e' (by rw [Pl.putLE_length, Pl.putLE_length]) (by rw [l1, l2])
      have h3 : i - 4 - 124 < b.length := by omega
      have h5 : b[i - 4 - 124] = (h.pack b)[i] := by
        have : (h.pack b)[i] = (Pl.putLE (Pl.crcSum (h.mid b)) 4 ++ (h.mid b ++ b))[i]'(by rw [← List.append_assoc]; exact hi) := by
          simp only [Head.pack, List.append_assoc]
        rw [this, List.getElem_append_right (by rw [Pl.putLE_length]; omega)]
        simp only [Pl.putLE_length]
        rw [List.getElem_append_right (by rw [l1]; omega)]
        simp only [l1]
      have h6 : Pl.putLE (Pl.crcSum b) 4 = Pl.putLE (Pl.crcSum c) 4 := by rw [← mid_crc h b, ← mid_crc g c, e2]
      have h7 := put4_inj c3 c4 h6
      rw [← e3] at h7
      exact crc_set h3 (fun q => hd (q.trans h5)) h7.symm

/-- A message's bytes, one of them turned. -/
theorem dec_turned {m : Msg} (hf : m.fit) {s : ByteArray} (h : m.enc = (s, 0)) {i : Nat} (hi : i < s.data.toList.length) (mask : UInt8) :
    ((if (decM (s.data.toList.set i (s.data.toList[i] ^^^ mask))).isNone = true then (4 : Int) else 0) == 0) = (mask == 0) := by
  by_cases hm : mask = 0
  · subst hm
    rw [UInt8.xor_zero, List.set_getElem_self, decM_of hf h]
    rfl
  · have hd : s.data.toList[i] ^^^ mask ≠ s.data.toList[i] := fun e => hm (by
      have : s.data.toList[i] ^^^ mask = s.data.toList[i] ^^^ 0 := by rw [UInt8.xor_zero]; exact e
      exact (UInt8.xor_right_inj _).1 this)
    have hn : decM (s.data.toList.set i (s.data.toList[i] ^^^ mask)) = none := by
      cases hx : decM (s.data.toList.set i (s.data.toList[i] ^^^ mask)) with
      | none => rfl
      | some m2 =>
        exfalso
        have h2 := decM_enc hx
        obtain ⟨r1, r2, r3, r4⟩ := enc_ok (m := m) (by rw [h])
        obtain ⟨q1, q2, q3, q4⟩ := enc_ok (m := m2) (by rw [h2])
        have e1 : s.data.toList = m.head.pack (bodyB m) := by
          have : s = str (m.head.pack (bodyB m)) := by rw [← r4, h]
          rw [this]
        have e2 : s.data.toList.set i (s.data.toList[i] ^^^ mask) = m2.head.pack (bodyB m2) := by
          have : str (s.data.toList.set i (s.data.toList[i] ^^^ mask)) = str (m2.head.pack (bodyB m2)) := by rw [← q4, h2]
          have := congrArg (fun x : ByteArray => x.data.toList) this
          exact this
        generalize s.data.toList = l at *
        subst e1
        exact pack_turned hi hd e2
    rw [hn]
    have : (mask == 0) = false := by simpa using hm
    rw [this]; rfl

theorem enc_err {m : Msg} (h : m.enc.2 ≠ 0) : m.enc.1 = str [] := by
  unfold Msg.enc at h ⊢
  cases hr : rightM m
  · simp
  · rw [hr, if_pos rfl] at h
    rw [if_pos rfl]
    unfold Head.packed at h ⊢
    by_cases h1 : m.head.right = true
    · rw [if_pos h1] at h ⊢
      by_cases h2 : (str (bodyB m)).size ≤ 3968
      · rw [if_pos h2] at h; exact absurd rfl h
      · rw [if_neg h2]
    · rw [if_neg h1]

theorem enc_size {m : Msg} (h : m.enc.2 = 0) : 128 ≤ m.enc.1.size ∧ m.enc.1.size ≤ 4096 := by
  obtain ⟨h1, h2, h3, h4⟩ := enc_ok h
  rw [h4, str_size, pack_length]
  omega

theorem turn_index (a : Int) {n : Nat} (h0 : 0 < n) (h1 : n ≤ 4096) : ∃ i : Nat, wrap64 ((IntKind.u64.wrap a).tmod n) = (i : Int) ∧ i < n := by
  have hw : 0 ≤ IntKind.u64.wrap a := by rw [IntKind.wrap_u64]; omega
  obtain ⟨k, hk⟩ := Int.eq_ofNat_of_zero_le hw
  rw [hk]
  have hm : k % n < n := Nat.mod_lt _ h0
  refine ⟨k % n, ?_, hm⟩
  rw [← Int.ofNat_tmod]
  generalize k % n = j at hm
  unfold wrap64
  omega

theorem xor_u8 (x y : UInt8) : bits BinOp.xor IntKind.u8 (x.toNat : Int) (y.toNat : Int) = ((x ^^^ y).toNat : Int) := by
  have ha := x.toNat_lt
  have hb := y.toNat_lt
  rw [UInt8.toNat_xor]
  generalize x.toNat = a at *
  generalize y.toNat = b at *
  have hx : a ^^^ b < 2 ^ 8 := Nat.xor_lt_two_pow (by omega) (by omega)
  have h1 : (BitVec.ofInt 8 (a : Int)).toNat = a := by
    rw [BitVec.ofInt_natCast, BitVec.toNat_ofNat]; exact Nat.mod_eq_of_lt (by omega)
  have h2 : (BitVec.ofInt 8 (b : Int)).toNat = b := by
    rw [BitVec.ofInt_natCast, BitVec.toNat_ofNat]; exact Nat.mod_eq_of_lt (by omega)
  show IntKind.u8.wrap ((BitVec.ofInt 8 (a : Int) ^^^ BitVec.ofInt 8 (b : Int)).toNat : Int) = _
  rw [BitVec.toNat_xor, h1, h2]
  simp [IntKind.wrap, IntKind.bits, IntKind.signed]
  omega

theorem bytes_thaw (w : World) (e : TypeId) (s : ByteArray) (i : Nat) (h : i < s.size) : (Lib.bytesWorld w e s).frozen? ⟨w.heap.size, i, none⟩ = false := by
  unfold World.frozen?
  rw [Lib.bytesWorld_at_new]
  have : s.size ≤ (Lib.bytesCells w e s).size := by simp [Lib.bytesCells]
  simp
  omega

set_option maxRecDepth 100000 in
set_option maxHeartbeats 8000000 in
theorem turns_any (m : Msg) (ea ia : Option Addr) (ec ic : Nat) (at_ : Int) (hat : -9223372036854775808 ≤ at_ ∧ at_ ≤ 9223372036854775807) (mask : UInt8) (w : World) (ha : AllAt w) (hf : m.fit) (he : RowAt w ea m.entries.length 9 (entAt m.entries)) (hi : RowAt w ia m.items.length 15 (itemAt m.items)) :
    Calls Tryd.prog 7 #[.agg (msgC m (.slice ea m.entries.length ec) (.slice ia m.items.length ic)), .int .i64 at_, .int .u8 mask.toNat] w fun e w' => e = .returned (.bool true) ∧ Below w.heap.size w w' := by
  have hb0 : Below w.heap.size w (w.alloc (.cells (msgC m (.slice ea m.entries.length ec) (.slice ia m.items.length ic)) 31)) := (Below.refl _ _).alloc (Nat.le_refl _) _
  have HB0 := Lib.hid hb0
  have HM0 := Lib.hid (heap_alloc_new w (.cells (msgC m (.slice ea m.entries.length ec) (.slice ia m.items.length ic)) 31))
  have HA := Lib.hid ha
  have HF := Lib.hid hf
  have HE := Lib.hid he
  have HI := Lib.hid hi
  have HAt := Lib.hid hat
  clear ha hf he hi hb0 hat
  go_enter Tryd.func7, Tryd.ntmps7
  go_wp2_with fail
  refine (awake_any _ (HA.out.later HB0.out)).mono ?_
  rintro x w1 ⟨rfl, hb1⟩
  have HB1 := Lib.hid (HB0.out.trans (hb1.mono HB0.out.size))
  have HM1 := Lib.hid ((hb1.block w.heap.size (by simp)).trans HM0.out)
  clear hb1 HM0 HB0
  go_wp2_with ((with_reducible show wpList _ _ _ (⟨some 14, .load 31 (.tmp 3), _, _, _, _⟩ :: _) _ _); refine wpList_load_row (o := ⟨some 14, .load 31 (.tmp 3), _, _, _, _⟩) rfl 31 _ rfl w.heap.size rfl 31 (msgC m (.slice ea m.entries.length ec) (.slice ia m.items.length ic)) (0, 0) _ HM1.out Tryd.underlying31 rfl msg_info ?_)
  refine (long_any m _ _ _ _ _ HF.out (HE.out.later HB1.out) (HI.out.later HB1.out)).mono ?_
  rintro x w2 ⟨⟨b, rfl, hb⟩, hb2⟩
  have HB2 := Lib.hid (HB1.out.trans (hb2.mono HB1.out.size))
  have HM2 := Lib.hid ((hb2.block w.heap.size (Array.getElem?_eq_some_iff.1 HM1.out).1).trans HM1.out)
  have HS := Lib.hid hb
  clear hb2 hb HM1 HB1
  cases b
  rotate_left
  · go_wp2
    go_ret
    exact ⟨rfl, HB2.out⟩
  have HSh : Hid m.short := by first | exact HS.out rfl | exact HS.out trivial | exact HS.out
  have HLn : Hid (m.entries.length ≤ 1000000 ∧ m.items.length ≤ 1000000) := ⟨by have := HSh.out.1; omega, by have := HSh.out.2.1; omega⟩
  go_wp2_with ((with_reducible show wpList _ _ _ (⟨some 17, .load 31 (.tmp 3), _, _, _, _⟩ :: _) _ _); refine wpList_load_row (o := ⟨some 17, .load 31 (.tmp 3), _, _, _, _⟩) rfl 31 _ rfl w.heap.size rfl 31 (msgC m (.slice ea m.entries.length ec) (.slice ia m.items.length ic)) (0, 0) _ HM2.out Tryd.underlying31 rfl msg_info ?_)
  refine (encode_any m _ _ _ _ _ (HA.out.later HB2.out) HF.out HLn.out.1 HLn.out.2 (HE.out.later HB2.out) (HI.out.later HB2.out)).mono ?_
  rintro x w3 ⟨rfl, hb3⟩
  have HB3 := Lib.hid (HB2.out.trans (hb3.mono HB2.out.size))
  clear hb3 HB2 HM2 HS
  have herr := @enc_err m
  have hsz := @enc_size m
  have hdt := fun (s : ByteArray) (h : m.enc = (s, 0)) (i : Nat) (hi : i < s.data.toList.length) => dec_turned HF.out h hi mask
  obtain ⟨s, hs⟩ : ∃ s, m.enc.1 = s := ⟨_, rfl⟩
  obtain ⟨n, hn⟩ : ∃ s, m.enc.2 = s := ⟨_, rfl⟩
  have hen : m.enc = (s, n) := by rw [← hs, ← hn]
  rw [hs, hn]
  rw [hs, hn] at herr hsz
  by_cases h0 : n = 0
  · subst h0
    obtain ⟨s1, s2⟩ := hsz rfl
    have HDt := Lib.hid (hdt s hen)
    clear herr hsz hdt hs hn hen
    obtain ⟨i, hi, hlt⟩ := turn_index at_ (n := s.size) (by omega) (by omega)
    have kc := Lib.run_convert_string_bytes (P := Tryd.prog) w3 9 51 5 s Tryd.underlying9 Tryd.underlying51 Tryd.underlying5
    have hltl : i < s.data.toList.length := by simpa using hlt
    have hcI : (Lib.bytesWorld w3 5 s).cell? ⟨w3.heap.size, i, none⟩ = some (.int .u8 ((s.data.toList[i]).toNat : Int)) := by
      rw [Lib.bytesWorld_cell w3 5 s i hlt, List.getD_eq_getElem?_getD, List.getElem?_eq_getElem hltl]; rfl
    have hzI : (Lib.bytesWorld w3 5 s).frozen? ⟨w3.heap.size, i, none⟩ = false := bytes_thaw w3 5 s i hlt
    have hx := xor_u8 s.data.toList[i] mask
    obtain ⟨d, hd⟩ : ∃ d, d = s.data.toList[i] ^^^ mask := ⟨_, rfl⟩
    have hdt1 := HDt.out i hltl
    rw [← hd] at hx hdt1
    have hx2 : bits BinOp.xor IntKind.u8 ((s.data[i]'hlt).toNat : Int) (mask.toNat : Int) = (d.toNat : Int) := hx
    clear hx
    have hb4 := below_bytes w3 5 s
    have hho : Lib.HoldsBytes ((Lib.bytesWorld w3 5 s).setCell ⟨w3.heap.size, i, none⟩ (.int .u8 (d.toNat : Int))) (.slice (some ⟨w3.heap.size, 0, none⟩) (s.data.toList.set i d).length (grownCap w3 s.size 0 5)) (s.data.toList.set i d) := by
      refine ⟨_, _, rfl, (fun e => by cases e), fun a e j x hj => ?_⟩
      obtain rfl := Option.some.inj e
      rw [add_plain, Nat.zero_add]
      have hjl : j < s.data.toList.length := by have := (List.getElem?_eq_some_iff.1 hj).1; simpa using this
      by_cases hij : i = j
      · subst hij
        rw [List.getElem?_set_self hjl] at hj
        rw [← Option.some.inj hj]
        exact World.cell?_setCell_same _ _ _ hcI
      · rw [List.getElem?_set_ne hij] at hj
        rw [World.cell?_setCell_other _ _ _ _ (by intro e; simp only [Addr.mk.injEq, true_and, and_true] at e; exact hij e), Lib.bytesWorld_cell w3 5 s j (by simpa using hjl), List.getD_eq_getElem?_getD, hj]
        rfl
    have hcv := conv_holds (P := Tryd.prog) 51 5 9 Tryd.underlying51 Tryd.underlying5 Tryd.underlying9 hho
    rw [List.length_set, show s.data.toList.length = s.size by simp] at hcv
    have HB5 : Hid (Below w.heap.size w ((Lib.bytesWorld w3 5 s).setCell ⟨w3.heap.size, i, none⟩ (.int .u8 (d.toNat : Int)))) := (HB3.out.trans (hb4.mono HB3.out.size)).setCell HB3.out.size _
    have HDec := Lib.hid (fun wx h => decode_any (str (s.data.toList.set i d)) (by rw [str_size, List.length_set]; simp only [maxLen]; simp; omega) wx (HA.out.later (h : Below w.heap.size w wx)))
    simp only [str_data] at HDec
    have hcase : (decM (s.data.toList.set i d) = none ∧ (mask.toNat : Int) ≠ 0) ∨ ((∃ m2, decM (s.data.toList.set i d) = some m2) ∧ (mask.toNat : Int) = 0) := by
      cases hq : decM (s.data.toList.set i d) with
      | none =>
        rw [hq] at hdt1
        refine .inl ⟨rfl, fun e => ?_⟩
        have : mask = 0 := by
          apply UInt8.toNat_inj.1; simpa using e
        rw [this] at hdt1; cases hdt1
      | some m2 =>
        rw [hq] at hdt1
        refine .inr ⟨⟨m2, rfl⟩, ?_⟩
        have : (mask == 0) = true := by rw [← hdt1]; rfl
        rw [beq_iff_eq] at this; rw [this]; rfl
    have HCase := Lib.hid hcase
    clear hdt1 hcase hho hb4 hd HDt
    go_wp2_with fail
    refine (HDec.out _ HB5.out).mono ?_
    rintro x w6 ⟨pe, pi, qc, rc, rfl, _, _, hb6⟩
    have HB6 := Lib.hid (HB5.out.trans (hb6.mono HB5.out.size))
    clear hb6 hcv kc hcI hzI HDec hx2
    have HArm := Lib.hid (fun (m2 : Msg) => msgC_one m2 pe pi m2.entries.length qc m2.items.length rc)
    rcases HCase.out with ⟨hq, hm⟩ | ⟨⟨m2, hq⟩, hm⟩
    · rw [hq]
      have hm1 : ((mask.toNat : Int) == 0) = false := by simpa using hm
      clear hm
      go_wp2_with ((with_reducible show wpList _ _ _ (⟨none, .store 31 (.tmp 10) (.tmp 47), _, _, _, _⟩ :: _) _ _); refine wpList_store_new (op := ⟨none, .store 31 (.tmp 10) (.tmp 47), _, _, _, _⟩) rfl 31 _ _ rfl 31 w6.heap.size rfl _ (msgC zeroMsg (.slice pe zeroMsg.entries.length qc) (.slice pi zeroMsg.items.length rc)) rfl rfl msg_info rfl (HArm.out _) ?_; intro w7 h7 hb7 hz7; have HB7 := Lib.hid (HB6.out.trans (hb7.mono HB6.out.size)); clear h7 hb7 hz7)
      go_ret
      exact ⟨rfl, HB7.out⟩
    · rw [hq]
      have hm1 : ((mask.toNat : Int) == 0) = true := by simpa using hm
      clear hm
      go_wp2_with ((with_reducible show wpList _ _ _ (⟨none, .store 31 (.tmp 10) (.tmp 47), _, _, _, _⟩ :: _) _ _); refine wpList_store_new (op := ⟨none, .store 31 (.tmp 10) (.tmp 47), _, _, _, _⟩) rfl 31 _ _ rfl 31 w6.heap.size rfl _ (msgC m2 (.slice pe m2.entries.length qc) (.slice pi m2.items.length rc)) rfl rfl msg_info rfl (HArm.out _) ?_; intro w7 h7 hb7 hz7; have HB7 := Lib.hid (HB6.out.trans (hb7.mono HB6.out.size)); clear h7 hb7 hz7)
      go_ret
      exact ⟨rfl, HB7.out⟩
  · have hes := herr h0
    have hn1 : (n != 0) = true := by simpa using h0
    subst hes
    clear herr hsz hdt hs hn hen h0
    go_wp2
    go_ret
    exact ⟨rfl, HB3.out⟩

end Go.Proofs.YtmidfknlmjgjpaaDoor
