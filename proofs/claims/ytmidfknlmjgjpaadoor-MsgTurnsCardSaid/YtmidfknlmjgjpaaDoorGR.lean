/- The walk of msg.Decode: bytes that are no header's, or of a kind that is none. What msg.Decode answers, of any bytes. -/
import Derived.Test.YtmidfknlmjgjpaaDoorGQ
namespace Go.Proofs.YtmidfknlmjgjpaaDoor
open Go.RowKit

def zeroMsg : Msg := baseM zeroHead
/-- What msg.Decode hands back: a message, an error. -/
def DecRes (r : Option Msg) (x : Ending) (w w' : World) : Prop :=
  ∃ (ea ia : Option Addr) (ec ic : Nat), x = .returned (.tuple #[.agg (msgC (r.getD zeroMsg) (.slice ea (r.getD zeroMsg).entries.length ec) (.slice ia (r.getD zeroMsg).items.length ic)), .int .i64 (if r.isNone = true then 4 else 0)]) ∧
    RowAt w' ea (r.getD zeroMsg).entries.length 9 (entAt (r.getD zeroMsg).entries) ∧ RowAt w' ia (r.getD zeroMsg).items.length 15 (itemAt (r.getD zeroMsg).items) ∧ Below w.heap.size w w'
theorem DecRes.none {x : Ending} {w w' : World} (hx : x = .returned (.tuple #[.agg (msgC zeroMsg (.slice none 0 0) (.slice none 0 0)), .int .i64 4])) (hb : Below w.heap.size w w') : DecRes none x w w' :=
  ⟨Option.none, Option.none, 0, 0, hx, fun h => absurd h (Nat.lt_irrefl 0), fun h => absurd h (Nat.lt_irrefl 0), hb⟩

theorem head_one (h : Head) : (headC h).all (·.oneCell') = true := by
  refine all_oneCell_toArray fun v hv => ?_
  simp only [List.mem_cons, List.not_mem_nil, or_false] at hv
  rcases hv with rfl | rfl | rfl | rfl | rfl | rfl | rfl | rfl | rfl | rfl | rfl | rfl <;> rfl

set_option maxRecDepth 100000 in
set_option maxHeartbeats 4000000 in
theorem decode_no (s : ByteArray) (hs : s.size ≤ maxLen) (hd : Head) (bd : List UInt8) (n : Int) (hu : unpRes (unpackH s.data.toList) = .tuple #[.agg (headC hd), .string (str bd), .int .i64 n]) (hk : hd.kind < 1 ∨ 16 < hd.kind) (w : World) :
    Calls Tryd.prog 23 #[.string s] w fun x w' => DecRes none x w w' := by
  have HU := Lib.hid (fun wx => unpack_any s hs wx)
  have HH := Lib.hid hu
  have HK := Lib.hid hk
  clear hu hk
  go_enter Tryd.func23, Tryd.ntmps23
  go_wp2_with fail
  refine (HU.out _).mono ?_
  rw [HH.out]
  rintro x w1 ⟨rfl, hb1⟩
  have hr1 := (hb1.block w.heap.size (by simp)).trans (heap_alloc_new w (.cells (msgC zeroMsg (.slice none 0 0) (.slice none 0 0)) 31))
  have hb2 : Below w.heap.size w w1 := ((Below.refl _ _).alloc (Nat.le_refl _) _).trans (hb1.mono (by simp))
  have HR1 := Lib.hid hr1
  have HB1 := Lib.hid hb2
  have hlt : w.heap.size < w1.heap.size := (Array.getElem?_eq_some_iff.1 hr1).1
  clear hb1 hr1 hb2
  go_wp2_with (first
    | ((with_reducible show wpList _ _ _ (⟨none, .store 75 (.tmp 4) (.tmp 18), _, _, _, _⟩ :: _) _ _); refine wpList_store_new (op := ⟨none, .store 75 (.tmp 4) (.tmp 18), _, _, _, _⟩) rfl 75 _ _ rfl 75 w1.heap.size rfl _ (headC hd) rfl rfl head_info rfl (head_one _) ?_; intro w2 h2 hb2 hz2; have k0 : w2.cell? ⟨w1.heap.size, 0, none⟩ = some (.int .i64 hd.kind) := cell_of_row _ _ _ _ _ _ h2; have HR2 := Lib.hid ((hb2.block _ hlt).trans HR1.out); have HB2 := Lib.hid (HB1.out.trans (hb2.mono (Nat.le_of_lt hlt))); clear h2 hb2 hz2))
  refine (fields_no _ HK.out _).mono ?_
  rintro x w3 ⟨rfl, rfl⟩
  go_wp2_with ((with_reducible show wpList _ _ _ (⟨none, .store 31 (.tmp 2) (.tmp 33), _, _, _, _⟩ :: _) _ _); refine wpList_store_row (op := ⟨none, .store 31 (.tmp 2) (.tmp 33), _, _, _, _⟩) rfl 31 _ _ rfl w.heap.size 31 (msgC zeroMsg (.slice none 0 0) (.slice none 0 0)) (msgC zeroMsg (.slice none 0 0) (.slice none 0 0)) rfl rfl HR2.out msg_info rfl (msgC_one _ _ _ _ _ _ _) ?_)
  all_goals
    refine bodyPost_ret (v := .tuple #[.agg (msgC zeroMsg (.slice none 0 0) (.slice none 0 0)), .int .i64 4]) ?_ rfl ?_
    · exact results_row2 2 31 3 rfl w.heap.size rfl _ rfl (msgC zeroMsg (.slice none 0 0) (.slice none 0 0)) 31 (0, 0) (setRow_heap w3 w.heap.size _ _ 31 (0, 0) HR2.out) _ Tryd.underlying31 rfl msg_info
    · exact DecRes.none rfl (HB2.out.trans (below_setRow _ _ _))

/-- A message of a header, as it is first laid. -/
def preM (h : Head) : Msg :=
  { kind := h.kind, src := h.src, view := h.view, logView := h.a, op := h.op, commit := h.commit, client := h.client, session := h.session, request := h.request, operation := h.operation, index := h.b, size := 0,
    check := ⟨0, 0, 0⟩, s0 := 0, s1 := 0, s2 := 0, s3 := 0, s4 := 0, s5 := 0, entry := zeroEntry, entries := [], items := [], body := str [] }
theorem pre_else (h : Head) (hk : ¬ h.kind = 13) : preM h = baseM h := by
  simp only [preM, baseM, if_neg hk]
theorem pre_13 (h : Head) (hk : h.kind = 13) (ev iv : Value) : ((msgC (preM h) ev iv).setIfInBounds 10 (.int .i64 0)).setIfInBounds 11 (.int .i64 h.b) = msgC (baseM h) ev iv := by
  simp only [msgC, preM, baseM, if_pos hk, List.setIfInBounds_toArray, List.set_cons_zero, List.set_cons_succ]

set_option maxRecDepth 100000 in
set_option maxHeartbeats 8000000 in
theorem decode_yes (s : ByteArray) (hs : s.size ≤ maxLen) (hd : Head) (bd : List UInt8) (hu : unpackH s.data.toList = some (hd, bd)) (h1 : 1 ≤ hd.kind) (h16 : hd.kind ≤ 16) (w : World) (ha : AllAt w) :
    Calls Tryd.prog 23 #[.string s] w fun x w' => DecRes (decM s.data.toList) x w w' := by
  have HU := Lib.hid (fun wx => unpack_any s hs wx)
  have hbl := (unpackH_some hu).2.2
  have HBl := Lib.hid hbl
  have HH := Lib.hid hu
  have hdef : decM s.data.toList = if (readM hd bd).2.bad = false ∧ (readM hd bd).1.enc = (s, 0) then some (readM hd bd).1 else none := by
    rw [decM, hu]
    simp only [h1, h16, true_and, str_of]
  obtain ⟨RE, hRE⟩ : ∃ r, r = decM s.data.toList := ⟨_, rfl⟩
  rw [← hRE]
  have HRE := Lib.hid (hRE.trans hdef)
  have HA := Lib.hid ha
  have HA0 := Lib.hid (ha.later ((Below.refl w.heap.size w).alloc (Nat.le_refl _) (.cells (msgC zeroMsg (.slice none 0 0) (.slice none 0 0)) 31)))
  clear hu hdef hRE ha hbl
  go_enter Tryd.func23, Tryd.ntmps23
  go_wp2_with fail
  refine (HU.out _).mono ?_
  rw [HH.out]
  unfold unpRes
  rintro x w1 ⟨rfl, hb1⟩
  have hr1 := (hb1.block w.heap.size (by simp)).trans (heap_alloc_new w (.cells (msgC zeroMsg (.slice none 0 0) (.slice none 0 0)) 31))
  have hb2 : Below w.heap.size w w1 := ((Below.refl _ _).alloc (Nat.le_refl _) _).trans (hb1.mono (by simp))
  have HR1 := Lib.hid hr1
  have HB1 := Lib.hid hb2
  have HA1 := Lib.hid (HA0.out.later hb1)
  have hlt : w.heap.size < w1.heap.size := (Array.getElem?_eq_some_iff.1 hr1).1
  clear hb1 hr1 hb2 HA0
  go_wp2_with (first
    | ((with_reducible show wpList _ _ _ (⟨none, .store 75 (.tmp 4) (.tmp 18), _, _, _, _⟩ :: _) _ _); refine wpList_store_new (op := ⟨none, .store 75 (.tmp 4) (.tmp 18), _, _, _, _⟩) rfl 75 _ _ rfl 75 w1.heap.size rfl _ (headC hd) rfl rfl head_info rfl (head_one _) ?_; intro w2 h2 hb2 hz2; have k0 : w2.cell? ⟨w1.heap.size, 0, none⟩ = some (.int .i64 hd.kind) := cell_of_row _ _ _ _ _ _ h2; have HR2 := Lib.hid ((hb2.block _ hlt).trans HR1.out); have HB2 := Lib.hid (HB1.out.trans (hb2.mono (Nat.le_of_lt hlt))); have HA2 := Lib.hid (HA1.out.later hb2); have HH2 := Lib.hid h2; clear h2 hb2 hz2))
  refine (fields_yes _ h1 h16 _ HA2.out).mono ?_
  rintro x w3 ⟨rfl, rfl⟩
  have HB23 : Hid (w1.heap.size ≤ w3.heap.size) := Nat.le_of_lt (Array.getElem?_eq_some_iff.1 HH2.out).1
  have k1 : w3.cell? ⟨w1.heap.size, 1, none⟩ = some (.int .i64 hd.src) := cell_of_row _ _ _ _ _ _ HH2.out
  have k2 : w3.cell? ⟨w1.heap.size, 2, none⟩ = some (.int .i64 hd.operation) := cell_of_row _ _ _ _ _ _ HH2.out
  have k3 : w3.cell? ⟨w1.heap.size, 3, none⟩ = some (.int .i64 hd.view) := cell_of_row _ _ _ _ _ _ HH2.out
  have k4 : w3.cell? ⟨w1.heap.size, 4, none⟩ = some (.int .i64 hd.op) := cell_of_row _ _ _ _ _ _ HH2.out
  have k5 : w3.cell? ⟨w1.heap.size, 5, none⟩ = some (.int .i64 hd.commit) := cell_of_row _ _ _ _ _ _ HH2.out
  have k6 : w3.cell? ⟨w1.heap.size, 6, none⟩ = some (.int .i64 hd.client) := cell_of_row _ _ _ _ _ _ HH2.out
  have k7 : w3.cell? ⟨w1.heap.size, 7, none⟩ = some (.int .i64 hd.session) := cell_of_row _ _ _ _ _ _ HH2.out
  have k8 : w3.cell? ⟨w1.heap.size, 8, none⟩ = some (.int .i64 hd.request) := cell_of_row _ _ _ _ _ _ HH2.out
  have k9 : w3.cell? ⟨w1.heap.size, 9, none⟩ = some (.int .i64 hd.a) := cell_of_row _ _ _ _ _ _ HH2.out
  have k10 : w3.cell? ⟨w1.heap.size, 10, none⟩ = some (.int .i64 hd.b) := cell_of_row _ _ _ _ _ _ HH2.out
  have kc := fun (wx : World) => Lib.run_convert_string_bytes (P := Tryd.prog) wx 9 51 5 (str bd) Tryd.underlying9 Tryd.underlying51 Tryd.underlying5
  cases h13 : (hd.kind == 13)
  rotate_left
  · go_wp2_with ((with_reducible show wpList _ _ _ (⟨none, .store 31 (.tmp 9) (.tmp 56), _, _, _, _⟩ :: _) _ _); refine wpList_store_new (op := ⟨none, .store 31 (.tmp 9) (.tmp 56), _, _, _, _⟩) rfl 31 _ _ rfl 31 w3.heap.size rfl _ (msgC (preM hd) (.slice none 0 0) (.slice none 0 0)) rfl rfl msg_info rfl (msgC_one _ _ _ _ _ _ _) ?_; intro w4 h4 hb4 hz4; have j0 : w4.cell? ⟨w3.heap.size, 0, none⟩ = some (.int .i64 hd.kind) := cell_of_row _ _ _ _ _ _ h4; have HB4 := Lib.hid (HB2.out.trans (hb4.mono HB2.out.size)); have HA4 := Lib.hid (HA2.out.later hb4); have HR4 := Lib.hid ((hb4.block _ (Array.getElem?_eq_some_iff.1 HR2.out).1).trans HR2.out); have HH4 := Lib.hid ((hb4.block _ (Array.getElem?_eq_some_iff.1 HH2.out).1).trans HH2.out); have HM4 := Lib.hid h4; clear h4 hb4 hz4)
    have j10 : w4.cell? ⟨w3.heap.size, 10, none⟩ = some (.int .i64 hd.b) := cell_of_row _ _ _ _ _ _ HM4.out
    have j11 : w4.cell? ⟨w3.heap.size, 11, none⟩ = some (.int .i64 0) := cell_of_row _ _ _ _ _ _ HM4.out
    have z10 := frozen_row HM4.out 10
    have z11 := frozen_row HM4.out 11
    have i10 : w4.cell? ⟨w1.heap.size, 10, none⟩ = some (.int .i64 hd.b) := cell_of_row _ _ _ _ _ _ HH4.out
    have hneM : w3.heap.size ≠ w1.heap.size := Nat.ne_of_gt (Array.getElem?_eq_some_iff.1 HH2.out).1
    have hneN : w1.heap.size ≠ w3.heap.size := Nat.ne_of_lt (Array.getElem?_eq_some_iff.1 HH2.out).1
    clear k0 k1 k2 k3 k4 k5 k6 k7 k8 k9 k10
    go_region
    have hM5 := set_block 11 (.int .i64 hd.b) (set_block 10 (.int .i64 0) HM4.out)
    rw [pre_13 hd (by simpa using h13)] at hM5
    have hlt3 : w.heap.size < w3.heap.size := Nat.lt_of_lt_of_le hlt HB23.out
    have HL3 := Lib.hid hlt3
    have hb5 : Below w.heap.size w ((w4.setCell ⟨w3.heap.size, 10, none⟩ (.int .i64 0)).setCell ⟨w3.heap.size, 11, none⟩ (.int .i64 hd.b)).drew := ((HB4.out.setCell (Nat.le_of_lt hlt3) _).setCell (Nat.le_of_lt hlt3) _).drew
    have hr5 := (two_sets w4 (R := w3.heap.size) (g := w.heap.size) (Nat.ne_of_lt hlt3) 10 11 (.int .i64 0) (.int .i64 hd.b)).trans HR4.out
    obtain ⟨w5, hw5⟩ : ∃ w5, w5 = ((w4.setCell ⟨w3.heap.size, 10, none⟩ (.int .i64 0)).setCell ⟨w3.heap.size, 11, none⟩ (.int .i64 hd.b)).drew := ⟨_, rfl⟩
    rw [← hw5] at hb5 ⊢
    have HM5 : Hid (w5.heap[w3.heap.size]? = some (.cells (msgC (baseM hd) (.slice none 0 0) (.slice none 0 0)) 31 (0, 0))) := by rw [hw5]; exact hM5
    have HR5 : Hid (w5.heap[w.heap.size]? = some (.cells (msgC zeroMsg (.slice none 0 0) (.slice none 0 0)) 31 (0, 0))) := by rw [hw5]; exact hr5
    have HB5 := Lib.hid hb5
    clear hb5 hr5 hM5 hw5 j0 j10 j11 z10 z11 i10 hneM hneN HM4 HR4 HB4 HH4 HA4 HH2 HR2 HB2 HA2
    go_wp2
    have hL := DLoop.start (hd := hd) (bd := bd) HM5.out HR5.out HB5.out HL3.out HBl.out
    simp only [World.size_alloc] at hL
    have HKI := Lib.hid (kinv_all hd bd (Nat.le_trans HBl.out (by omega)))
    have HAA : Hid (∀ wx, Below w.heap.size w wx → AllAt wx) := fun wx hb => AllAt.later HA.out hb
    have Hss : Hid (∀ c ∈ fieldsOf hd.kind, c.toNat < 128) := fun c h => fieldL_small (fieldsOf_mem h)
    clear kc
    generalize (Lib.bytesWorld w5 5 (str bd)).alloc (.cells #[.slice (some ⟨w5.heap.size, 0, none⟩) bd.length (grownCap w5 bd.length 0 5), .int .i64 0, .bool false] 95) = w6 at hL ⊢
    generalize (Lib.bytesWorld w5 5 (str bd)).heap.size = R at hL ⊢
    generalize grownCap w5 bd.length 0 5 = cap at hL ⊢
    generalize w5.heap.size = pb at hL ⊢
    generalize hMe : w3.heap.size = M at hL ⊢
    have HLs := Lib.hid hL
    clear hL
    go_loopw [] (fun wr => ∃ (k : Nat) (O : Nat → Prop) (ev iv : Value), k ≤ 6 ∧ DLoop w hd bd M R pb cap (R + 1) wr k O ev iv) (fun wr => 6 - wr.iterPos (R + 1))
    case atStart => exact ⟨0, _, _, _, by omega, HLs.out⟩
    case round =>
      obtain ⟨k, O, ev, iv, hk, hl⟩ := hrel
      have HL := Lib.hid hl
      have HI : Hid (wr.heap[(R + 1)]? = some (.stringIter (str orderL) k)) := hl.it
      clear hl HLs
      by_cases hlt6 : k < 6
      · obtain ⟨c, hc⟩ : ∃ c, orderL[k]? = some c := ⟨orderL[k]'(by simpa [orderL] using hlt6), List.getElem?_eq_getElem _⟩
        have hc128 : c.toNat < 128 := by
          have : ∀ c ∈ orderL, c.toNat < 128 := by decide
          exact this c (List.mem_of_getElem? hc)
        have hn := fun ty => run_next_at (P := Tryd.prog) ty HI.out hc hc128
        have HC := Lib.hid hc
        clear hc hc128
        cases hh : (fieldsOf hd.kind).contains c
        · have HCt := Lib.hid hh
          clear hh
          go_wp2_with fail
          refine (hasRune_any _ _ Hss.out _).mono ?_
          rw [HCt.out]
          rintro x w7 ⟨rfl, hb3⟩
          have HB7 := Lib.hid hb3
          clear hb3
          go_wp2_with fail
          obtain ⟨O', ev', iv', h7⟩ := HL.out.skip HB7.out (by rw [readK_succ HC.out, HCt.out]; rfl)
          have h7i := h7.it
          have H7 := Lib.hid h7
          have H7i := Lib.hid h7i
          clear h7 h7i
          go_roundw
          case rel => exact ⟨k + 1, O', ev', iv', by omega, H7.out⟩
          case measure => simp only [World.iterPos, H7i.out, HI.out]; omega
        · have HCt := Lib.hid hh
          clear hh
          go_wp2_with fail
          refine (hasRune_any _ _ Hss.out _).mono ?_
          rw [HCt.out]
          rintro x w7 ⟨rfl, hb3⟩
          have HB7 := Lib.hid hb3
          clear hb3
          go_wp2_with fail
          refine (rdTake_any w7 O M R pb cap bd (readK hd bd k) ev iv (HL.out.next.1.quiet HB7.out) k c HC.out (HKI.out k hk)).mono ?_
          rintro x w8 ⟨rfl, hT⟩
          obtain ⟨O', ev', iv', h7⟩ := HL.out.took HB7.out (by rw [readK_succ HC.out, if_pos HCt.out]; exact hT)
          have h7i := h7.it
          have H7 := Lib.hid h7
          have H7i := Lib.hid h7i
          clear h7 h7i hT
          go_wp2
          go_roundw
          case rel => exact ⟨k + 1, O', ev', iv', by omega, H7.out⟩
          case measure => simp only [World.iterPos, H7i.out, HI.out]; omega
      · obtain rfl : k = 6 := by omega
        have hn := fun ty => run_next_done (P := Tryd.prog) ty HI.out (show orderL.length ≤ 6 by decide)
        have hd6 : DAt wr O M R (some ⟨pb, 0, none⟩) cap bd (readM hd bd).2 (readM hd bd).1 ev iv := HL.out.d
        have hk6 : KInv bd.length 6 (readM hd bd) := HKI.out 6 (Nat.le_refl 6)
        obtain ⟨m, hm⟩ : ∃ m, (readM hd bd).1 = m := ⟨_, rfl⟩
        obtain ⟨r, hr⟩ : ∃ r, (readM hd bd).2 = r := ⟨_, rfl⟩
        have hfit := hk6.fit
        have hel := hk6.elen
        have hil := hk6.ilen
        rw [hm] at hfit hel hil HRE hd6
        rw [hr] at HRE hd6
        clear hm hr hk6 HKI
        obtain ⟨pe, ec, rfl, _, _⟩ := hd6.ents.shape
        obtain ⟨pi, ic, rfl, _, _⟩ := hd6.items.shape
        have HD6 := Lib.hid hd6
        cases hb : r.bad
        · have HB := Lib.hid hb
          have c2 : wr.cell? ⟨R, 2, none⟩ = some (.bool false) := by rw [← hb]; exact cell_of_row _ _ _ _ _ _ hd6.rd.blk
          have HEn := Lib.hid (fun wx (hx : Below wr.heap.size wr wx) => encode_any m pe pi ec ic wx (HAA.out wx (HL.out.below.trans (hx.mono HL.out.below.size))) hfit (by omega) (by omega) (Own.row entC zeroEntry (fun _ => rfl) (hd6.ents.later hx)) (Own.row itemC zeroItem (fun _ => rfl) (hd6.items.later hx)))
          clear hb hd6 hfit hel hil
          go_wp2_with ((with_reducible show wpList _ _ _ (⟨some 84, .load 31 (.tmp 9), _, _, _, _⟩ :: _) _ _); refine wpList_load_row (o := ⟨some 84, .load 31 (.tmp 9), _, _, _, _⟩) rfl 31 _ rfl M rfl 31 (msgC m (.slice pe m.entries.length ec) (.slice pi m.items.length ic)) (0, 0) _ HD6.out.msg Tryd.underlying31 rfl msg_info ?_)
          refine (HEn.out _ (Below.refl _ _)).mono ?_
          rintro x w9 ⟨rfl, hb9⟩
          have HB9 := Lib.hid (HL.out.below.trans (hb9.mono HL.out.below.size))
          have HR9 := Lib.hid ((hb9.block _ (Array.getElem?_eq_some_iff.1 HL.out.res).1).trans HL.out.res)
          have HD9 := Lib.hid (HD6.out.quiet hb9)
          clear hb9 HEn c2 hn
          obtain ⟨px, hpx⟩ : ∃ x, m.enc.1 = x := ⟨_, rfl⟩
          obtain ⟨pn, hpn⟩ : ∃ x, m.enc.2 = x := ⟨_, rfl⟩
          rw [hpx, hpn]
          have HPe : Hid (m.enc = (px, pn)) := by show m.enc = _; rw [← hpx, ← hpn]
          clear hpx hpn
          by_cases hp0 : pn = 0
          · subst hp0
            cases hq : (px.toList == s.toList)
            · have HQ := Lib.hid hq
              go_wp2_with ((with_reducible show wpList _ _ _ (⟨none, .store 31 (.tmp 2) (.tmp 95), _, _, _, _⟩ :: _) _ _); refine wpList_store_row (op := ⟨none, .store 31 (.tmp 2) (.tmp 95), _, _, _, _⟩) rfl 31 _ _ rfl w.heap.size 31 (msgC zeroMsg (.slice none 0 0) (.slice none 0 0)) (msgC zeroMsg (.slice none 0 0) (.slice none 0 0)) rfl rfl HR9.out msg_info rfl (msgC_one _ _ _ _ _ _ _) ?_)
              refine bodyPost_ret (v := .tuple #[.agg (msgC zeroMsg (.slice none 0 0) (.slice none 0 0)), .int .i64 4]) ?_ rfl ?_
              · exact results_row2 2 31 3 rfl w.heap.size rfl _ rfl (msgC zeroMsg (.slice none 0 0) (.slice none 0 0)) 31 (0, 0) (setRow_heap w9 w.heap.size _ _ 31 (0, 0) HR9.out) _ Tryd.underlying31 rfl msg_info
              · rw [show RE = none by rw [HRE.out, if_neg (fun hc => by have h5 := hc.2; rw [HPe.out] at h5; simp only [Prod.mk.injEq, and_true] at h5; rw [h5, beq_self_eq_true] at hq; cases hq)]]
                exact DecRes.none rfl (HB9.out.trans (below_setRow _ _ _))
            · have HQ := Lib.hid hq
              have hps : px = s := by rw [Lib.toList_data, Lib.toList_data, beq_iff_eq] at hq; exact str_inj hq
              go_wp2_with (first | ((with_reducible show wpList _ _ _ (⟨some 96, .load 31 (.tmp 9), _, _, _, _⟩ :: _) _ _); refine wpList_load_row (o := ⟨some 96, .load 31 (.tmp 9), _, _, _, _⟩) rfl 31 _ rfl M rfl 31 (msgC m (.slice pe m.entries.length ec) (.slice pi m.items.length ic)) (0, 0) _ HD9.out.msg Tryd.underlying31 rfl msg_info ?_) | ((with_reducible show wpList _ _ _ (⟨none, .store 31 (.tmp 2) (.tmp 96), _, _, _, _⟩ :: _) _ _); refine wpList_store_row (op := ⟨none, .store 31 (.tmp 2) (.tmp 96), _, _, _, _⟩) rfl 31 _ _ rfl w.heap.size 31 (msgC zeroMsg (.slice none 0 0) (.slice none 0 0)) (msgC m (.slice pe m.entries.length ec) (.slice pi m.items.length ic)) rfl rfl HR9.out msg_info rfl (msgC_one _ _ _ _ _ _ _) ?_))
              refine bodyPost_ret (v := .tuple #[.agg (msgC m (.slice pe m.entries.length ec) (.slice pi m.items.length ic)), .int .i64 0]) ?_ rfl ?_
              · exact results_row2 2 31 3 rfl w.heap.size rfl _ rfl (msgC m (.slice pe m.entries.length ec) (.slice pi m.items.length ic)) 31 (0, 0) (setRow_heap w9 w.heap.size _ _ 31 (0, 0) HR9.out) _ Tryd.underlying31 rfl msg_info
              · rw [show RE = some m by rw [HRE.out, if_pos ⟨HB.out, by rw [HPe.out, hps]⟩]]
                have hF := HD9.out.off (X := only w.heap.size) (w' := w9.setRow w.heap.size (msgC m (.slice pe m.entries.length ec) (.slice pi m.items.length ic))) ⟨rfl, rfl, rfl, by simp [World.setRow], fun k _ hk => by simp only [World.setRow, Array.getElem?_modify]; rw [if_neg (fun e => hk e.symm)]⟩ (fun k hk => by rw [show k = w.heap.size from hk]; exact HL.out.ores) (fun a e hk => by obtain rfl := Option.some.inj e; exact HL.out.pg hk)
                exact ⟨pe, pi, ec, ic, rfl, Own.row entC zeroEntry (fun _ => rfl) hF.ents, Own.row itemC zeroItem (fun _ => rfl) hF.items, HB9.out.trans (below_setRow _ _ _)⟩
          · have hp1 : (pn != 0) = true := by simpa using hp0
            have HP0 := Lib.hid hp0
            clear hp0
            go_wp2_with ((with_reducible show wpList _ _ _ (⟨none, .store 31 (.tmp 2) (.tmp 95), _, _, _, _⟩ :: _) _ _); refine wpList_store_row (op := ⟨none, .store 31 (.tmp 2) (.tmp 95), _, _, _, _⟩) rfl 31 _ _ rfl w.heap.size 31 (msgC zeroMsg (.slice none 0 0) (.slice none 0 0)) (msgC zeroMsg (.slice none 0 0) (.slice none 0 0)) rfl rfl HR9.out msg_info rfl (msgC_one _ _ _ _ _ _ _) ?_)
            refine bodyPost_ret (v := .tuple #[.agg (msgC zeroMsg (.slice none 0 0) (.slice none 0 0)), .int .i64 4]) ?_ rfl ?_
            · exact results_row2 2 31 3 rfl w.heap.size rfl _ rfl (msgC zeroMsg (.slice none 0 0) (.slice none 0 0)) 31 (0, 0) (setRow_heap w9 w.heap.size _ _ 31 (0, 0) HR9.out) _ Tryd.underlying31 rfl msg_info
            · rw [show RE = none by rw [HRE.out, if_neg (fun hc => by have h5 := hc.2; rw [HPe.out] at h5; simp only [Prod.mk.injEq] at h5; exact HP0.out h5.2)]]
              exact DecRes.none rfl (HB9.out.trans (below_setRow _ _ _))
        · have HB := Lib.hid hb
          have c2 : wr.cell? ⟨R, 2, none⟩ = some (.bool true) := by rw [← hb]; exact cell_of_row _ _ _ _ _ _ hd6.rd.blk
          clear hb hd6 hfit hel hil
          go_wp2_with ((with_reducible show wpList _ _ _ (⟨none, .store 31 (.tmp 2) (.tmp 82), _, _, _, _⟩ :: _) _ _); refine wpList_store_row (op := ⟨none, .store 31 (.tmp 2) (.tmp 82), _, _, _, _⟩) rfl 31 _ _ rfl w.heap.size 31 (msgC zeroMsg (.slice none 0 0) (.slice none 0 0)) (msgC zeroMsg (.slice none 0 0) (.slice none 0 0)) rfl rfl HL.out.res msg_info rfl (msgC_one _ _ _ _ _ _ _) ?_)
          refine bodyPost_ret (v := .tuple #[.agg (msgC zeroMsg (.slice none 0 0) (.slice none 0 0)), .int .i64 4]) ?_ rfl ?_
          · exact results_row2 2 31 3 rfl w.heap.size rfl _ rfl (msgC zeroMsg (.slice none 0 0) (.slice none 0 0)) 31 (0, 0) (setRow_heap wr w.heap.size _ _ 31 (0, 0) HL.out.res) _ Tryd.underlying31 rfl msg_info
          · rw [show RE = none by rw [HRE.out, if_neg (fun hc => by have h5 := hc.1; rw [HB.out] at h5; cases h5)]]
            exact DecRes.none rfl (HL.out.below.trans (below_setRow _ _ _))
  · have HL3 : Hid (w.heap.size < w3.heap.size) := Nat.lt_of_lt_of_le hlt HB23.out
    go_wp2_with ((with_reducible show wpList _ _ _ (⟨none, .store 31 (.tmp 9) (.tmp 56), _, _, _, _⟩ :: _) _ _); refine wpList_store_new (op := ⟨none, .store 31 (.tmp 9) (.tmp 56), _, _, _, _⟩) rfl 31 _ _ rfl 31 w3.heap.size rfl _ (msgC (preM hd) (.slice none 0 0) (.slice none 0 0)) rfl rfl msg_info rfl (msgC_one _ _ _ _ _ _ _) ?_; intro w5 h4 hb4 hz4; have j0 : w5.cell? ⟨w3.heap.size, 0, none⟩ = some (.int .i64 hd.kind) := cell_of_row _ _ _ _ _ _ h4; have HB5 := Lib.hid (HB2.out.trans (hb4.mono HB2.out.size)); have HR5 := Lib.hid ((hb4.block _ (Array.getElem?_eq_some_iff.1 HR2.out).1).trans HR2.out); have HM5 : Hid (w5.heap[w3.heap.size]? = some (.cells (msgC (baseM hd) (.slice none 0 0) (.slice none 0 0)) 31 (0, 0))) := (by rw [← pre_else hd (fun e => by rw [e] at h13; cases h13)]; exact h4); clear h4 hb4 hz4)
    have hL := DLoop.start (hd := hd) (bd := bd) HM5.out HR5.out HB5.out HL3.out HBl.out
    simp only [World.size_alloc] at hL
    have HKI := Lib.hid (kinv_all hd bd (Nat.le_trans HBl.out (by omega)))
    have HAA : Hid (∀ wx, Below w.heap.size w wx → AllAt wx) := fun wx hb => AllAt.later HA.out hb
    have Hss : Hid (∀ c ∈ fieldsOf hd.kind, c.toNat < 128) := fun c h => fieldL_small (fieldsOf_mem h)
    clear kc
    generalize (Lib.bytesWorld w5 5 (str bd)).alloc (.cells #[.slice (some ⟨w5.heap.size, 0, none⟩) bd.length (grownCap w5 bd.length 0 5), .int .i64 0, .bool false] 95) = w6 at hL ⊢
    generalize (Lib.bytesWorld w5 5 (str bd)).heap.size = R at hL ⊢
    generalize grownCap w5 bd.length 0 5 = cap at hL ⊢
    generalize w5.heap.size = pb at hL ⊢
    generalize hMe : w3.heap.size = M at hL ⊢
    have HLs := Lib.hid hL
    clear hL
    go_loopw [] (fun wr => ∃ (k : Nat) (O : Nat → Prop) (ev iv : Value), k ≤ 6 ∧ DLoop w hd bd M R pb cap (R + 1) wr k O ev iv) (fun wr => 6 - wr.iterPos (R + 1))
    case atStart => exact ⟨0, _, _, _, by omega, HLs.out⟩
    case round =>
      obtain ⟨k, O, ev, iv, hk, hl⟩ := hrel
      have HL := Lib.hid hl
      have HI : Hid (wr.heap[(R + 1)]? = some (.stringIter (str orderL) k)) := hl.it
      clear hl HLs
      by_cases hlt6 : k < 6
      · obtain ⟨c, hc⟩ : ∃ c, orderL[k]? = some c := ⟨orderL[k]'(by simpa [orderL] using hlt6), List.getElem?_eq_getElem _⟩
        have hc128 : c.toNat < 128 := by
          have : ∀ c ∈ orderL, c.toNat < 128 := by decide
          exact this c (List.mem_of_getElem? hc)
        have hn := fun ty => run_next_at (P := Tryd.prog) ty HI.out hc hc128
        have HC := Lib.hid hc
        clear hc hc128
        cases hh : (fieldsOf hd.kind).contains c
        · have HCt := Lib.hid hh
          clear hh
          go_wp2_with fail
          refine (hasRune_any _ _ Hss.out _).mono ?_
          rw [HCt.out]
          rintro x w7 ⟨rfl, hb3⟩
          have HB7 := Lib.hid hb3
          clear hb3
          go_wp2_with fail
          obtain ⟨O', ev', iv', h7⟩ := HL.out.skip HB7.out (by rw [readK_succ HC.out, HCt.out]; rfl)
          have h7i := h7.it
          have H7 := Lib.hid h7
          have H7i := Lib.hid h7i
          clear h7 h7i
          go_roundw
          case rel => exact ⟨k + 1, O', ev', iv', by omega, H7.out⟩
          case measure => simp only [World.iterPos, H7i.out, HI.out]; omega
        · have HCt := Lib.hid hh
          clear hh
          go_wp2_with fail
          refine (hasRune_any _ _ Hss.out _).mono ?_
          rw [HCt.out]
          rintro x w7 ⟨rfl, hb3⟩
          have HB7 := Lib.hid hb3
          clear hb3
          go_wp2_with fail
          refine (rdTake_any w7 O M R pb cap bd (readK hd bd k) ev iv (HL.out.next.1.quiet HB7.out) k c HC.out (HKI.out k hk)).mono ?_
          rintro x w8 ⟨rfl, hT⟩
          obtain ⟨O', ev', iv', h7⟩ := HL.out.took HB7.out (by rw [readK_succ HC.out, if_pos HCt.out]; exact hT)
          have h7i := h7.it
          have H7 := Lib.hid h7
          have H7i := Lib.hid h7i
          clear h7 h7i hT
          go_wp2
          go_roundw
          case rel => exact ⟨k + 1, O', ev', iv', by omega, H7.out⟩
          case measure => simp only [World.iterPos, H7i.out, HI.out]; omega
      · obtain rfl : k = 6 := by omega
        have hn := fun ty => run_next_done (P := Tryd.prog) ty HI.out (show orderL.length ≤ 6 by decide)
        have hd6 : DAt wr O M R (some ⟨pb, 0, none⟩) cap bd (readM hd bd).2 (readM hd bd).1 ev iv := HL.out.d
        have hk6 : KInv bd.length 6 (readM hd bd) := HKI.out 6 (Nat.le_refl 6)
        obtain ⟨m, hm⟩ : ∃ m, (readM hd bd).1 = m := ⟨_, rfl⟩
        obtain ⟨r, hr⟩ : ∃ r, (readM hd bd).2 = r := ⟨_, rfl⟩
        have hfit := hk6.fit
        have hel := hk6.elen
        have hil := hk6.ilen
        rw [hm] at hfit hel hil HRE hd6
        rw [hr] at HRE hd6
        clear hm hr hk6 HKI
        obtain ⟨pe, ec, rfl, _, _⟩ := hd6.ents.shape
        obtain ⟨pi, ic, rfl, _, _⟩ := hd6.items.shape
        have HD6 := Lib.hid hd6
        cases hb : r.bad
        · have HB := Lib.hid hb
          have c2 : wr.cell? ⟨R, 2, none⟩ = some (.bool false) := by rw [← hb]; exact cell_of_row _ _ _ _ _ _ hd6.rd.blk
          have HEn := Lib.hid (fun wx (hx : Below wr.heap.size wr wx) => encode_any m pe pi ec ic wx (HAA.out wx (HL.out.below.trans (hx.mono HL.out.below.size))) hfit (by omega) (by omega) (Own.row entC zeroEntry (fun _ => rfl) (hd6.ents.later hx)) (Own.row itemC zeroItem (fun _ => rfl) (hd6.items.later hx)))
          clear hb hd6 hfit hel hil
          go_wp2_with ((with_reducible show wpList _ _ _ (⟨some 84, .load 31 (.tmp 9), _, _, _, _⟩ :: _) _ _); refine wpList_load_row (o := ⟨some 84, .load 31 (.tmp 9), _, _, _, _⟩) rfl 31 _ rfl M rfl 31 (msgC m (.slice pe m.entries.length ec) (.slice pi m.items.length ic)) (0, 0) _ HD6.out.msg Tryd.underlying31 rfl msg_info ?_)
          refine (HEn.out _ (Below.refl _ _)).mono ?_
          rintro x w9 ⟨rfl, hb9⟩
          have HB9 := Lib.hid (HL.out.below.trans (hb9.mono HL.out.below.size))
          have HR9 := Lib.hid ((hb9.block _ (Array.getElem?_eq_some_iff.1 HL.out.res).1).trans HL.out.res)
          have HD9 := Lib.hid (HD6.out.quiet hb9)
          clear hb9 HEn c2 hn
          obtain ⟨px, hpx⟩ : ∃ x, m.enc.1 = x := ⟨_, rfl⟩
          obtain ⟨pn, hpn⟩ : ∃ x, m.enc.2 = x := ⟨_, rfl⟩
          rw [hpx, hpn]
          have HPe : Hid (m.enc = (px, pn)) := by show m.enc = _; rw [← hpx, ← hpn]
          clear hpx hpn
          by_cases hp0 : pn = 0
          · subst hp0
            cases hq : (px.toList == s.toList)
            · have HQ := Lib.hid hq
              go_wp2_with ((with_reducible show wpList _ _ _ (⟨none, .store 31 (.tmp 2) (.tmp 95), _, _, _, _⟩ :: _) _ _); refine wpList_store_row (op := ⟨none, .store 31 (.tmp 2) (.tmp 95), _, _, _, _⟩) rfl 31 _ _ rfl w.heap.size 31 (msgC zeroMsg (.slice none 0 0) (.slice none 0 0)) (msgC zeroMsg (.slice none 0 0) (.slice none 0 0)) rfl rfl HR9.out msg_info rfl (msgC_one _ _ _ _ _ _ _) ?_)
              refine bodyPost_ret (v := .tuple #[.agg (msgC zeroMsg (.slice none 0 0) (.slice none 0 0)), .int .i64 4]) ?_ rfl ?_
              · exact results_row2 2 31 3 rfl w.heap.size rfl _ rfl (msgC zeroMsg (.slice none 0 0) (.slice none 0 0)) 31 (0, 0) (setRow_heap w9 w.heap.size _ _ 31 (0, 0) HR9.out) _ Tryd.underlying31 rfl msg_info
              · rw [show RE = none by rw [HRE.out, if_neg (fun hc => by have h5 := hc.2; rw [HPe.out] at h5; simp only [Prod.mk.injEq, and_true] at h5; rw [h5, beq_self_eq_true] at hq; cases hq)]]
                exact DecRes.none rfl (HB9.out.trans (below_setRow _ _ _))
            · have HQ := Lib.hid hq
              have hps : px = s := by rw [Lib.toList_data, Lib.toList_data, beq_iff_eq] at hq; exact str_inj hq
              go_wp2_with (first | ((with_reducible show wpList _ _ _ (⟨some 96, .load 31 (.tmp 9), _, _, _, _⟩ :: _) _ _); refine wpList_load_row (o := ⟨some 96, .load 31 (.tmp 9), _, _, _, _⟩) rfl 31 _ rfl M rfl 31 (msgC m (.slice pe m.entries.length ec) (.slice pi m.items.length ic)) (0, 0) _ HD9.out.msg Tryd.underlying31 rfl msg_info ?_) | ((with_reducible show wpList _ _ _ (⟨none, .store 31 (.tmp 2) (.tmp 96), _, _, _, _⟩ :: _) _ _); refine wpList_store_row (op := ⟨none, .store 31 (.tmp 2) (.tmp 96), _, _, _, _⟩) rfl 31 _ _ rfl w.heap.size 31 (msgC zeroMsg (.slice none 0 0) (.slice none 0 0)) (msgC m (.slice pe m.entries.length ec) (.slice pi m.items.length ic)) rfl rfl HR9.out msg_info rfl (msgC_one _ _ _ _ _ _ _) ?_))
              refine bodyPost_ret (v := .tuple #[.agg (msgC m (.slice pe m.entries.length ec) (.slice pi m.items.length ic)), .int .i64 0]) ?_ rfl ?_
              · exact results_row2 2 31 3 rfl w.heap.size rfl _ rfl (msgC m (.slice pe m.entries.length ec) (.slice pi m.items.length ic)) 31 (0, 0) (setRow_heap w9 w.heap.size _ _ 31 (0, 0) HR9.out) _ Tryd.underlying31 rfl msg_info
              · rw [show RE = some m by rw [HRE.out, if_pos ⟨HB.out, by rw [HPe.out, hps]⟩]]
                have hF := HD9.out.off (X := only w.heap.size) (w' := w9.setRow w.heap.size (msgC m (.slice pe m.entries.length ec) (.slice pi m.items.length ic))) ⟨rfl, rfl, rfl, by simp [World.setRow], fun k _ hk => by simp only [World.setRow, Array.getElem?_modify]; rw [if_neg (fun e => hk e.symm)]⟩ (fun k hk => by rw [show k = w.heap.size from hk]; exact HL.out.ores) (fun a e hk => by obtain rfl := Option.some.inj e; exact HL.out.pg hk)
                exact ⟨pe, pi, ec, ic, rfl, Own.row entC zeroEntry (fun _ => rfl) hF.ents, Own.row itemC zeroItem (fun _ => rfl) hF.items, HB9.out.trans (below_setRow _ _ _)⟩
          · have hp1 : (pn != 0) = true := by simpa using hp0
            have HP0 := Lib.hid hp0
            clear hp0
            go_wp2_with ((with_reducible show wpList _ _ _ (⟨none, .store 31 (.tmp 2) (.tmp 95), _, _, _, _⟩ :: _) _ _); refine wpList_store_row (op := ⟨none, .store 31 (.tmp 2) (.tmp 95), _, _, _, _⟩) rfl 31 _ _ rfl w.heap.size 31 (msgC zeroMsg (.slice none 0 0) (.slice none 0 0)) (msgC zeroMsg (.slice none 0 0) (.slice none 0 0)) rfl rfl HR9.out msg_info rfl (msgC_one _ _ _ _ _ _ _) ?_)
            refine bodyPost_ret (v := .tuple #[.agg (msgC zeroMsg (.slice none 0 0) (.slice none 0 0)), .int .i64 4]) ?_ rfl ?_
            · exact results_row2 2 31 3 rfl w.heap.size rfl _ rfl (msgC zeroMsg (.slice none 0 0) (.slice none 0 0)) 31 (0, 0) (setRow_heap w9 w.heap.size _ _ 31 (0, 0) HR9.out) _ Tryd.underlying31 rfl msg_info
            · rw [show RE = none by rw [HRE.out, if_neg (fun hc => by have h5 := hc.2; rw [HPe.out] at h5; simp only [Prod.mk.injEq] at h5; exact HP0.out h5.2)]]
              exact DecRes.none rfl (HB9.out.trans (below_setRow _ _ _))
        · have HB := Lib.hid hb
          have c2 : wr.cell? ⟨R, 2, none⟩ = some (.bool true) := by rw [← hb]; exact cell_of_row _ _ _ _ _ _ hd6.rd.blk
          clear hb hd6 hfit hel hil
          go_wp2_with ((with_reducible show wpList _ _ _ (⟨none, .store 31 (.tmp 2) (.tmp 82), _, _, _, _⟩ :: _) _ _); refine wpList_store_row (op := ⟨none, .store 31 (.tmp 2) (.tmp 82), _, _, _, _⟩) rfl 31 _ _ rfl w.heap.size 31 (msgC zeroMsg (.slice none 0 0) (.slice none 0 0)) (msgC zeroMsg (.slice none 0 0) (.slice none 0 0)) rfl rfl HL.out.res msg_info rfl (msgC_one _ _ _ _ _ _ _) ?_)
          refine bodyPost_ret (v := .tuple #[.agg (msgC zeroMsg (.slice none 0 0) (.slice none 0 0)), .int .i64 4]) ?_ rfl ?_
          · exact results_row2 2 31 3 rfl w.heap.size rfl _ rfl (msgC zeroMsg (.slice none 0 0) (.slice none 0 0)) 31 (0, 0) (setRow_heap wr w.heap.size _ _ 31 (0, 0) HL.out.res) _ Tryd.underlying31 rfl msg_info
          · rw [show RE = none by rw [HRE.out, if_neg (fun hc => by have h5 := hc.1; rw [HB.out] at h5; cases h5)]]
            exact DecRes.none rfl (HL.out.below.trans (below_setRow _ _ _))

theorem decode_any (s : ByteArray) (hs : s.size ≤ maxLen) (w : World) (ha : AllAt w) : Calls Tryd.prog 23 #[.string s] w fun x w' => DecRes (decM s.data.toList) x w w' := by
  cases hu : unpackH s.data.toList with
  | none =>
    have e : decM s.data.toList = none := by rw [decM, hu]
    rw [e]
    exact decode_no s hs zeroHead [] 4 (by rw [hu]; rfl) (.inl (by decide)) w
  | some x =>
    obtain ⟨h, b⟩ := x
    by_cases h1 : 1 ≤ h.kind
    · by_cases h2 : h.kind ≤ 16
      · exact decode_yes s hs h b hu h1 h2 w ha
      · have e : decM s.data.toList = none := by
          rw [decM, hu]
          simp only [h2, false_and, and_false, if_false]
        rw [e]
        exact decode_no s hs h b 0 (by rw [hu]; rfl) (.inr (by omega)) w
    · have e : decM s.data.toList = none := by
        rw [decM, hu]
        simp only [h1, false_and, if_false]
      rw [e]
      exact decode_no s hs h b 0 (by rw [hu]; rfl) (.inl (by omega)) w

end Go.Proofs.YtmidfknlmjgjpaaDoor
