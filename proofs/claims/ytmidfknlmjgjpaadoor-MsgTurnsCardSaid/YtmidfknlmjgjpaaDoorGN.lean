/- The reader of a body: its words; the walks of its eight and its one. The walk of the reader's entry. The walk of the reader's item. -/
import Derived.Test.YtmidfknlmjgjpaaDoorGM
import Derived.Test.YtmidfknlmjgjpaaDoorKRow2
import Derived.Deep.RegionHeld3
import Derived.Test.YtmidfknlmjgjpaaDoorGL
namespace Go.Proofs.YtmidfknlmjgjpaaDoor
open Go.RowKit

/-- A reader in a block. -/
structure RAt (w : World) (R : Nat) (p : Option Addr) (cap : Nat) (l : List UInt8) (r : Rd) : Prop where
  blk : w.heap[R]? = some (.cells #[.slice p l.length cap, .int .i64 r.pos, .bool r.bad] 95 (0, 0))
  bytes : Lib.HoldsBytes w (.slice p l.length cap) l
  le : l.length ≤ cap
  max : cap ≤ maxLen
  len : l.length ≤ 100000
  off : ∀ a, p = some a → a.block ≠ R
  low : ∀ a, p = some a → a.block < w.heap.size

theorem RAt.lt {w : World} {R : Nat} {p : Option Addr} {cap : Nat} {l : List UInt8} {r : Rd} (h : RAt w R p cap l r) : R < w.heap.size := (Array.getElem?_eq_some_iff.1 h.blk).1

theorem HoldsBytes.off {w w' : World} {R : Nat} {O : Nat → Prop} {p : Option Addr} {n cap : Nat} {l : List UInt8} (h : Lib.HoldsBytes w (.slice p n cap) l) (hf : Off O w w') (ho : ∀ a, p = some a → ¬ O a.block) : Lib.HoldsBytes w' (.slice p n cap) l := by
  obtain ⟨p', cap', e', hnil, hc⟩ := h
  simp only [Value.slice.injEq] at e'
  obtain ⟨rfl, hn, rfl⟩ := e'
  subst hn
  refine ⟨p, cap, rfl, hnil, fun a e i x hx => ?_⟩
  have h1 := hc a e i x hx
  have h2 : (a.add i).block = a.block := by unfold Addr.add; split <;> rfl
  rw [World.cell?_of_block (w := w) (a := a.add i) (hf.block _ (World.block_lt_of_cell? _ _ h1) (by rw [h2]; exact ho a e))]
  exact h1

/-- Its own block alone has turned. -/
theorem RAt.upd {w w' : World} {R : Nat} {O : Nat → Prop} {p : Option Addr} {cap : Nat} {l : List UInt8} {r r' : Rd} (h : RAt w R p cap l r) (hf : Off O w w') (ho : ∀ a, p = some a → ¬ O a.block)
    (hb : w'.heap[R]? = some (.cells #[.slice p l.length cap, .int .i64 r'.pos, .bool r'.bad] 95 (0, 0))) : RAt w' R p cap l r' where
  blk := hb
  bytes := HoldsBytes.off (R := R) h.bytes hf ho
  le := h.le
  max := h.max
  len := h.len
  off := h.off
  low := fun a e => Nat.lt_of_lt_of_le (h.low a e) hf.size

theorem RAt.later {w w' : World} {R : Nat} {O : Nat → Prop} {p : Option Addr} {cap : Nat} {l : List UInt8} {r : Rd} (h : RAt w R p cap l r) (hf : Off O w w') (hR : ¬ O R) (ho : ∀ a, p = some a → ¬ O a.block) : RAt w' R p cap l r :=
  h.upd hf ho ((hf.block R h.lt hR).trans h.blk)


/-- Behind a call that turns nothing, and two stores. -/
theorem RAt.stored {w w1 : World} {R : Nat} {p : Option Addr} {cap : Nat} {l : List UInt8} {r : Rd} (h : RAt w R p cap l r) (hb : Below w.heap.size w w1) (b : Bool) (n : Nat) :
    RAt ((w1.setCell ⟨R, 2, none⟩ (.bool b)).setCell ⟨R, 1, none⟩ (.int .i64 n)) R p cap l ⟨n, b⟩ ∧ Off (only R) w ((w1.setCell ⟨R, 2, none⟩ (.bool b)).setCell ⟨R, 1, none⟩ (.int .i64 n)) := by
  have hf : Off (only R) w ((w1.setCell ⟨R, 2, none⟩ (.bool b)).setCell ⟨R, 1, none⟩ (.int .i64 n)) :=
    ((Off.of_below hb).trans (Off.set (O := only R) (b := R) w1 2 _ rfl) (fun _ h => .inl h)).trans (Off.set (O := only R) (b := R) _ 1 _ rfl) (fun _ h => .inl h)
  refine ⟨h.upd hf (fun a e hk => h.off a e hk) ?_, hf⟩
  have h1 := set_block 1 (.int .i64 n) (set_block 2 (.bool b) ((hb.block R h.lt).trans h.blk))
  simpa using h1


set_option maxRecDepth 100000 in
set_option maxHeartbeats 4000000 in
theorem rdEight_any (R : Nat) (p : Option Addr) (cap : Nat) (l : List UInt8) (r : Rd) (hp : r.pos ≤ 1000000) (w : World) (h : RAt w R p cap l r) :
    Calls Tryd.prog 78 #[.pointer (some ⟨R, 0, none⟩)] w fun x w' => x = .returned (.int .u64 ((rdNum l 8 r).1 : Nat)) ∧ RAt w' R p cap l (rdNum l 8 r).2 ∧ Off (only R) w w' := by
  have HR := Lib.hid h
  have hlen := h.len
  have HT := Lib.hid (fun wx hb => take_any p cap l r.pos 8 (by omega) wx (HoldsBytes.later h.bytes hb) h.le h.max (by omega) (by omega))
  have herr := takeN_err l r.pos 8
  have c0 : w.cell? ⟨R, 0, none⟩ = some (.slice p l.length cap) := cell_of_row _ _ _ _ _ _ h.blk
  have c1 : w.cell? ⟨R, 1, none⟩ = some (.int .i64 r.pos) := cell_of_row _ _ _ _ _ _ h.blk
  have hlt := h.lt
  unfold rdNum
  obtain ⟨n, hn⟩ : ∃ n, (takeN l r.pos 8).1 = n := ⟨_, rfl⟩
  obtain ⟨e, he⟩ : ∃ e, (takeN l r.pos 8).2 = e := ⟨_, rfl⟩
  rw [hn, he] at HT ⊢
  rw [he] at herr
  obtain ⟨q, bad⟩ := r
  simp only at c1 HT hp ⊢
  clear h hn he
  have hq : IntKind.i64.wrap ((q : Int) + 8) = ((q + 8 : Nat) : Int) := by rw [wrap_i64_small (by omega) (by omega)]; simp
  rcases herr with rfl | rfl <;> cases bad
  all_goals
    go_enter Tryd.func78, Tryd.ntmps78
    go_wp2_with fail
    go_region_held3 (fun w' => w'.cell? ⟨R, 0, none⟩ = some (.slice p l.length cap) ∧ w'.cell? ⟨R, 1, none⟩ = some (.int .i64 q))
      (first | go_keep | (exact hS2))
      (first
        | (go_at_call 77; refine (HT.out _ (below_drewN (Below.refl _ _) 1)).mono ?_; rintro x w1 ⟨rfl, hb1⟩; have hS2 : w1.cell? ⟨R, 0, none⟩ = some (.slice p l.length cap) ∧ w1.cell? ⟨R, 1, none⟩ = some (.int .i64 q) := ⟨by rw [hb1.cell (by simpa using hlt)]; simpa using c0, by rw [hb1.cell (by simpa using hlt)]; simpa using c1⟩))
    have hb2 : Below w.heap.size w w1 := (below_drewN (Below.refl _ _) 1).trans (hb1.mono (by simp))
    have HB := Lib.hid hb2
    have k1 := (hb2.cell (p := ⟨R, 1, none⟩) hlt).trans c1
    have k2 : w1.cell? ⟨R, 2, none⟩ = _ := (hb2.cell (p := ⟨R, 2, none⟩) hlt).trans (cell_of_row _ _ _ _ _ _ HR.out.blk)
    have z1 : w1.frozen? ⟨R, 1, none⟩ = false := (hb2.frozen (p := ⟨R, 1, none⟩) hlt).trans (frozen_of_row HR.out.blk 1)
    have z2 : w1.frozen? ⟨R, 2, none⟩ = false := (hb2.frozen (p := ⟨R, 2, none⟩) hlt).trans (frozen_of_row HR.out.blk 2)
    clear hb1 hb2 hS2 c0 c1
    go_wp2
    go_ret
    exact ⟨rfl, HR.out.stored HB.out _ _⟩


theorem takeN1_lt (l : List UInt8) (at_ : Nat) : (takeN l at_ 1).1 < 256 := by
  unfold takeN
  split
  · have h1 := Pl.getLE_lt ((l.drop at_).take 1)
    have h2 : ((l.drop at_).take 1).length ≤ 1 := by rw [List.length_take]; omega
    have h3 : (256 : Nat) ^ ((l.drop at_).take 1).length ≤ 256 ^ 1 := Nat.pow_le_pow_right (by omega) h2
    show Pl.getLE _ < _
    omega
  · show 0 < 256; omega

set_option maxRecDepth 100000 in
set_option maxHeartbeats 4000000 in
theorem rdOne_any (R : Nat) (p : Option Addr) (cap : Nat) (l : List UInt8) (r : Rd) (hp : r.pos ≤ 1000000) (w : World) (h : RAt w R p cap l r) :
    Calls Tryd.prog 80 #[.pointer (some ⟨R, 0, none⟩)] w fun x w' => x = .returned (.int .i64 ((rdNum l 1 r).1 : Nat)) ∧ RAt w' R p cap l (rdNum l 1 r).2 ∧ Off (only R) w w' := by
  have HR := Lib.hid h
  have hlen := h.len
  have HT := Lib.hid (fun wx hb => take_any p cap l r.pos 1 (by omega) wx (HoldsBytes.later h.bytes hb) h.le h.max (by omega) (by omega))
  have herr := takeN_err l r.pos 1
  have c0 : w.cell? ⟨R, 0, none⟩ = some (.slice p l.length cap) := cell_of_row _ _ _ _ _ _ h.blk
  have c1 : w.cell? ⟨R, 1, none⟩ = some (.int .i64 r.pos) := cell_of_row _ _ _ _ _ _ h.blk
  have hlt := h.lt
  unfold rdNum
  obtain ⟨n, hn⟩ : ∃ n, (takeN l r.pos 1).1 = n := ⟨_, rfl⟩
  obtain ⟨e, he⟩ : ∃ e, (takeN l r.pos 1).2 = e := ⟨_, rfl⟩
  have hn2 : n < 256 := by rw [← hn]; exact takeN1_lt l r.pos
  have hw : IntKind.i64.wrap (n : Int) = (n : Int) := wrap_i64_small (by omega) (by omega)
  rw [hn, he] at HT ⊢
  rw [he] at herr
  obtain ⟨q, bad⟩ := r
  simp only at c1 HT hp ⊢
  clear h hn he
  have hq : IntKind.i64.wrap ((q : Int) + 1) = ((q + 1 : Nat) : Int) := by rw [wrap_i64_small (by omega) (by omega)]; simp
  rcases herr with rfl | rfl <;> cases bad
  all_goals
    go_enter Tryd.func80, Tryd.ntmps80
    go_wp2_with fail
    go_region_held3 (fun w' => w'.cell? ⟨R, 0, none⟩ = some (.slice p l.length cap) ∧ w'.cell? ⟨R, 1, none⟩ = some (.int .i64 q))
      (first | go_keep | (exact hS2))
      (first
        | (go_at_call 77; refine (HT.out _ (below_drewN (Below.refl _ _) 1)).mono ?_; rintro x w1 ⟨rfl, hb1⟩; have hS2 : w1.cell? ⟨R, 0, none⟩ = some (.slice p l.length cap) ∧ w1.cell? ⟨R, 1, none⟩ = some (.int .i64 q) := ⟨by rw [hb1.cell (by simpa using hlt)]; simpa using c0, by rw [hb1.cell (by simpa using hlt)]; simpa using c1⟩))
    have hb2 : Below w.heap.size w w1 := (below_drewN (Below.refl _ _) 1).trans (hb1.mono (by simp))
    have HB := Lib.hid hb2
    have k1 := (hb2.cell (p := ⟨R, 1, none⟩) hlt).trans c1
    have k2 : w1.cell? ⟨R, 2, none⟩ = _ := (hb2.cell (p := ⟨R, 2, none⟩) hlt).trans (cell_of_row _ _ _ _ _ _ HR.out.blk)
    have z1 : w1.frozen? ⟨R, 1, none⟩ = false := (hb2.frozen (p := ⟨R, 1, none⟩) hlt).trans (frozen_of_row HR.out.blk 1)
    have z2 : w1.frozen? ⟨R, 2, none⟩ = false := (hb2.frozen (p := ⟨R, 2, none⟩) hlt).trans (frozen_of_row HR.out.blk 2)
    clear hb1 hb2 hS2 c0 c1
    go_wp2
    go_ret
    exact ⟨rfl, HR.out.stored HB.out _ _⟩

theorem two_sets (w : World) {R g : Nat} (hne : g ≠ R) (o1 o2 : Nat) (v1 v2 : Value) : ((w.setCell ⟨R, o1, none⟩ v1).setCell ⟨R, o2, none⟩ v2).heap[g]? = w.heap[g]? := by
  rw [Below.heap_setCell _ _ _ _ (fun e => hne e), Below.heap_setCell _ _ _ _ (fun e => hne e)]

/-- A struct laid into the block that was made last: the world behind it. -/
theorem wpList_store_new {P : Program} {ops : Array Oper} {rest : List Oper} {op : Oper} {a : Act} {w : World} {Q : Exit → Act → World → Prop} (hgd : op.guard = none) (ty : TypeId) (x y : Operand) (ho : op.op = .store ty x y)
    (t g : Nat) (hg : w.heap.size = g) (old cells : Array Value) (hx : a.eval x = .pointer (some ⟨g, 0, none⟩)) (hy : a.eval y = .agg cells)
    (hi : (P.info? ty).map (·.size) = some cells.size) (hs : old.size = cells.size) (h1 : cells.all (·.oneCell') = true)
    (h : ∀ w', w'.heap[g]? = some (.cells cells t (0, 0)) → Below w.heap.size w w' → w'.heap.size = g + 1 → wpList P ops Q rest (a.put op.dst undef) w') : wpList P ops Q (op :: rest) a (w.alloc (.cells old t)) :=
  wpList_store_alloc hgd ty x y ho t g hg old cells hx hy hi hs h1 (h _ (by subst hg; exact heap_alloc_new w _) ((Below.refl _ _).alloc (Nat.le_refl _) _) (by simp [hg]))

theorem RAt.stored2 {w w3 : World} {R G : Nat} {p : Option Addr} {cap : Nat} {l : List UInt8} {r : Rd} (h : RAt w R p cap l r) (hb : Below w.heap.size w w3) (hG : w.heap.size ≤ G) (b : Bool) (n : Nat) (cs : Array Value) :
    RAt (((w3.setCell ⟨R, 2, none⟩ (.bool b)).setCell ⟨R, 1, none⟩ (.int .i64 n)).setRow G cs) R p cap l ⟨n, b⟩ ∧ Off (only R) w (((w3.setCell ⟨R, 2, none⟩ (.bool b)).setCell ⟨R, 1, none⟩ (.int .i64 n)).setRow G cs) := by
  obtain ⟨h1, h2⟩ := h.stored hb b n
  have h3 : Off (only G) ((w3.setCell ⟨R, 2, none⟩ (.bool b)).setCell ⟨R, 1, none⟩ (.int .i64 n)) (((w3.setCell ⟨R, 2, none⟩ (.bool b)).setCell ⟨R, 1, none⟩ (.int .i64 n)).setRow G cs) :=
    ⟨rfl, rfl, rfl, by simp [World.setRow], fun k _ hk => by simp only [World.setRow, Array.getElem?_modify]; rw [if_neg (fun e => hk e.symm)]⟩
  have hf := h2.trans h3 (fun k hk => .inr (by rw [hk]; exact hG))
  have hlt := h.lt
  exact ⟨h.upd hf (fun a e hk => h.off a e hk) ((h3.block R (h1.lt) (by show R ≠ G; omega)).trans h1.blk), hf⟩

theorem unpackE_any (s : ByteArray) (hs : s.size ≤ maxLen) (w : World) :
    Calls Tryd.prog 106 #[.string s] w fun e w' => e = .returned (unpERes (unpackE s.data.toList)) ∧ Below w.heap.size w w' := by
  cases hu : unpackH s.data.toList with
  | none => exact unpackE_none s hs hu w
  | some x => exact unpackE_some s hs x.1 x.2 hu w

theorem unpERes_eq (r : Option Entry) : unpERes r = .tuple #[.agg (entC (r.getD zeroEntry)), .int .i64 (if r.isNone = true then 4 else 0)] := by cases r <;> rfl

theorem takeT_len (l : List UInt8) (at_ most : Nat) : (takeT l at_ most).1.length ≤ l.length ∧ (takeT l at_ most).2.1 ≤ l.length := by
  unfold takeT
  split
  · simp
  · split
    · simp
    · split
      · simp
      · rename_i h1 h2 h3
        have e0 : (takeN l at_ 2).2 = 0 := by simpa using h1
        obtain ⟨o1, o2, _⟩ := takeN_ok e0
        refine ⟨by simp only [List.length_take, List.length_drop]; omega, ?_⟩
        show at_ + 2 + _ ≤ _
        omega

theorem takeT_err (l : List UInt8) (at_ most : Nat) : (takeT l at_ most).2.2 = 0 ∨ (takeT l at_ most).2.2 = 3 ∨ (takeT l at_ most).2.2 = 5 := by
  have := takeN_err l at_ 2
  unfold takeT
  split
  · show (takeN l at_ 2).2 = 0 ∨ (takeN l at_ 2).2 = 3 ∨ (takeN l at_ 2).2 = 5
    omega
  · split
    · exact .inr (.inr rfl)
    · split
      · exact .inr (.inl rfl)
      · exact .inl rfl

set_option maxRecDepth 100000 in
set_option maxHeartbeats 4000000 in
theorem rdEntry_any (R : Nat) (p : Option Addr) (cap : Nat) (l : List UInt8) (r : Rd) (hp : r.pos ≤ 1000000) (w : World) (h : RAt w R p cap l r) :
    Calls Tryd.prog 79 #[.pointer (some ⟨R, 0, none⟩)] w fun x w' => x = .returned (.agg (entC (rdEntry l r).1)) ∧ RAt w' R p cap l (rdEntry l r).2 ∧ Off (only R) w w' := by
  have HR := Lib.hid h
  have hlen := h.len
  have htl := takeT_len l r.pos 4096
  have HT := Lib.hid (fun wx hb => takeText_any p cap l r.pos 4096 (by omega) wx (HoldsBytes.later h.bytes hb) h.le h.max (by omega) (by omega))
  have herr := takeT_err l r.pos 4096
  have c0 : w.cell? ⟨R, 0, none⟩ = some (.slice p l.length cap) := cell_of_row _ _ _ _ _ _ h.blk
  have c1 : w.cell? ⟨R, 1, none⟩ = some (.int .i64 r.pos) := cell_of_row _ _ _ _ _ _ h.blk
  have hlt := h.lt
  unfold rdEntry
  obtain ⟨s, hs⟩ : ∃ s, (takeT l r.pos 4096).1 = s := ⟨_, rfl⟩
  obtain ⟨n, hn⟩ : ∃ n, (takeT l r.pos 4096).2.1 = n := ⟨_, rfl⟩
  obtain ⟨e, he⟩ : ∃ e, (takeT l r.pos 4096).2.2 = e := ⟨_, rfl⟩
  rw [hs, hn, he] at HT ⊢
  rw [he] at herr
  rw [hs, hn] at htl
  have hU := fun wx => unpackE_any (str s) (by rw [str_size]; simp only [maxLen]; omega) wx
  rw [str_data, unpERes_eq] at hU
  obtain ⟨u, hu⟩ : ∃ u, (unpackE s).getD zeroEntry = u := ⟨_, rfl⟩
  obtain ⟨z, hz⟩ : ∃ z, (unpackE s).isNone = z := ⟨_, rfl⟩
  rw [hu, hz] at hU
  rw [hu, hz]
  have HU := Lib.hid hU
  obtain ⟨q, bad⟩ := r
  simp only at c1 HT hp ⊢
  have hne : R ≠ w.heap.size := by omega
  clear h hn he hs hu hz hU htl
  cases bad
  rcases herr with rfl | rfl | rfl
  cases z
  all_goals
    go_enter Tryd.func79, Tryd.ntmps79
    go_wp2_with fail
    go_region_held3 (fun w' => w'.cell? ⟨R, 0, none⟩ = some (.slice p l.length cap) ∧ w'.cell? ⟨R, 1, none⟩ = some (.int .i64 q))
      (first | go_keep | (exact hS2))
      (first
        | (go_at_call 105; refine (HT.out _ (below_drewN ((Below.refl _ _).alloc (Nat.le_refl _) _) 1)).mono ?_; rintro x w1 ⟨rfl, hb1⟩; have hS2 : w1.cell? ⟨R, 0, none⟩ = some (.slice p l.length cap) ∧ w1.cell? ⟨R, 1, none⟩ = some (.int .i64 q) := ⟨by rw [hb1.cell (by simp; omega)]; exact (World.cell?_alloc_lt w _ _ hlt).trans c0, by rw [hb1.cell (by simp; omega)]; exact (World.cell?_alloc_lt w _ _ hlt).trans c1⟩))
    have hb2 : Below w.heap.size w w1 := (below_drewN ((Below.refl _ _).alloc (Nat.le_refl _) _) 1).trans (hb1.mono (by simp))
    have HB1 := Lib.hid hb2
    have HRes := Lib.hid ((hb1.block w.heap.size (by simp)).trans (heap_alloc_new w (.cells (entC zeroEntry) 27)))
    clear hb1 hb2 hS2 c0 c1
    go_wp2_with (first
      | (go_at_call 106; refine (HU.out _).mono ?_; rintro x w2 ⟨rfl, hb2⟩; have HB2 := Lib.hid hb2; clear hb2)
      | ((with_reducible show wpList _ _ _ (⟨none, .store 27 (.tmp 6) (.tmp 24), _, _, _, _⟩ :: _) _ _); refine wpList_store_new (op := ⟨none, .store 27 (.tmp 6) (.tmp 24), _, _, _, _⟩) rfl 27 _ _ rfl 27 w2.heap.size rfl _ (entC u) rfl rfl ent_info rfl (ent_one _) ?_; intro w3 h3 hb3 hz3; have HN3 := Lib.hid h3; have HB3 := Lib.hid (HB1.out.trans ((HB2.out.mono HB1.out.size).trans (hb3.mono (Nat.le_trans HB1.out.size HB2.out.size)))); have HRes3 := Lib.hid ((((HB2.out.trans (hb3.mono HB2.out.size)).block w.heap.size (Array.getElem?_eq_some_iff.1 HRes.out).1)).trans HRes.out); have hg2 : w.heap.size < w2.heap.size := Nat.lt_of_lt_of_le (Array.getElem?_eq_some_iff.1 HRes.out).1 HB2.out.size; have hneA : w2.heap.size ≠ R := Nat.ne_of_gt (Nat.lt_trans hlt hg2); have hneB : w.heap.size ≠ R := Nat.ne_of_gt hlt; have k1 := (HB3.out.cell (p := ⟨R, 1, none⟩) hlt).trans (cell_of_row _ _ _ _ _ _ HR.out.blk); have k2 : w3.cell? ⟨R, 2, none⟩ = _ := (HB3.out.cell (p := ⟨R, 2, none⟩) hlt).trans (cell_of_row _ _ _ _ _ _ HR.out.blk); have z1 : w3.frozen? ⟨R, 1, none⟩ = false := (HB3.out.frozen (p := ⟨R, 1, none⟩) hlt).trans (frozen_of_row HR.out.blk 1); have z2 : w3.frozen? ⟨R, 2, none⟩ = false := (HB3.out.frozen (p := ⟨R, 2, none⟩) hlt).trans (frozen_of_row HR.out.blk 2); clear h3 hb3 hz3)
      | ((with_reducible show wpList _ _ _ (⟨some 45, .load 27 (.tmp 6), _, _, _, _⟩ :: _) _ _); refine wpList_load_row (o := ⟨some 45, .load 27 (.tmp 6), _, _, _, _⟩) rfl 27 _ rfl w2.heap.size rfl 27 (entC u) (0, 0) _ ((two_sets _ hneA _ _ _ _).trans HN3.out) Tryd.underlying27 rfl ent_info ?_)
      | ((with_reducible show wpList _ _ _ (⟨none, .store 27 (.tmp 2) (.tmp 45), _, _, _, _⟩ :: _) _ _); refine wpList_store_row (op := ⟨none, .store 27 (.tmp 2) (.tmp 45), _, _, _, _⟩) rfl 27 _ _ rfl w.heap.size 27 (entC zeroEntry) (entC u) rfl rfl ((two_sets _ hneB _ _ _ _).trans HRes3.out) ent_info rfl (ent_one _) ?_))
    all_goals
      refine bodyPost_ret (v := .agg (entC u)) ?_ rfl ?_
      · exact results_row1 2 27 rfl w.heap.size rfl (entC u) 27 (0, 0) (setRow_heap _ w.heap.size (entC zeroEntry) (entC u) 27 (0, 0) ((two_sets _ hneB _ _ _ _).trans HRes3.out)) _ Tryd.underlying27 rfl ent_info
      · exact ⟨rfl, HR.out.stored2 HB3.out (Nat.le_refl _) _ _ _⟩

theorem unpackH_some {s : List UInt8} {h : Head} {b : List UInt8} (hu : unpackH s = some (h, b)) : h = headOf s ∧ b = s.drop 128 ∧ b.length ≤ 3968 := by
  unfold unpackH at hu
  split at hu
  · rename_i hc
    simp only [Option.some.injEq, Prod.mk.injEq] at hu
    refine ⟨hu.1.symm, hu.2.symm, ?_⟩
    rw [← hu.2, List.length_drop]; exact hc.2.2.1
  · cases hu

theorem i64_range (n : Nat) : -9223372036854775808 ≤ i64 n ∧ i64 n ≤ 9223372036854775807 := by
  unfold i64 wrap64; omega

theorem zeroEntry_fit : zeroEntry.fit := ⟨⟨⟨by decide, by decide⟩, by decide⟩, by decide⟩

theorem unpackE_fit {s : List UInt8} {e : Entry} (h : unpackE s = some e) : e.fit := by
  unfold unpackE at h
  split at h
  · cases h
  · rename_i x hd b hu
    obtain ⟨h1, h2, h3⟩ := unpackH_some hu
    split at h
    · obtain rfl := Option.some.inj h
      subst h1
      refine ⟨⟨⟨Int.natCast_nonneg _, parent_lt s⟩, ?_⟩, ?_⟩
      · show (str b).size ≤ _
        rw [str_size]; simp only [maxLen]; omega
      · intro x hx
        simp only [entOf, headOf, numAt, List.mem_cons, List.not_mem_nil, or_false] at hx
        rcases hx with rfl | rfl | rfl | rfl | rfl | rfl | rfl
        all_goals first | exact i64_range _ | (have := (s.getD 10 0).toNat_lt; omega)
    · cases h

theorem rdEntry_fit (l : List UInt8) (r : Rd) : (rdEntry l r).1.fit := by
  unfold rdEntry
  cases h : unpackE (takeT l r.pos 4096).1 with
  | none => exact zeroEntry_fit
  | some e => exact unpackE_fit h

theorem rdEntry_pos (l : List UInt8) (r : Rd) : (rdEntry l r).2.pos ≤ l.length := (takeT_len l r.pos 4096).2

theorem setL_ent (t : Item) (e : Entry) : setL (itemC t) 6 (entC e).toList = itemC { t with entry := e } := by
  simp only [setL, itemC, entC, List.setIfInBounds_toArray, List.set_cons_zero, List.set_cons_succ]
theorem setL_stub (t : Item) (s : Stub) : setL (itemC t) 1 (stubC s).toList = itemC { t with stub := s } := by
  simp only [setL, itemC, stubC, List.setIfInBounds_toArray, List.set_cons_zero, List.set_cons_succ]

theorem item_info : (Tryd.prog.info? 68).map (·.size) = some 15 := by kernel_rfl
theorem stub_info : (Tryd.prog.info? 66).map (·.size) = some 5 := by kernel_rfl

/-- What stands beside the reader while an item is read: the result's block, the item's own. -/
structure IW (w : World) (R : Nat) (p : Option Addr) (cap : Nat) (l : List UInt8) (X : Nat) (wx : World) (r : Rd) (t : Item) : Prop where
  rd : RAt wx R p cap l r
  res : wx.heap[w.heap.size]? = some (.cells (itemC zeroItem) 68 (0, 0))
  own : wx.heap[X]? = some (.cells (itemC t) 68 (0, 0))
  off : Off (only R) w wx
  lt : w.heap.size < X
  rlt : R < w.heap.size

theorem IW.call {w : World} {R : Nat} {p : Option Addr} {cap : Nat} {l : List UInt8} {X : Nat} {wx wy : World} {r r' : Rd} {t : Item} (h : IW w R p cap l X wx r t) (hr : RAt wy R p cap l r') (ho : Off (only R) wx wy) : IW w R p cap l X wy r' t where
  rd := hr
  res := (ho.block _ (Array.getElem?_eq_some_iff.1 h.res).1 (by have := h.rlt; show _ ≠ R; omega)).trans h.res
  own := (ho.block _ (Array.getElem?_eq_some_iff.1 h.own).1 (by have := h.rlt; have := h.lt; show X ≠ R; omega)).trans h.own
  off := h.off.trans ho (fun _ hk => .inl hk)
  lt := h.lt
  rlt := h.rlt

theorem IW.quiet {w : World} {R : Nat} {p : Option Addr} {cap : Nat} {l : List UInt8} {X : Nat} {wx wy : World} {r : Rd} {t : Item} (h : IW w R p cap l X wx r t) (hb : Below wx.heap.size wx wy) : IW w R p cap l X wy r t :=
  h.call (h.rd.later (O := fun _ => False) (Off.of_below hb) (fun h => h) (fun _ _ h => h)) (Off.of_below hb)

theorem IW.set {w : World} {R : Nat} {p : Option Addr} {cap : Nat} {l : List UInt8} {X : Nat} {wx wy : World} {r : Rd} {t t' : Item} (h : IW w R p cap l X wx r t) (hp : ∀ a, p = some a → a.block < w.heap.size) (hx : wy.heap[X]? = some (.cells (itemC t') 68 (0, 0))) (ho : Off (only X) wx wy) : IW w R p cap l X wy r t' where
  rd := h.rd.later ho (by have := h.rlt; have := h.lt; show R ≠ X; omega) (fun a e hk => by have := hp a e; have := h.lt; have hk : a.block = X := hk; omega)
  res := (ho.block _ (Array.getElem?_eq_some_iff.1 h.res).1 (by have := h.lt; show _ ≠ X; omega)).trans h.res
  own := hx
  off := h.off.trans ho (fun k hk => .inr (by rw [hk]; exact Nat.le_of_lt h.lt))
  lt := h.lt
  rlt := h.rlt

theorem IW.done {w : World} {R : Nat} {p : Option Addr} {cap : Nat} {l : List UInt8} {X : Nat} {wx : World} {r : Rd} {t : Item} (h : IW w R p cap l X wx r t) (hp : ∀ a, p = some a → a.block < w.heap.size) (cs : Array Value) : RAt (wx.setRow w.heap.size cs) R p cap l r ∧ Off (only R) w (wx.setRow w.heap.size cs) := by
  have h3 : Off (only w.heap.size) wx (wx.setRow w.heap.size cs) := ⟨rfl, rfl, rfl, by simp [World.setRow], fun k _ hk => by simp only [World.setRow, Array.getElem?_modify]; rw [if_neg (fun e => hk e.symm)]⟩
  exact ⟨h.rd.later h3 (by have := h.rlt; show R ≠ _; omega) (fun a e hk => by have := hp a e; have hk : a.block = _ := hk; omega), h.off.trans h3 (fun k hk => .inr (by rw [hk]; exact Nat.le_refl _))⟩

set_option maxRecDepth 10000 in
theorem ent_in (t : Item) (j : Nat) (v : Value) (h : (entC t.entry)[j]? = some v) : (itemC t)[6 + j]? = some v := by
  match j, h with
  | 0, h => exact h
  | 1, h => exact h
  | 2, h => exact h
  | 3, h => exact h
  | 4, h => exact h
  | 5, h => exact h
  | 6, h => exact h
  | 7, h => exact h
  | 8, h => exact h
  | j + 9, h => rw [Array.getElem?_eq_none (by simp [entC])] at h; cases h

theorem wrap_i64_64 (n : Nat) : IntKind.i64.wrap (n : Int) = i64 n := by
  rw [IntKind.wrap_i64, i64, wrap64]

theorem itemPos (l : List UInt8) (r : Rd) (k : Nat) : (rdNum l k r).2.pos = r.pos + k := rfl

set_option maxRecDepth 100000 in
set_option maxHeartbeats 4000000 in
theorem rdItem_one (R : Nat) (p : Option Addr) (cap : Nat) (l : List UInt8) (r : Rd) (hp : r.pos ≤ 900000) (w : World) (h : RAt w R p cap l r) (hk : (rdNum l 1 r).1 = 1) :
    Calls Tryd.prog 81 #[.pointer (some ⟨R, 0, none⟩)] w fun x w' => x = .returned (.agg (itemC (rdItem l r).1)) ∧ RAt w' R p cap l (rdItem l r).2 ∧ Off (only R) w w' := by
  have e : rdItem l r = ({ kind := 1, stub := (rdEntry l (rdNum l 1 r).2).1.stub, entry := (rdEntry l (rdNum l 1 r).2).1 }, (rdEntry l (rdNum l 1 r).2).2) := by rw [rdItem]; simp only [hk, if_true]
  rw [e]
  have hfit := rdEntry_fit l (rdNum l 1 r).2
  have hlt := h.lt
  have Hlow := Lib.hid h.low
  have H0 := Lib.hid (h.later (O := fun _ => False) (Off.of_below ((Below.refl w.heap.size w).alloc (Nat.le_refl _) (.cells (itemC zeroItem) 68))) (fun h => h) (fun _ _ h => h))
  obtain ⟨r1, hr1⟩ : ∃ r1, (rdNum l 1 r).2 = r1 := ⟨_, rfl⟩
  have hq : r1.pos ≤ 1000000 := by rw [← hr1, itemPos]; omega
  have H1 := rdOne_any R p cap l r (by omega) _ H0.out
  rw [hk, hr1] at H1
  rw [hr1] at hfit
  rw [hr1]
  have HE := Lib.hid (fun wx hx => rdEntry_any R p cap l r1 hq wx hx)
  obtain ⟨u, hu⟩ : ∃ u, (rdEntry l r1).1 = u := ⟨_, rfl⟩
  obtain ⟨r2, hr2⟩ : ∃ u, (rdEntry l r1).2 = u := ⟨_, rfl⟩
  rw [hu, hr2] at HE
  rw [hu] at hfit
  rw [hu, hr2]
  have HS := Lib.hid (fun wx => stubOf_any u hfit.1.2 hfit.1.1.1 hfit.1.1.2 wx)
  clear hu hr2 hr1 e hk h hq hfit
  go_enter Tryd.func81, Tryd.ntmps81
  go_wp2_with fail
  refine H1.mono ?_
  rintro x w1 ⟨rfl, q1, o1⟩
  have Q1 := Lib.hid q1
  have O1 := Lib.hid o1
  have hs1 := o1.size
  have hres : w1.heap[w.heap.size]? = some (.cells (itemC zeroItem) 68 (0, 0)) := (o1.block _ (by simp) (by show _ ≠ R; omega)).trans (heap_alloc_new w _)
  have hlt1 : w.heap.size < w1.heap.size := (Array.getElem?_eq_some_iff.1 hres).1
  have HRes := Lib.hid hres
  clear q1 o1 H1 H0
  go_wp2_with (first | ((with_reducible show wpList _ _ _ (⟨none, .store 68 (.tmp 3) (.tmp 6), _, _, _, _⟩ :: _) _ _); refine wpList_store_new (op := ⟨none, .store 68 (.tmp 3) (.tmp 6), _, _, _, _⟩) rfl 68 _ _ rfl 68 w1.heap.size rfl _ (itemC { kind := 1, stub := zeroStub, entry := zeroEntry }) rfl rfl item_info rfl (item_one' _) ?_; intro w2 h2 hb2 hz2; have HW2 : Hid (IW w R p cap l w1.heap.size w2 r1 { kind := 1, stub := zeroStub, entry := zeroEntry }) := ⟨Q1.out.later (O := fun _ => False) (Off.of_below hb2) (fun h => h) (fun _ _ h => h), (hb2.block _ hlt1).trans HRes.out, h2, ((Off.of_below ((Below.refl _ _).alloc (Nat.le_refl _) _)).trans O1.out (fun _ hk => .inl hk)).trans (Off.of_below hb2) (fun _ hk => .inl hk), hlt1, hlt⟩; have k0 : w2.cell? ⟨w1.heap.size, 0, none⟩ = some (.int .i64 1) := cell_of_row _ _ _ _ _ _ h2; clear h2 hb2 hz2))
  refine (HE.out _ HW2.out.rd).mono ?_
  rintro x w3 ⟨rfl, q3, o3⟩
  have HW3 := Lib.hid (HW2.out.call q3 o3)
  clear q3 o3 HW2 k0
  go_wp2_with (first
    | ((with_reducible show wpList _ _ _ (⟨none, .store 27 (.tmp 13) (.tmp 12), _, _, _, _⟩ :: _) _ _); refine wpList_store_in (op := ⟨none, .store 27 (.tmp 13) (.tmp 12), _, _, _, _⟩) rfl 27 _ _ rfl w1.heap.size 6 (entC u) rfl rfl _ 68 HW3.out.own (Nat.le_refl 15) ent_info (ent_one _) ?_; intro w4 h4 o4 z4; have HW4 : Hid (IW w R p cap l w1.heap.size w4 r2 { kind := 1, stub := zeroStub, entry := u }) := HW3.out.set Hlow.out (by rw [h4, setL_ent]) o4; clear h4 o4 z4 HW3)
    | ((with_reducible show wpList _ _ _ (⟨some 15, .load 27 (.tmp 14), _, _, _, _⟩ :: _) _ _); refine wpList_load_in (op := ⟨some 15, .load 27 (.tmp 14), _, _, _, _⟩) rfl 27 _ rfl w1.heap.size 6 rfl _ 68 (entC u) HW4.out.own (ent_in { kind := 1, stub := zeroStub, entry := u }) _ Tryd.underlying27 rfl ent_info ?_))
  refine (HS.out _).mono ?_
  rintro x w5 ⟨rfl, hb5⟩
  have HW5 := Lib.hid (HW4.out.quiet hb5)
  clear hb5 HW4
  go_wp2_with (first
    | ((with_reducible show wpList _ _ _ (⟨none, .store 66 (.tmp 17) (.tmp 16), _, _, _, _⟩ :: _) _ _); refine wpList_store_in (op := ⟨none, .store 66 (.tmp 17) (.tmp 16), _, _, _, _⟩) rfl 66 _ _ rfl w1.heap.size 1 (stubC u.stub) rfl rfl _ 68 HW5.out.own (by show 1 + 5 ≤ 15; decide) stub_info (stub_one _) ?_; intro w6 h6 o6 z6; have HW6 : Hid (IW w R p cap l w1.heap.size w6 r2 { kind := 1, stub := u.stub, entry := u }) := HW5.out.set Hlow.out (by rw [h6, setL_stub]) o6; clear h6 o6 z6 HW5)
    | ((with_reducible show wpList _ _ _ (⟨some 35, .load 68 (.tmp 3), _, _, _, _⟩ :: _) _ _); refine wpList_load_row (o := ⟨some 35, .load 68 (.tmp 3), _, _, _, _⟩) rfl 68 _ rfl w1.heap.size rfl 68 (itemC { kind := 1, stub := u.stub, entry := u }) (0, 0) _ HW6.out.own Tryd.underlying68 rfl item_info ?_)
    | ((with_reducible show wpList _ _ _ (⟨none, .store 68 (.tmp 2) (.tmp 35), _, _, _, _⟩ :: _) _ _); refine wpList_store_row (op := ⟨none, .store 68 (.tmp 2) (.tmp 35), _, _, _, _⟩) rfl 68 _ _ rfl w.heap.size 68 (itemC zeroItem) (itemC { kind := 1, stub := u.stub, entry := u }) rfl rfl HW6.out.res item_info rfl (item_one' _) ?_))
  refine bodyPost_ret (v := .agg (itemC { kind := 1, stub := u.stub, entry := u })) ?_ rfl ?_
  · exact results_row1 2 68 rfl w.heap.size rfl _ 68 (0, 0) (setRow_heap _ w.heap.size (itemC zeroItem) (itemC { kind := 1, stub := u.stub, entry := u }) 68 (0, 0) HW6.out.res) _ Tryd.underlying68 rfl item_info
  · exact ⟨rfl, HW6.out.done Hlow.out _⟩

set_option maxRecDepth 100000 in
set_option maxHeartbeats 4000000 in
theorem rdItem_two (R : Nat) (p : Option Addr) (cap : Nat) (l : List UInt8) (r : Rd) (hp : r.pos ≤ 900000) (w : World) (h : RAt w R p cap l r) (hk : (rdNum l 1 r).1 = 2) :
    Calls Tryd.prog 81 #[.pointer (some ⟨R, 0, none⟩)] w fun x w' => x = .returned (.agg (itemC (rdItem l r).1)) ∧ RAt w' R p cap l (rdItem l r).2 ∧ Off (only R) w w' := by
  have e : rdItem l r = ({ kind := 2, stub := (rdStub l (rdNum l 1 r).2).1, entry := zeroEntry }, (rdStub l (rdNum l 1 r).2).2) := by rw [rdItem]; simp only [hk]; rfl
  rw [e]
  have hlt := h.lt
  have Hlow := Lib.hid h.low
  have H0 := Lib.hid (h.later (O := fun _ => False) (Off.of_below ((Below.refl w.heap.size w).alloc (Nat.le_refl _) (.cells (itemC zeroItem) 68))) (fun h => h) (fun _ _ h => h))
  obtain ⟨r1, hr1⟩ : ∃ r1, (rdNum l 1 r).2 = r1 := ⟨_, rfl⟩
  have hq : r1.pos ≤ 900001 := by rw [← hr1, itemPos]; omega
  have H1 := rdOne_any R p cap l r (by omega) _ H0.out
  rw [hk, hr1] at H1
  rw [hr1]
  unfold rdStub
  simp only
  have HE1 := Lib.hid (fun wx hx => rdEight_any R p cap l r1 (by omega) wx hx)
  obtain ⟨a, ha⟩ : ∃ u, (rdNum l 8 r1).1 = u := ⟨_, rfl⟩
  obtain ⟨y1, hy1⟩ : ∃ u, (rdNum l 8 r1).2 = u := ⟨_, rfl⟩
  have q1 : y1.pos ≤ 900001 + 8 := by rw [← hy1, itemPos]; omega
  rw [ha, hy1] at HE1
  rw [ha, hy1]
  have HE2 := Lib.hid (fun wx hx => rdEight_any R p cap l y1 (by omega) wx hx)
  obtain ⟨b, hb⟩ : ∃ u, (rdNum l 8 y1).1 = u := ⟨_, rfl⟩
  obtain ⟨y2, hy2⟩ : ∃ u, (rdNum l 8 y1).2 = u := ⟨_, rfl⟩
  have q2 : y2.pos ≤ 900001 + 16 := by rw [← hy2, itemPos]; omega
  rw [hb, hy2] at HE2
  rw [hb, hy2]
  have HE3 := Lib.hid (fun wx hx => rdEight_any R p cap l y2 (by omega) wx hx)
  obtain ⟨c, hc⟩ : ∃ u, (rdNum l 8 y2).1 = u := ⟨_, rfl⟩
  obtain ⟨y3, hy3⟩ : ∃ u, (rdNum l 8 y2).2 = u := ⟨_, rfl⟩
  have q3 : y3.pos ≤ 900001 + 24 := by rw [← hy3, itemPos]; omega
  rw [hc, hy3] at HE3
  rw [hc, hy3]
  have HE4 := Lib.hid (fun wx hx => rdEight_any R p cap l y3 (by omega) wx hx)
  obtain ⟨d, hd⟩ : ∃ u, (rdNum l 8 y3).1 = u := ⟨_, rfl⟩
  obtain ⟨y4, hy4⟩ : ∃ u, (rdNum l 8 y3).2 = u := ⟨_, rfl⟩
  have q4 : y4.pos ≤ 900001 + 32 := by rw [← hy4, itemPos]; omega
  rw [hd, hy4] at HE4
  rw [hd, hy4]
  have HE5 := Lib.hid (fun wx hx => rdEight_any R p cap l y4 (by omega) wx hx)
  obtain ⟨f, hf⟩ : ∃ u, (rdNum l 8 y4).1 = u := ⟨_, rfl⟩
  obtain ⟨y5, hy5⟩ : ∃ u, (rdNum l 8 y4).2 = u := ⟨_, rfl⟩
  have q5 : y5.pos ≤ 900001 + 40 := by rw [← hy5, itemPos]; omega
  rw [hf, hy5] at HE5
  rw [hf, hy5]
  have wa : IntKind.i64.wrap (a : Int) = i64 a := wrap_i64_64 a
  have wb : IntKind.i64.wrap (b : Int) = i64 b := wrap_i64_64 b
  have wc : IntKind.i64.wrap (c : Int) = i64 c := wrap_i64_64 c
  clear ha hb hc hd hf hy1 q1 hy2 q2 hy3 q3 hy4 q4 hy5 q5 hr1 e hk h hq
  go_enter Tryd.func81, Tryd.ntmps81
  go_wp2_with fail
  refine H1.mono ?_
  rintro x w1 ⟨rfl, q1, o1⟩
  have Q1 := Lib.hid q1
  have O1 := Lib.hid o1
  have hs1 := o1.size
  have hres : w1.heap[w.heap.size]? = some (.cells (itemC zeroItem) 68 (0, 0)) := (o1.block _ (by simp) (by show _ ≠ R; omega)).trans (heap_alloc_new w _)
  have hlt1 : w.heap.size < w1.heap.size := (Array.getElem?_eq_some_iff.1 hres).1
  have HRes := Lib.hid hres
  clear q1 o1 H1 H0
  go_wp2_with (first | ((with_reducible show wpList _ _ _ (⟨none, .store 68 (.tmp 3) (.tmp 6), _, _, _, _⟩ :: _) _ _); refine wpList_store_new (op := ⟨none, .store 68 (.tmp 3) (.tmp 6), _, _, _, _⟩) rfl 68 _ _ rfl 68 w1.heap.size rfl _ (itemC { kind := 2, stub := zeroStub, entry := zeroEntry }) rfl rfl item_info rfl (item_one' _) ?_; intro w2 h2 hb2 hz2; have HW2 : Hid (IW w R p cap l w1.heap.size w2 r1 { kind := 2, stub := zeroStub, entry := zeroEntry }) := ⟨Q1.out.later (O := fun _ => False) (Off.of_below hb2) (fun h => h) (fun _ _ h => h), (hb2.block _ hlt1).trans HRes.out, h2, ((Off.of_below ((Below.refl _ _).alloc (Nat.le_refl _) _)).trans O1.out (fun _ hk => .inl hk)).trans (Off.of_below hb2) (fun _ hk => .inl hk), hlt1, hlt⟩; have k0 : w2.cell? ⟨w1.heap.size, 0, none⟩ = some (.int .i64 2) := cell_of_row _ _ _ _ _ _ h2; clear h2 hb2 hz2))
  refine (HE1.out _ HW2.out.rd).mono ?_
  rintro x v1 ⟨rfl, q, o⟩
  have HV1 := Lib.hid (HW2.out.call q o)
  clear q o HW2 k0
  go_wp2_with fail
  refine (HE2.out _ HV1.out.rd).mono ?_
  rintro x v2 ⟨rfl, q, o⟩
  have HV2 := Lib.hid (HV1.out.call q o)
  clear q o HV1
  go_wp2_with fail
  refine (HE3.out _ HV2.out.rd).mono ?_
  rintro x v3 ⟨rfl, q, o⟩
  have HV3 := Lib.hid (HV2.out.call q o)
  clear q o HV2
  go_wp2_with fail
  refine (HE4.out _ HV3.out.rd).mono ?_
  rintro x v4 ⟨rfl, q, o⟩
  have HV4 := Lib.hid (HV3.out.call q o)
  clear q o HV3
  go_wp2_with fail
  refine (HE5.out _ HV4.out.rd).mono ?_
  rintro x v5 ⟨rfl, q, o⟩
  have HV5 := Lib.hid (HV4.out.call q o)
  clear q o HV4
  go_wp2_with (first
    | ((with_reducible show wpList _ _ _ (⟨none, .store 66 (.tmp 34) (.tmp 33), _, _, _, _⟩ :: _) _ _); refine wpList_store_in (op := ⟨none, .store 66 (.tmp 34) (.tmp 33), _, _, _, _⟩) rfl 66 _ _ rfl w1.heap.size 1 (stubC { op := i64 a, view := i64 b, under := i64 c, parent := (d : Int), sum := (f : Int) }) rfl rfl _ 68 HV5.out.own (by show 1 + 5 ≤ 15; decide) stub_info (stub_one _) ?_; intro w6 h6 o6 z6; have HW6 : Hid (IW w R p cap l w1.heap.size w6 y5 { kind := 2, stub := { op := i64 a, view := i64 b, under := i64 c, parent := (d : Int), sum := (f : Int) }, entry := zeroEntry }) := HV5.out.set Hlow.out (by rw [h6, setL_stub]) o6; clear h6 o6 z6 HV5)
    | ((with_reducible show wpList _ _ _ (⟨some 35, .load 68 (.tmp 3), _, _, _, _⟩ :: _) _ _); refine wpList_load_row (o := ⟨some 35, .load 68 (.tmp 3), _, _, _, _⟩) rfl 68 _ rfl w1.heap.size rfl 68 (itemC { kind := 2, stub := { op := i64 a, view := i64 b, under := i64 c, parent := (d : Int), sum := (f : Int) }, entry := zeroEntry }) (0, 0) _ HW6.out.own Tryd.underlying68 rfl item_info ?_)
    | ((with_reducible show wpList _ _ _ (⟨none, .store 68 (.tmp 2) (.tmp 35), _, _, _, _⟩ :: _) _ _); refine wpList_store_row (op := ⟨none, .store 68 (.tmp 2) (.tmp 35), _, _, _, _⟩) rfl 68 _ _ rfl w.heap.size 68 (itemC zeroItem) (itemC { kind := 2, stub := { op := i64 a, view := i64 b, under := i64 c, parent := (d : Int), sum := (f : Int) }, entry := zeroEntry }) rfl rfl HW6.out.res item_info rfl (item_one' _) ?_))
  refine bodyPost_ret (v := .agg (itemC { kind := 2, stub := { op := i64 a, view := i64 b, under := i64 c, parent := (d : Int), sum := (f : Int) }, entry := zeroEntry })) ?_ rfl ?_
  · exact results_row1 2 68 rfl w.heap.size rfl _ 68 (0, 0) (setRow_heap _ w.heap.size (itemC zeroItem) (itemC { kind := 2, stub := { op := i64 a, view := i64 b, under := i64 c, parent := (d : Int), sum := (f : Int) }, entry := zeroEntry }) 68 (0, 0) HW6.out.res) _ Tryd.underlying68 rfl item_info
  · exact ⟨rfl, HW6.out.done Hlow.out _⟩

set_option maxRecDepth 100000 in
set_option maxHeartbeats 4000000 in
theorem rdItem_else (R : Nat) (p : Option Addr) (cap : Nat) (l : List UInt8) (r : Rd) (hp : r.pos ≤ 900000) (w : World) (h : RAt w R p cap l r) (hk1 : ¬ (rdNum l 1 r).1 = 1) (hk2 : ¬ (rdNum l 1 r).1 = 2) :
    Calls Tryd.prog 81 #[.pointer (some ⟨R, 0, none⟩)] w fun x w' => x = .returned (.agg (itemC (rdItem l r).1)) ∧ RAt w' R p cap l (rdItem l r).2 ∧ Off (only R) w w' := by
  have e : rdItem l r = ({ kind := ((rdNum l 1 r).1 : Int), stub := zeroStub, entry := zeroEntry }, (rdNum l 1 r).2) := by rw [rdItem]; simp only [hk1, hk2, if_false]
  rw [e]
  have hlt := h.lt
  have Hlow := Lib.hid h.low
  have H0 := Lib.hid (h.later (O := fun _ => False) (Off.of_below ((Below.refl w.heap.size w).alloc (Nat.le_refl _) (.cells (itemC zeroItem) 68))) (fun h => h) (fun _ _ h => h))
  have H1 := rdOne_any R p cap l r (by omega) _ H0.out
  obtain ⟨r1, hr1⟩ : ∃ r1, (rdNum l 1 r).2 = r1 := ⟨_, rfl⟩
  obtain ⟨k, hk⟩ : ∃ r1, (rdNum l 1 r).1 = r1 := ⟨_, rfl⟩
  rw [hk, hr1] at H1
  rw [hk, hr1]
  rw [hk] at hk1 hk2
  have hz1 : ¬ ((k : Int) = 1) := by omega
  have hz2 : ¬ ((k : Int) = 2) := by omega
  clear hr1 hk e h
  go_enter Tryd.func81, Tryd.ntmps81
  go_wp2_with fail
  refine H1.mono ?_
  rintro x w1 ⟨rfl, q1, o1⟩
  have Q1 := Lib.hid q1
  have O1 := Lib.hid o1
  have hs1 := o1.size
  have hres : w1.heap[w.heap.size]? = some (.cells (itemC zeroItem) 68 (0, 0)) := (o1.block _ (by simp) (by show _ ≠ R; omega)).trans (heap_alloc_new w _)
  have hlt1 : w.heap.size < w1.heap.size := (Array.getElem?_eq_some_iff.1 hres).1
  have HRes := Lib.hid hres
  clear q1 o1 H1 H0
  go_wp2_with (first
    | ((with_reducible show wpList _ _ _ (⟨none, .store 68 (.tmp 3) (.tmp 6), _, _, _, _⟩ :: _) _ _); refine wpList_store_new (op := ⟨none, .store 68 (.tmp 3) (.tmp 6), _, _, _, _⟩) rfl 68 _ _ rfl 68 w1.heap.size rfl _ (itemC { kind := (k : Int), stub := zeroStub, entry := zeroEntry }) rfl rfl item_info rfl (item_one' _) ?_; intro w2 h2 hb2 hz2; have HW2 : Hid (IW w R p cap l w1.heap.size w2 r1 { kind := (k : Int), stub := zeroStub, entry := zeroEntry }) := ⟨Q1.out.later (O := fun _ => False) (Off.of_below hb2) (fun h => h) (fun _ _ h => h), (hb2.block _ hlt1).trans HRes.out, h2, ((Off.of_below ((Below.refl _ _).alloc (Nat.le_refl _) _)).trans O1.out (fun _ hk => .inl hk)).trans (Off.of_below hb2) (fun _ hk => .inl hk), hlt1, hlt⟩; have k0 : w2.cell? ⟨w1.heap.size, 0, none⟩ = some (.int .i64 k) := cell_of_row _ _ _ _ _ _ h2; clear h2 hb2 hz2)
    | ((with_reducible show wpList _ _ _ (⟨some 35, .load 68 (.tmp 3), _, _, _, _⟩ :: _) _ _); refine wpList_load_row (o := ⟨some 35, .load 68 (.tmp 3), _, _, _, _⟩) rfl 68 _ rfl w1.heap.size rfl 68 (itemC { kind := (k : Int), stub := zeroStub, entry := zeroEntry }) (0, 0) _ HW2.out.own Tryd.underlying68 rfl item_info ?_)
    | ((with_reducible show wpList _ _ _ (⟨none, .store 68 (.tmp 2) (.tmp 35), _, _, _, _⟩ :: _) _ _); refine wpList_store_row (op := ⟨none, .store 68 (.tmp 2) (.tmp 35), _, _, _, _⟩) rfl 68 _ _ rfl w.heap.size 68 (itemC zeroItem) (itemC { kind := (k : Int), stub := zeroStub, entry := zeroEntry }) rfl rfl HW2.out.res item_info rfl (item_one' _) ?_))
  refine bodyPost_ret (v := .agg (itemC { kind := (k : Int), stub := zeroStub, entry := zeroEntry })) ?_ rfl ?_
  · exact results_row1 2 68 rfl w.heap.size rfl _ 68 (0, 0) (setRow_heap _ w.heap.size (itemC zeroItem) (itemC { kind := (k : Int), stub := zeroStub, entry := zeroEntry }) 68 (0, 0) HW2.out.res) _ Tryd.underlying68 rfl item_info
  · exact ⟨rfl, HW2.out.done Hlow.out _⟩

theorem rdItem_any (R : Nat) (p : Option Addr) (cap : Nat) (l : List UInt8) (r : Rd) (hp : r.pos ≤ 900000) (w : World) (h : RAt w R p cap l r) :
    Calls Tryd.prog 81 #[.pointer (some ⟨R, 0, none⟩)] w fun x w' => x = .returned (.agg (itemC (rdItem l r).1)) ∧ RAt w' R p cap l (rdItem l r).2 ∧ Off (only R) w w' := by
  by_cases h1 : (rdNum l 1 r).1 = 1
  · exact rdItem_one R p cap l r hp w h h1
  · by_cases h2 : (rdNum l 1 r).1 = 2
    · exact rdItem_two R p cap l r hp w h h2
    · exact rdItem_else R p cap l r hp w h h1 h2

end Go.Proofs.YtmidfknlmjgjpaaDoor
