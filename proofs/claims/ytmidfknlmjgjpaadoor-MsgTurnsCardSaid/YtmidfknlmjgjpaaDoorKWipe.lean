/- The walk of msg.wipe, a field at a time. (Written by gen_wipe.py.) -/
import Derived.Test.YtmidfknlmjgjpaaDoorGF
namespace Go.Proofs.YtmidfknlmjgjpaaDoor
open Go.RowKit


set_option maxRecDepth 100000 in
set_option maxHeartbeats 1000000 in
theorem wipe_118 (b : Nat) (m : Msg) (ev iv : Value) (w : World) (hblk : w.heap[b]? = some (.cells (msgC m ev iv) 31 (0, 0))) :
    Calls Tryd.prog 46 #[.pointer (some ⟨b, 0, none⟩), .int .i32 118] w fun e w' => e = .returned (.tuple #[]) ∧ w'.heap[b]? = some (.cells (msgC (wipeM m 118) (wipeE ev 118) (wipeI iv 118)) 31 (0, 0)) ∧ w.grownBy w' (some b) := by
  have Hblk := Lib.hid hblk
  have c2 : w.cell? ⟨b, 2, none⟩ = (msgC m ev iv)[2]? := cell_of_row w b 2 _ _ _ hblk
  have f2 : w.frozen? ⟨b, 2, none⟩ = false := by simp [World.frozen?, hblk]
  simp only [msgC, List.getElem?_toArray, List.getElem?_cons_zero, List.getElem?_cons_succ] at c2
  clear hblk
  go_enter Tryd.func46, Tryd.ntmps46
  go_wp2_with (go_at_call 45; refine (number_any _ _ _).mono ?_; rintro e w' ⟨rfl, rfl⟩; rw [show numOff 118 = some 2 from rfl]; simp only [Option.map_some])

  exact bodyPost_ret (v := .tuple #[]) (by simp [results, Tryd.results46, go_sem]) rfl ⟨rfl, (set_block 2 _ Hblk.out), (set_grown 2 _ (World.grownBy_refl' _ _))⟩

set_option maxRecDepth 100000 in
set_option maxHeartbeats 1000000 in
theorem wipe_108 (b : Nat) (m : Msg) (ev iv : Value) (w : World) (hblk : w.heap[b]? = some (.cells (msgC m ev iv) 31 (0, 0))) :
    Calls Tryd.prog 46 #[.pointer (some ⟨b, 0, none⟩), .int .i32 108] w fun e w' => e = .returned (.tuple #[]) ∧ w'.heap[b]? = some (.cells (msgC (wipeM m 108) (wipeE ev 108) (wipeI iv 108)) 31 (0, 0)) ∧ w.grownBy w' (some b) := by
  have Hblk := Lib.hid hblk
  have c3 : w.cell? ⟨b, 3, none⟩ = (msgC m ev iv)[3]? := cell_of_row w b 3 _ _ _ hblk
  have f3 : w.frozen? ⟨b, 3, none⟩ = false := by simp [World.frozen?, hblk]
  simp only [msgC, List.getElem?_toArray, List.getElem?_cons_zero, List.getElem?_cons_succ] at c3
  clear hblk
  go_enter Tryd.func46, Tryd.ntmps46
  go_wp2_with (go_at_call 45; refine (number_any _ _ _).mono ?_; rintro e w' ⟨rfl, rfl⟩; rw [show numOff 108 = some 3 from rfl]; simp only [Option.map_some])

  exact bodyPost_ret (v := .tuple #[]) (by simp [results, Tryd.results46, go_sem]) rfl ⟨rfl, (set_block 3 _ Hblk.out), (set_grown 3 _ (World.grownBy_refl' _ _))⟩

set_option maxRecDepth 100000 in
set_option maxHeartbeats 1000000 in
theorem wipe_111 (b : Nat) (m : Msg) (ev iv : Value) (w : World) (hblk : w.heap[b]? = some (.cells (msgC m ev iv) 31 (0, 0))) :
    Calls Tryd.prog 46 #[.pointer (some ⟨b, 0, none⟩), .int .i32 111] w fun e w' => e = .returned (.tuple #[]) ∧ w'.heap[b]? = some (.cells (msgC (wipeM m 111) (wipeE ev 111) (wipeI iv 111)) 31 (0, 0)) ∧ w.grownBy w' (some b) := by
  have Hblk := Lib.hid hblk
  have c4 : w.cell? ⟨b, 4, none⟩ = (msgC m ev iv)[4]? := cell_of_row w b 4 _ _ _ hblk
  have f4 : w.frozen? ⟨b, 4, none⟩ = false := by simp [World.frozen?, hblk]
  simp only [msgC, List.getElem?_toArray, List.getElem?_cons_zero, List.getElem?_cons_succ] at c4
  clear hblk
  go_enter Tryd.func46, Tryd.ntmps46
  go_wp2_with (go_at_call 45; refine (number_any _ _ _).mono ?_; rintro e w' ⟨rfl, rfl⟩; rw [show numOff 111 = some 4 from rfl]; simp only [Option.map_some])

  exact bodyPost_ret (v := .tuple #[]) (by simp [results, Tryd.results46, go_sem]) rfl ⟨rfl, (set_block 4 _ Hblk.out), (set_grown 4 _ (World.grownBy_refl' _ _))⟩

set_option maxRecDepth 100000 in
set_option maxHeartbeats 1000000 in
theorem wipe_99 (b : Nat) (m : Msg) (ev iv : Value) (w : World) (hblk : w.heap[b]? = some (.cells (msgC m ev iv) 31 (0, 0))) :
    Calls Tryd.prog 46 #[.pointer (some ⟨b, 0, none⟩), .int .i32 99] w fun e w' => e = .returned (.tuple #[]) ∧ w'.heap[b]? = some (.cells (msgC (wipeM m 99) (wipeE ev 99) (wipeI iv 99)) 31 (0, 0)) ∧ w.grownBy w' (some b) := by
  have Hblk := Lib.hid hblk
  have c5 : w.cell? ⟨b, 5, none⟩ = (msgC m ev iv)[5]? := cell_of_row w b 5 _ _ _ hblk
  have f5 : w.frozen? ⟨b, 5, none⟩ = false := by simp [World.frozen?, hblk]
  simp only [msgC, List.getElem?_toArray, List.getElem?_cons_zero, List.getElem?_cons_succ] at c5
  clear hblk
  go_enter Tryd.func46, Tryd.ntmps46
  go_wp2_with (go_at_call 45; refine (number_any _ _ _).mono ?_; rintro e w' ⟨rfl, rfl⟩; rw [show numOff 99 = some 5 from rfl]; simp only [Option.map_some])

  exact bodyPost_ret (v := .tuple #[]) (by simp [results, Tryd.results46, go_sem]) rfl ⟨rfl, (set_block 5 _ Hblk.out), (set_grown 5 _ (World.grownBy_refl' _ _))⟩

set_option maxRecDepth 100000 in
set_option maxHeartbeats 1000000 in
theorem wipe_119 (b : Nat) (m : Msg) (ev iv : Value) (w : World) (hblk : w.heap[b]? = some (.cells (msgC m ev iv) 31 (0, 0))) :
    Calls Tryd.prog 46 #[.pointer (some ⟨b, 0, none⟩), .int .i32 119] w fun e w' => e = .returned (.tuple #[]) ∧ w'.heap[b]? = some (.cells (msgC (wipeM m 119) (wipeE ev 119) (wipeI iv 119)) 31 (0, 0)) ∧ w.grownBy w' (some b) := by
  have Hblk := Lib.hid hblk
  have c6 : w.cell? ⟨b, 6, none⟩ = (msgC m ev iv)[6]? := cell_of_row w b 6 _ _ _ hblk
  have f6 : w.frozen? ⟨b, 6, none⟩ = false := by simp [World.frozen?, hblk]
  simp only [msgC, List.getElem?_toArray, List.getElem?_cons_zero, List.getElem?_cons_succ] at c6
  clear hblk
  go_enter Tryd.func46, Tryd.ntmps46
  go_wp2_with (go_at_call 45; refine (number_any _ _ _).mono ?_; rintro e w' ⟨rfl, rfl⟩; rw [show numOff 119 = some 6 from rfl]; simp only [Option.map_some])

  exact bodyPost_ret (v := .tuple #[]) (by simp [results, Tryd.results46, go_sem]) rfl ⟨rfl, (set_block 6 _ Hblk.out), (set_grown 6 _ (World.grownBy_refl' _ _))⟩

set_option maxRecDepth 100000 in
set_option maxHeartbeats 1000000 in
theorem wipe_115 (b : Nat) (m : Msg) (ev iv : Value) (w : World) (hblk : w.heap[b]? = some (.cells (msgC m ev iv) 31 (0, 0))) :
    Calls Tryd.prog 46 #[.pointer (some ⟨b, 0, none⟩), .int .i32 115] w fun e w' => e = .returned (.tuple #[]) ∧ w'.heap[b]? = some (.cells (msgC (wipeM m 115) (wipeE ev 115) (wipeI iv 115)) 31 (0, 0)) ∧ w.grownBy w' (some b) := by
  have Hblk := Lib.hid hblk
  have c7 : w.cell? ⟨b, 7, none⟩ = (msgC m ev iv)[7]? := cell_of_row w b 7 _ _ _ hblk
  have f7 : w.frozen? ⟨b, 7, none⟩ = false := by simp [World.frozen?, hblk]
  simp only [msgC, List.getElem?_toArray, List.getElem?_cons_zero, List.getElem?_cons_succ] at c7
  clear hblk
  go_enter Tryd.func46, Tryd.ntmps46
  go_wp2_with (go_at_call 45; refine (number_any _ _ _).mono ?_; rintro e w' ⟨rfl, rfl⟩; rw [show numOff 115 = some 7 from rfl]; simp only [Option.map_some])

  exact bodyPost_ret (v := .tuple #[]) (by simp [results, Tryd.results46, go_sem]) rfl ⟨rfl, (set_block 7 _ Hblk.out), (set_grown 7 _ (World.grownBy_refl' _ _))⟩

set_option maxRecDepth 100000 in
set_option maxHeartbeats 1000000 in
theorem wipe_114 (b : Nat) (m : Msg) (ev iv : Value) (w : World) (hblk : w.heap[b]? = some (.cells (msgC m ev iv) 31 (0, 0))) :
    Calls Tryd.prog 46 #[.pointer (some ⟨b, 0, none⟩), .int .i32 114] w fun e w' => e = .returned (.tuple #[]) ∧ w'.heap[b]? = some (.cells (msgC (wipeM m 114) (wipeE ev 114) (wipeI iv 114)) 31 (0, 0)) ∧ w.grownBy w' (some b) := by
  have Hblk := Lib.hid hblk
  have c8 : w.cell? ⟨b, 8, none⟩ = (msgC m ev iv)[8]? := cell_of_row w b 8 _ _ _ hblk
  have f8 : w.frozen? ⟨b, 8, none⟩ = false := by simp [World.frozen?, hblk]
  simp only [msgC, List.getElem?_toArray, List.getElem?_cons_zero, List.getElem?_cons_succ] at c8
  clear hblk
  go_enter Tryd.func46, Tryd.ntmps46
  go_wp2_with (go_at_call 45; refine (number_any _ _ _).mono ?_; rintro e w' ⟨rfl, rfl⟩; rw [show numOff 114 = some 8 from rfl]; simp only [Option.map_some])

  exact bodyPost_ret (v := .tuple #[]) (by simp [results, Tryd.results46, go_sem]) rfl ⟨rfl, (set_block 8 _ Hblk.out), (set_grown 8 _ (World.grownBy_refl' _ _))⟩

set_option maxRecDepth 100000 in
set_option maxHeartbeats 1000000 in
theorem wipe_112 (b : Nat) (m : Msg) (ev iv : Value) (w : World) (hblk : w.heap[b]? = some (.cells (msgC m ev iv) 31 (0, 0))) :
    Calls Tryd.prog 46 #[.pointer (some ⟨b, 0, none⟩), .int .i32 112] w fun e w' => e = .returned (.tuple #[]) ∧ w'.heap[b]? = some (.cells (msgC (wipeM m 112) (wipeE ev 112) (wipeI iv 112)) 31 (0, 0)) ∧ w.grownBy w' (some b) := by
  have Hblk := Lib.hid hblk
  have c9 : w.cell? ⟨b, 9, none⟩ = (msgC m ev iv)[9]? := cell_of_row w b 9 _ _ _ hblk
  have f9 : w.frozen? ⟨b, 9, none⟩ = false := by simp [World.frozen?, hblk]
  simp only [msgC, List.getElem?_toArray, List.getElem?_cons_zero, List.getElem?_cons_succ] at c9
  clear hblk
  go_enter Tryd.func46, Tryd.ntmps46
  go_wp2_with (go_at_call 45; refine (number_any _ _ _).mono ?_; rintro e w' ⟨rfl, rfl⟩; rw [show numOff 112 = some 9 from rfl]; simp only [Option.map_some])

  exact bodyPost_ret (v := .tuple #[]) (by simp [results, Tryd.results46, go_sem]) rfl ⟨rfl, (set_block 9 _ Hblk.out), (set_grown 9 _ (World.grownBy_refl' _ _))⟩

set_option maxRecDepth 100000 in
set_option maxHeartbeats 1000000 in
theorem wipe_105 (b : Nat) (m : Msg) (ev iv : Value) (w : World) (hblk : w.heap[b]? = some (.cells (msgC m ev iv) 31 (0, 0))) :
    Calls Tryd.prog 46 #[.pointer (some ⟨b, 0, none⟩), .int .i32 105] w fun e w' => e = .returned (.tuple #[]) ∧ w'.heap[b]? = some (.cells (msgC (wipeM m 105) (wipeE ev 105) (wipeI iv 105)) 31 (0, 0)) ∧ w.grownBy w' (some b) := by
  have Hblk := Lib.hid hblk
  have c10 : w.cell? ⟨b, 10, none⟩ = (msgC m ev iv)[10]? := cell_of_row w b 10 _ _ _ hblk
  have f10 : w.frozen? ⟨b, 10, none⟩ = false := by simp [World.frozen?, hblk]
  simp only [msgC, List.getElem?_toArray, List.getElem?_cons_zero, List.getElem?_cons_succ] at c10
  clear hblk
  go_enter Tryd.func46, Tryd.ntmps46
  go_wp2_with (go_at_call 45; refine (number_any _ _ _).mono ?_; rintro e w' ⟨rfl, rfl⟩; rw [show numOff 105 = some 10 from rfl]; simp only [Option.map_some])

  exact bodyPost_ret (v := .tuple #[]) (by simp [results, Tryd.results46, go_sem]) rfl ⟨rfl, (set_block 10 _ Hblk.out), (set_grown 10 _ (World.grownBy_refl' _ _))⟩

set_option maxRecDepth 100000 in
set_option maxHeartbeats 1000000 in
theorem wipe_122 (b : Nat) (m : Msg) (ev iv : Value) (w : World) (hblk : w.heap[b]? = some (.cells (msgC m ev iv) 31 (0, 0))) :
    Calls Tryd.prog 46 #[.pointer (some ⟨b, 0, none⟩), .int .i32 122] w fun e w' => e = .returned (.tuple #[]) ∧ w'.heap[b]? = some (.cells (msgC (wipeM m 122) (wipeE ev 122) (wipeI iv 122)) 31 (0, 0)) ∧ w.grownBy w' (some b) := by
  have Hblk := Lib.hid hblk
  have c11 : w.cell? ⟨b, 11, none⟩ = (msgC m ev iv)[11]? := cell_of_row w b 11 _ _ _ hblk
  have f11 : w.frozen? ⟨b, 11, none⟩ = false := by simp [World.frozen?, hblk]
  simp only [msgC, List.getElem?_toArray, List.getElem?_cons_zero, List.getElem?_cons_succ] at c11
  clear hblk
  go_enter Tryd.func46, Tryd.ntmps46
  go_wp2_with (go_at_call 45; refine (number_any _ _ _).mono ?_; rintro e w' ⟨rfl, rfl⟩; rw [show numOff 122 = some 11 from rfl]; simp only [Option.map_some])

  exact bodyPost_ret (v := .tuple #[]) (by simp [results, Tryd.results46, go_sem]) rfl ⟨rfl, (set_block 11 _ Hblk.out), (set_grown 11 _ (World.grownBy_refl' _ _))⟩
theorem arr_67 (m : Msg) (ev iv : Value) : ((((msgC m ev iv).setIfInBounds 12 (.int .i64 0)).setIfInBounds 13 (.int .i64 0)).setIfInBounds 14 (.int .u64 0)) = msgC (wipeM m 67) (wipeE ev 67) (wipeI iv 67) := by kernel_rfl


set_option maxRecDepth 100000 in
set_option maxHeartbeats 1000000 in
theorem wipe_67 (b : Nat) (m : Msg) (ev iv : Value) (w : World) (hblk : w.heap[b]? = some (.cells (msgC m ev iv) 31 (0, 0))) :
    Calls Tryd.prog 46 #[.pointer (some ⟨b, 0, none⟩), .int .i32 67] w fun e w' => e = .returned (.tuple #[]) ∧ w'.heap[b]? = some (.cells (msgC (wipeM m 67) (wipeE ev 67) (wipeI iv 67)) 31 (0, 0)) ∧ w.grownBy w' (some b) := by
  have Hblk := Lib.hid hblk
  have c12 : w.cell? ⟨b, 12, none⟩ = (msgC m ev iv)[12]? := cell_of_row w b 12 _ _ _ hblk
  have f12 : w.frozen? ⟨b, 12, none⟩ = false := by simp [World.frozen?, hblk]
  have c13 : w.cell? ⟨b, 13, none⟩ = (msgC m ev iv)[13]? := cell_of_row w b 13 _ _ _ hblk
  have f13 : w.frozen? ⟨b, 13, none⟩ = false := by simp [World.frozen?, hblk]
  have c14 : w.cell? ⟨b, 14, none⟩ = (msgC m ev iv)[14]? := cell_of_row w b 14 _ _ _ hblk
  have f14 : w.frozen? ⟨b, 14, none⟩ = false := by simp [World.frozen?, hblk]
  simp only [msgC, List.getElem?_toArray, List.getElem?_cons_zero, List.getElem?_cons_succ] at c12
  simp only [msgC, List.getElem?_toArray, List.getElem?_cons_zero, List.getElem?_cons_succ] at c13
  simp only [msgC, List.getElem?_toArray, List.getElem?_cons_zero, List.getElem?_cons_succ] at c14
  clear hblk
  go_enter Tryd.func46, Tryd.ntmps46
  go_wp2_with (go_at_call 45; refine (number_any _ _ _).mono ?_; rintro e w' ⟨rfl, rfl⟩; rw [show numOff 67 = none from rfl]; simp only [Option.map_none])

  go_end0
  exact ⟨rfl, ((set_block 14 _ (set_block 13 _ (set_block 12 _ Hblk.out)))).trans (congrArg (fun a => some (Obj.cells a 31 (0, 0))) (arr_67 m ev iv)), (set_grown 14 _ (set_grown 13 _ (set_grown 12 _ (World.grownBy_refl' _ _))))⟩
theorem arr_83 (m : Msg) (ev iv : Value) : (((((((msgC m ev iv).setIfInBounds 15 (.int .u64 0)).setIfInBounds 16 (.int .u64 0)).setIfInBounds 17 (.int .u64 0)).setIfInBounds 18 (.int .u64 0)).setIfInBounds 19 (.int .u64 0)).setIfInBounds 20 (.int .u64 0)) = msgC (wipeM m 83) (wipeE ev 83) (wipeI iv 83) := by kernel_rfl


set_option maxRecDepth 100000 in
set_option maxHeartbeats 1000000 in
theorem wipe_83 (b : Nat) (m : Msg) (ev iv : Value) (w : World) (hblk : w.heap[b]? = some (.cells (msgC m ev iv) 31 (0, 0))) :
    Calls Tryd.prog 46 #[.pointer (some ⟨b, 0, none⟩), .int .i32 83] w fun e w' => e = .returned (.tuple #[]) ∧ w'.heap[b]? = some (.cells (msgC (wipeM m 83) (wipeE ev 83) (wipeI iv 83)) 31 (0, 0)) ∧ w.grownBy w' (some b) := by
  have Hblk := Lib.hid hblk
  have c15 : w.cell? ⟨b, 15, none⟩ = (msgC m ev iv)[15]? := cell_of_row w b 15 _ _ _ hblk
  have f15 : w.frozen? ⟨b, 15, none⟩ = false := by simp [World.frozen?, hblk]
  have c16 : w.cell? ⟨b, 16, none⟩ = (msgC m ev iv)[16]? := cell_of_row w b 16 _ _ _ hblk
  have f16 : w.frozen? ⟨b, 16, none⟩ = false := by simp [World.frozen?, hblk]
  have c17 : w.cell? ⟨b, 17, none⟩ = (msgC m ev iv)[17]? := cell_of_row w b 17 _ _ _ hblk
  have f17 : w.frozen? ⟨b, 17, none⟩ = false := by simp [World.frozen?, hblk]
  have c18 : w.cell? ⟨b, 18, none⟩ = (msgC m ev iv)[18]? := cell_of_row w b 18 _ _ _ hblk
  have f18 : w.frozen? ⟨b, 18, none⟩ = false := by simp [World.frozen?, hblk]
  have c19 : w.cell? ⟨b, 19, none⟩ = (msgC m ev iv)[19]? := cell_of_row w b 19 _ _ _ hblk
  have f19 : w.frozen? ⟨b, 19, none⟩ = false := by simp [World.frozen?, hblk]
  have c20 : w.cell? ⟨b, 20, none⟩ = (msgC m ev iv)[20]? := cell_of_row w b 20 _ _ _ hblk
  have f20 : w.frozen? ⟨b, 20, none⟩ = false := by simp [World.frozen?, hblk]
  simp only [msgC, List.getElem?_toArray, List.getElem?_cons_zero, List.getElem?_cons_succ] at c15
  simp only [msgC, List.getElem?_toArray, List.getElem?_cons_zero, List.getElem?_cons_succ] at c16
  simp only [msgC, List.getElem?_toArray, List.getElem?_cons_zero, List.getElem?_cons_succ] at c17
  simp only [msgC, List.getElem?_toArray, List.getElem?_cons_zero, List.getElem?_cons_succ] at c18
  simp only [msgC, List.getElem?_toArray, List.getElem?_cons_zero, List.getElem?_cons_succ] at c19
  simp only [msgC, List.getElem?_toArray, List.getElem?_cons_zero, List.getElem?_cons_succ] at c20
  clear hblk
  go_enter Tryd.func46, Tryd.ntmps46
  go_wp2_with (go_at_call 45; refine (number_any _ _ _).mono ?_; rintro e w' ⟨rfl, rfl⟩; rw [show numOff 83 = none from rfl]; simp only [Option.map_none])

  go_end0
  exact ⟨rfl, ((set_block 20 _ (set_block 19 _ (set_block 18 _ (set_block 17 _ (set_block 16 _ (set_block 15 _ Hblk.out))))))).trans (congrArg (fun a => some (Obj.cells a 31 (0, 0))) (arr_83 m ev iv)), (set_grown 20 _ (set_grown 19 _ (set_grown 18 _ (set_grown 17 _ (set_grown 16 _ (set_grown 15 _ (World.grownBy_refl' _ _)))))))⟩
theorem arr_69 (m : Msg) (ev iv : Value) : ((((((((((msgC m ev iv).setIfInBounds 21 (.int .i64 0)).setIfInBounds 22 (.int .i64 0)).setIfInBounds 23 (.int .i64 0)).setIfInBounds 24 (.int .u64 0)).setIfInBounds 25 (.int .i64 0)).setIfInBounds 26 (.int .i64 0)).setIfInBounds 27 (.int .i64 0)).setIfInBounds 28 (.int .i64 0)).setIfInBounds 29 (.string (str []))) = msgC (wipeM m 69) (wipeE ev 69) (wipeI iv 69) := by kernel_rfl


set_option maxRecDepth 100000 in
set_option maxHeartbeats 1000000 in
theorem wipe_69 (b : Nat) (m : Msg) (ev iv : Value) (w : World) (hblk : w.heap[b]? = some (.cells (msgC m ev iv) 31 (0, 0))) :
    Calls Tryd.prog 46 #[.pointer (some ⟨b, 0, none⟩), .int .i32 69] w fun e w' => e = .returned (.tuple #[]) ∧ w'.heap[b]? = some (.cells (msgC (wipeM m 69) (wipeE ev 69) (wipeI iv 69)) 31 (0, 0)) ∧ w.grownBy w' (some b) := by
  have Hblk := Lib.hid hblk
  have c21 : w.cell? ⟨b, 21, none⟩ = (msgC m ev iv)[21]? := cell_of_row w b 21 _ _ _ hblk
  have f21 : w.frozen? ⟨b, 21, none⟩ = false := by simp [World.frozen?, hblk]
  have c22 : w.cell? ⟨b, 22, none⟩ = (msgC m ev iv)[22]? := cell_of_row w b 22 _ _ _ hblk
  have f22 : w.frozen? ⟨b, 22, none⟩ = false := by simp [World.frozen?, hblk]
  have c23 : w.cell? ⟨b, 23, none⟩ = (msgC m ev iv)[23]? := cell_of_row w b 23 _ _ _ hblk
  have f23 : w.frozen? ⟨b, 23, none⟩ = false := by simp [World.frozen?, hblk]
  have c24 : w.cell? ⟨b, 24, none⟩ = (msgC m ev iv)[24]? := cell_of_row w b 24 _ _ _ hblk
  have f24 : w.frozen? ⟨b, 24, none⟩ = false := by simp [World.frozen?, hblk]
  have c25 : w.cell? ⟨b, 25, none⟩ = (msgC m ev iv)[25]? := cell_of_row w b 25 _ _ _ hblk
  have f25 : w.frozen? ⟨b, 25, none⟩ = false := by simp [World.frozen?, hblk]
  have c26 : w.cell? ⟨b, 26, none⟩ = (msgC m ev iv)[26]? := cell_of_row w b 26 _ _ _ hblk
  have f26 : w.frozen? ⟨b, 26, none⟩ = false := by simp [World.frozen?, hblk]
  have c27 : w.cell? ⟨b, 27, none⟩ = (msgC m ev iv)[27]? := cell_of_row w b 27 _ _ _ hblk
  have f27 : w.frozen? ⟨b, 27, none⟩ = false := by simp [World.frozen?, hblk]
  have c28 : w.cell? ⟨b, 28, none⟩ = (msgC m ev iv)[28]? := cell_of_row w b 28 _ _ _ hblk
  have f28 : w.frozen? ⟨b, 28, none⟩ = false := by simp [World.frozen?, hblk]
  have c29 : w.cell? ⟨b, 29, none⟩ = (msgC m ev iv)[29]? := cell_of_row w b 29 _ _ _ hblk
  have f29 : w.frozen? ⟨b, 29, none⟩ = false := by simp [World.frozen?, hblk]
  simp only [msgC, List.getElem?_toArray, List.getElem?_cons_zero, List.getElem?_cons_succ] at c21
  simp only [msgC, List.getElem?_toArray, List.getElem?_cons_zero, List.getElem?_cons_succ] at c22
  simp only [msgC, List.getElem?_toArray, List.getElem?_cons_zero, List.getElem?_cons_succ] at c23
  simp only [msgC, List.getElem?_toArray, List.getElem?_cons_zero, List.getElem?_cons_succ] at c24
  simp only [msgC, List.getElem?_toArray, List.getElem?_cons_zero, List.getElem?_cons_succ] at c25
  simp only [msgC, List.getElem?_toArray, List.getElem?_cons_zero, List.getElem?_cons_succ] at c26
  simp only [msgC, List.getElem?_toArray, List.getElem?_cons_zero, List.getElem?_cons_succ] at c27
  simp only [msgC, List.getElem?_toArray, List.getElem?_cons_zero, List.getElem?_cons_succ] at c28
  simp only [msgC, List.getElem?_toArray, List.getElem?_cons_zero, List.getElem?_cons_succ] at c29
  clear hblk
  go_enter Tryd.func46, Tryd.ntmps46
  go_wp2_with (go_at_call 45; refine (number_any _ _ _).mono ?_; rintro e w' ⟨rfl, rfl⟩; rw [show numOff 69 = none from rfl]; simp only [Option.map_none])

  go_end0
  exact ⟨rfl, ((set_block 29 _ (set_block 28 _ (set_block 27 _ (set_block 26 _ (set_block 25 _ (set_block 24 _ (set_block 23 _ (set_block 22 _ (set_block 21 _ Hblk.out)))))))))).trans (congrArg (fun a => some (Obj.cells a 31 (0, 0))) (arr_69 m ev iv)), (set_grown 29 _ (set_grown 28 _ (set_grown 27 _ (set_grown 26 _ (set_grown 25 _ (set_grown 24 _ (set_grown 23 _ (set_grown 22 _ (set_grown 21 _ (World.grownBy_refl' _ _))))))))))⟩
theorem arr_76 (m : Msg) (ev iv : Value) : ((msgC m ev iv).setIfInBounds 30 (.slice none 0 0)) = msgC (wipeM m 76) (wipeE ev 76) (wipeI iv 76) := by kernel_rfl


set_option maxRecDepth 100000 in
set_option maxHeartbeats 1000000 in
theorem wipe_76 (b : Nat) (m : Msg) (ev iv : Value) (w : World) (hblk : w.heap[b]? = some (.cells (msgC m ev iv) 31 (0, 0))) :
    Calls Tryd.prog 46 #[.pointer (some ⟨b, 0, none⟩), .int .i32 76] w fun e w' => e = .returned (.tuple #[]) ∧ w'.heap[b]? = some (.cells (msgC (wipeM m 76) (wipeE ev 76) (wipeI iv 76)) 31 (0, 0)) ∧ w.grownBy w' (some b) := by
  have Hblk := Lib.hid hblk
  have c30 : w.cell? ⟨b, 30, none⟩ = (msgC m ev iv)[30]? := cell_of_row w b 30 _ _ _ hblk
  have f30 : w.frozen? ⟨b, 30, none⟩ = false := by simp [World.frozen?, hblk]
  simp only [msgC, List.getElem?_toArray, List.getElem?_cons_zero, List.getElem?_cons_succ] at c30
  clear hblk
  go_enter Tryd.func46, Tryd.ntmps46
  go_wp2_with (go_at_call 45; refine (number_any _ _ _).mono ?_; rintro e w' ⟨rfl, rfl⟩; rw [show numOff 76 = none from rfl]; simp only [Option.map_none])

  go_end0
  exact ⟨rfl, ((set_block 30 _ Hblk.out)).trans (congrArg (fun a => some (Obj.cells a 31 (0, 0))) (arr_76 m ev iv)), (set_grown 30 _ (World.grownBy_refl' _ _))⟩
theorem arr_73 (m : Msg) (ev iv : Value) : ((msgC m ev iv).setIfInBounds 31 (.slice none 0 0)) = msgC (wipeM m 73) (wipeE ev 73) (wipeI iv 73) := by kernel_rfl


set_option maxRecDepth 100000 in
set_option maxHeartbeats 1000000 in
theorem wipe_73 (b : Nat) (m : Msg) (ev iv : Value) (w : World) (hblk : w.heap[b]? = some (.cells (msgC m ev iv) 31 (0, 0))) :
    Calls Tryd.prog 46 #[.pointer (some ⟨b, 0, none⟩), .int .i32 73] w fun e w' => e = .returned (.tuple #[]) ∧ w'.heap[b]? = some (.cells (msgC (wipeM m 73) (wipeE ev 73) (wipeI iv 73)) 31 (0, 0)) ∧ w.grownBy w' (some b) := by
  have Hblk := Lib.hid hblk
  have c31 : w.cell? ⟨b, 31, none⟩ = (msgC m ev iv)[31]? := cell_of_row w b 31 _ _ _ hblk
  have f31 : w.frozen? ⟨b, 31, none⟩ = false := by simp [World.frozen?, hblk]
  simp only [msgC, List.getElem?_toArray, List.getElem?_cons_zero, List.getElem?_cons_succ] at c31
  clear hblk
  go_enter Tryd.func46, Tryd.ntmps46
  go_wp2_with (go_at_call 45; refine (number_any _ _ _).mono ?_; rintro e w' ⟨rfl, rfl⟩; rw [show numOff 73 = none from rfl]; simp only [Option.map_none])

  go_end0
  exact ⟨rfl, ((set_block 31 _ Hblk.out)).trans (congrArg (fun a => some (Obj.cells a 31 (0, 0))) (arr_73 m ev iv)), (set_grown 31 _ (World.grownBy_refl' _ _))⟩
theorem arr_66 (m : Msg) (ev iv : Value) : ((msgC m ev iv).setIfInBounds 32 (.string (str []))) = msgC (wipeM m 66) (wipeE ev 66) (wipeI iv 66) := by kernel_rfl


set_option maxRecDepth 100000 in
set_option maxHeartbeats 1000000 in
theorem wipe_66 (b : Nat) (m : Msg) (ev iv : Value) (w : World) (hblk : w.heap[b]? = some (.cells (msgC m ev iv) 31 (0, 0))) :
    Calls Tryd.prog 46 #[.pointer (some ⟨b, 0, none⟩), .int .i32 66] w fun e w' => e = .returned (.tuple #[]) ∧ w'.heap[b]? = some (.cells (msgC (wipeM m 66) (wipeE ev 66) (wipeI iv 66)) 31 (0, 0)) ∧ w.grownBy w' (some b) := by
  have Hblk := Lib.hid hblk
  have c32 : w.cell? ⟨b, 32, none⟩ = (msgC m ev iv)[32]? := cell_of_row w b 32 _ _ _ hblk
  have f32 : w.frozen? ⟨b, 32, none⟩ = false := by simp [World.frozen?, hblk]
  simp only [msgC, List.getElem?_toArray, List.getElem?_cons_zero, List.getElem?_cons_succ] at c32
  clear hblk
  go_enter Tryd.func46, Tryd.ntmps46
  go_wp2_with (go_at_call 45; refine (number_any _ _ _).mono ?_; rintro e w' ⟨rfl, rfl⟩; rw [show numOff 66 = none from rfl]; simp only [Option.map_none])

  go_end0
  exact ⟨rfl, ((set_block 32 _ Hblk.out)).trans (congrArg (fun a => some (Obj.cells a 31 (0, 0))) (arr_66 m ev iv)), (set_grown 32 _ (World.grownBy_refl' _ _))⟩

theorem wipe_any (b : Nat) (m : Msg) (ev iv : Value) (f : UInt8) (hf : f ∈ fieldL) (w : World) (hblk : w.heap[b]? = some (.cells (msgC m ev iv) 31 (0, 0))) :
    Calls Tryd.prog 46 #[.pointer (some ⟨b, 0, none⟩), .int .i32 f.toNat] w fun e w' => e = .returned (.tuple #[]) ∧ w'.heap[b]? = some (.cells (msgC (wipeM m f) (wipeE ev f) (wipeI iv f)) 31 (0, 0)) ∧ w.grownBy w' (some b) := by
  simp only [fieldL, List.mem_cons, List.not_mem_nil, or_false] at hf
  rcases hf with rfl | rfl | rfl | rfl | rfl | rfl | rfl | rfl | rfl | rfl | rfl | rfl | rfl | rfl | rfl | rfl
  · exact wipe_118 b m ev iv w hblk
  · exact wipe_108 b m ev iv w hblk
  · exact wipe_111 b m ev iv w hblk
  · exact wipe_99 b m ev iv w hblk
  · exact wipe_119 b m ev iv w hblk
  · exact wipe_115 b m ev iv w hblk
  · exact wipe_114 b m ev iv w hblk
  · exact wipe_112 b m ev iv w hblk
  · exact wipe_105 b m ev iv w hblk
  · exact wipe_122 b m ev iv w hblk
  · exact wipe_67 b m ev iv w hblk
  · exact wipe_83 b m ev iv w hblk
  · exact wipe_69 b m ev iv w hblk
  · exact wipe_76 b m ev iv w hblk
  · exact wipe_73 b m ev iv w hblk
  · exact wipe_66 b m ev iv w hblk

end Go.Proofs.YtmidfknlmjgjpaaDoor
