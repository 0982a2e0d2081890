/-
  NARROWER THAN 'FOR EVERY INPUT', by the rows' own cells (each row's printed sentence says how): MsgUnlike: laid · ClientSame: laid · MsgEncodes: laid · MsgDecodes: laid · MsgTurns: laid · ClientOnce: laid · ClientNil: laid.
  DERIVED. THE GIVEN ROWS OF THIS SEAT. 7 by the template 'for every input the law returns true; each argument reads behind the call as it read before'; 0 by the template 'total and deterministic' (their statements: YtmidfknlmjgjpaaDoorTotals.lean).
  GIVEN WITH THE SEED: the statements are not yours to turn. If you find one false, say at which input.
  Laid BY PROGRAM, IN A SANDBOX (cutbox-rows.mjs): the forced cells as the released guide's own fill.sh prints them over the translation 9c5cc2b204e5a2d9… (all of the seat's roots in one cut). By AI agents, Wed Nov 11 2026. No macro, syntax, notation, axiom, sorry.
-/
import Derived.Test.YtmidfknlmjgjpaaDoorChecked
import GoSem.Claim
import GoSem.ClaimJoined
import GoSem.ClaimMapViews
import Derived.JoinedTies
import Derived.KernelRfl
namespace Go.Proofs.YtmidfknlmjgjpaaDoor
/- THE CELL 'sum', in the pinned program and in every row, IS THE sha256 OF THE DUMP (.gsa) THAT YtmidfknlmjgjpaaDoorProg.lean LOADS. Nothing in Lean hashes anything: it is a label: what it is worth is what the hold of that sum in a sandbox is worth. -/
noncomputable def Tryd.pinned : Pinned := { name := "ytmidfknlmjgjpaadoor", sum := "9c5cc2b204e5a2d9b7637322193866532b0f19d42392602cfcff58392e26394f", checked := Tryd.checked }
namespace Rows
def none {H : Type} : Left H := { results := [], args := [] }

/- WHAT THE LISTED PACKAGE-LEVEL VARIABLES READ AS WHEN THE CALL BEGINS. Each datum BY PROGRAM (the guide's laid-datum.mjs) off the statement by which the dump's own 'gosem.cut.vars' lays the variable. In a bare row this is a premise. The card (YtmidfknlmjgjpaaDoorCards.lean) ties it to the program's text. -/
def laid_comptor_msg_all {H : Type} : DataW H := .agg [.lit (.string [119, 115, 114, 112, 66]), .lit (.string [118, 99, 69]), .lit (.string [118, 111]), .lit (.string [118, 111, 119, 115, 114, 66]), .lit (.string [118, 99]), .lit (.string [118]), .lit (.string [118, 108, 99, 67, 73]), .lit (.string [118, 99, 67, 76]), .lit (.string [118]), .lit (.string [111]), .lit (.string [69]), .lit (.string []), .lit (.string [67, 122, 83]), .lit (.string [67, 105]), .lit (.string [67, 105, 66]), .lit (.string [118, 111, 119, 115, 114])]

/-- 'comptorlaw17.MsgUnlike': WHATEVER THE INPUT: true; the input reads as it did. -/
def msgUnlikeSpec : ChangeSpec := { name := "msgUnlike", fn := fun _ => fun
  | [d1, d2] => { results := [.lit (.bool true)], args := [d1, d2] }
  | _ => none }
def msgUnlikeRow : OpenClaim := { program := "ytmidfknlmjgjpaadoor", sum := "9c5cc2b204e5a2d9b7637322193866532b0f19d42392602cfcff58392e26394f", func := "comptor/comptorlaw17.MsgUnlike", spec := "msgUnlike", inPlace := ["internal/bytealg.IndexByteString", "internal/bytealg.IndexString", "internal/bytealg.MakeNoZero"], named := ["comptor/msg.all", "internal/bytealg.MaxLen"], apart := false, laid := [("comptor/msg.all", laid_comptor_msg_all)] }
def MsgUnlikeSaid : Prop := msgUnlikeRow.holds Tryd.pinned (OpenSpec.ofChange msgUnlikeSpec)

/-- ITS FALSE NEIGHBOUR: 'it returns false'. Refute it at one input. -/
def msgUnlikeWrong : ChangeSpec := { name := "msgUnlike", fn := fun _ => fun
  | [d1, d2] => { results := [.lit (.bool false)], args := [d1, d2] }
  | _ => none }
def MsgUnlikeWrongFalsely : Prop := msgUnlikeRow.holds Tryd.pinned (OpenSpec.ofChange msgUnlikeWrong)

/-- 'comptorlaw22.ClientSame': WHATEVER THE INPUT: true; the input reads as it did. -/
def clientSameSpec : ChangeSpec := { name := "clientSame", fn := fun _ => fun
  | [d1, d2, d3, d4] => { results := [.lit (.bool true)], args := [d1, d2, d3, d4] }
  | _ => none }
def clientSameRow : OpenClaim := { program := "ytmidfknlmjgjpaadoor", sum := "9c5cc2b204e5a2d9b7637322193866532b0f19d42392602cfcff58392e26394f", func := "comptor/comptorlaw22.ClientSame", spec := "clientSame", inPlace := ["internal/bytealg.IndexByteString", "internal/bytealg.IndexString", "internal/bytealg.MakeNoZero"], named := ["comptor/msg.all", "internal/bytealg.MaxLen"], apart := false, laid := [("comptor/msg.all", laid_comptor_msg_all)] }
def ClientSameSaid : Prop := clientSameRow.holds Tryd.pinned (OpenSpec.ofChange clientSameSpec)

/-- ITS FALSE NEIGHBOUR: 'it returns false'. Refute it at one input. -/
def clientSameWrong : ChangeSpec := { name := "clientSame", fn := fun _ => fun
  | [d1, d2, d3, d4] => { results := [.lit (.bool false)], args := [d1, d2, d3, d4] }
  | _ => none }
def ClientSameWrongFalsely : Prop := clientSameRow.holds Tryd.pinned (OpenSpec.ofChange clientSameWrong)

/-- 'comptorlaw17.MsgEncodes': WHATEVER THE INPUT: true; the input reads as it did. -/
def msgEncodesSpec : ChangeSpec := { name := "msgEncodes", fn := fun _ => fun
  | [d] => { results := [.lit (.bool true)], args := [d] }
  | _ => none }
def msgEncodesRow : OpenClaim := { program := "ytmidfknlmjgjpaadoor", sum := "9c5cc2b204e5a2d9b7637322193866532b0f19d42392602cfcff58392e26394f", func := "comptor/comptorlaw17.MsgEncodes", spec := "msgEncodes", inPlace := ["internal/bytealg.IndexByteString", "internal/bytealg.IndexString", "internal/bytealg.MakeNoZero"], named := ["comptor/msg.all", "internal/bytealg.MaxLen"], apart := false, laid := [("comptor/msg.all", laid_comptor_msg_all)] }
def MsgEncodesSaid : Prop := msgEncodesRow.holds Tryd.pinned (OpenSpec.ofChange msgEncodesSpec)

/-- ITS FALSE NEIGHBOUR: 'it returns false'. Refute it at one input. -/
def msgEncodesWrong : ChangeSpec := { name := "msgEncodes", fn := fun _ => fun
  | [d] => { results := [.lit (.bool false)], args := [d] }
  | _ => none }
def MsgEncodesWrongFalsely : Prop := msgEncodesRow.holds Tryd.pinned (OpenSpec.ofChange msgEncodesWrong)

/-- 'comptorlaw17.MsgDecodes': WHATEVER THE INPUT: true; the input reads as it did. -/
def msgDecodesSpec : ChangeSpec := { name := "msgDecodes", fn := fun _ => fun
  | [d] => { results := [.lit (.bool true)], args := [d] }
  | _ => none }
def msgDecodesRow : OpenClaim := { program := "ytmidfknlmjgjpaadoor", sum := "9c5cc2b204e5a2d9b7637322193866532b0f19d42392602cfcff58392e26394f", func := "comptor/comptorlaw17.MsgDecodes", spec := "msgDecodes", inPlace := ["internal/bytealg.IndexByteString", "internal/bytealg.IndexString", "internal/bytealg.MakeNoZero"], named := ["comptor/msg.all", "internal/bytealg.MaxLen"], apart := false, laid := [("comptor/msg.all", laid_comptor_msg_all)] }
def MsgDecodesSaid : Prop := msgDecodesRow.holds Tryd.pinned (OpenSpec.ofChange msgDecodesSpec)

/-- ITS FALSE NEIGHBOUR: 'it returns false'. Refute it at one input. -/
def msgDecodesWrong : ChangeSpec := { name := "msgDecodes", fn := fun _ => fun
  | [d] => { results := [.lit (.bool false)], args := [d] }
  | _ => none }
def MsgDecodesWrongFalsely : Prop := msgDecodesRow.holds Tryd.pinned (OpenSpec.ofChange msgDecodesWrong)

/-- 'comptorlaw17.MsgTurns': WHATEVER THE INPUT: true; the input reads as it did. -/
def msgTurnsSpec : ChangeSpec := { name := "msgTurns", fn := fun _ => fun
  | [d1, d2, d3] => { results := [.lit (.bool true)], args := [d1, d2, d3] }
  | _ => none }
def msgTurnsRow : OpenClaim := { program := "ytmidfknlmjgjpaadoor", sum := "9c5cc2b204e5a2d9b7637322193866532b0f19d42392602cfcff58392e26394f", func := "comptor/comptorlaw17.MsgTurns", spec := "msgTurns", inPlace := ["internal/bytealg.IndexByteString", "internal/bytealg.IndexString", "internal/bytealg.MakeNoZero"], named := ["comptor/msg.all", "internal/bytealg.MaxLen"], apart := false, laid := [("comptor/msg.all", laid_comptor_msg_all)] }
def MsgTurnsSaid : Prop := msgTurnsRow.holds Tryd.pinned (OpenSpec.ofChange msgTurnsSpec)

/-- ITS FALSE NEIGHBOUR: 'it returns false'. Refute it at one input. -/
def msgTurnsWrong : ChangeSpec := { name := "msgTurns", fn := fun _ => fun
  | [d1, d2, d3] => { results := [.lit (.bool false)], args := [d1, d2, d3] }
  | _ => none }
def MsgTurnsWrongFalsely : Prop := msgTurnsRow.holds Tryd.pinned (OpenSpec.ofChange msgTurnsWrong)

/-- 'comptorlaw22.ClientOnce': WHATEVER THE INPUT: true; the input reads as it did. -/
def clientOnceSpec : ChangeSpec := { name := "clientOnce", fn := fun _ => fun
  | [d1, d2, d3] => { results := [.lit (.bool true)], args := [d1, d2, d3] }
  | _ => none }
def clientOnceRow : OpenClaim := { program := "ytmidfknlmjgjpaadoor", sum := "9c5cc2b204e5a2d9b7637322193866532b0f19d42392602cfcff58392e26394f", func := "comptor/comptorlaw22.ClientOnce", spec := "clientOnce", inPlace := ["internal/bytealg.IndexByteString", "internal/bytealg.IndexString", "internal/bytealg.MakeNoZero"], named := ["comptor/msg.all", "internal/bytealg.MaxLen"], apart := false, laid := [("comptor/msg.all", laid_comptor_msg_all)] }
def ClientOnceSaid : Prop := clientOnceRow.holds Tryd.pinned (OpenSpec.ofChange clientOnceSpec)

/-- ITS FALSE NEIGHBOUR: 'it returns false'. Refute it at one input. -/
def clientOnceWrong : ChangeSpec := { name := "clientOnce", fn := fun _ => fun
  | [d1, d2, d3] => { results := [.lit (.bool false)], args := [d1, d2, d3] }
  | _ => none }
def ClientOnceWrongFalsely : Prop := clientOnceRow.holds Tryd.pinned (OpenSpec.ofChange clientOnceWrong)

/-- 'comptorlaw22.ClientNil': WHATEVER THE INPUT: true; the input reads as it did. -/
def clientNilSpec : ChangeSpec := { name := "clientNil", fn := fun _ => fun
  | [d] => { results := [.lit (.bool true)], args := [d] }
  | _ => none }
def clientNilRow : OpenClaim := { program := "ytmidfknlmjgjpaadoor", sum := "9c5cc2b204e5a2d9b7637322193866532b0f19d42392602cfcff58392e26394f", func := "comptor/comptorlaw22.ClientNil", spec := "clientNil", inPlace := ["internal/bytealg.IndexByteString", "internal/bytealg.IndexString", "internal/bytealg.MakeNoZero"], named := ["comptor/msg.all", "internal/bytealg.MaxLen"], apart := false, laid := [("comptor/msg.all", laid_comptor_msg_all)] }
def ClientNilSaid : Prop := clientNilRow.holds Tryd.pinned (OpenSpec.ofChange clientNilSpec)

/-- ITS FALSE NEIGHBOUR: 'it returns false'. Refute it at one input. -/
def clientNilWrong : ChangeSpec := { name := "clientNil", fn := fun _ => fun
  | [d] => { results := [.lit (.bool false)], args := [d] }
  | _ => none }
def ClientNilWrongFalsely : Prop := clientNilRow.holds Tryd.pinned (OpenSpec.ofChange clientNilWrong)

/- THE SECOND FORM. 'bulk': how many values and letters a reading holds, each counted each time it is reached (what is shared counts as often as it is met; a slice's spare places count too). A statement '..UptoSaid' is the law's where the arguments, and the package variables that the reading takes, are together of bulk at most 1048576: NARROWER than '..Said'. Prove '..Said' where nothing that the law and all that it calls make is longer than what came in: it says more and counts as full. Else prove '..UptoSaid'. A law counts once. -/
mutual
def uptoBulk {H : Type} : DataW H → Nat
  | .lit (.string bytes) => bytes.length + 1
  | .lit _ => 1
  | .nil => 1
  | .ptr d => uptoBulk d + 1
  | .slice elems spare => uptoBulkAll elems + uptoBulkAll spare + 1
  | .agg parts => uptoBulkAll parts + 1
  | .iface _ d => uptoBulk d + 1
  | .map entries => uptoBulkEntries entries + 1
  | .held _ => 1
def uptoBulkAll {H : Type} : List (DataW H) → Nat
  | [] => 0
  | d :: r => uptoBulk d + uptoBulkAll r
def uptoBulkEntries {H : Type} : List (Lit × DataW H) → Nat
  | [] => 0
  | x :: r => uptoBulkEntry x + uptoBulkEntries r
def uptoBulkEntry {H : Type} : Lit × DataW H → Nat
  | (.string bytes, d) => bytes.length + uptoBulk d + 1
  | (_, d) => uptoBulk d + 1
 end
def uptoSmall : (H : Type) → List (DataW H) → Bool := fun _ ds => decide (uptoBulkAll ds ≤ 1048576)
def OpenSpec.upto (s : _root_.Go.ChangeSpec) : _root_.Go.OpenSpec := { _root_.Go.OpenSpec.ofChange s with cond := some uptoSmall }

/-- 'comptorlaw17.MsgUnlike', WHERE WHAT IT READS IS OF BULK AT MOST 1048576: true; the input reads as it did. -/
def msgUnlikeUptoRow : OpenClaim := { program := "ytmidfknlmjgjpaadoor", sum := "9c5cc2b204e5a2d9b7637322193866532b0f19d42392602cfcff58392e26394f", func := "comptor/comptorlaw17.MsgUnlike", spec := "msgUnlike", inPlace := ["internal/bytealg.IndexByteString", "internal/bytealg.IndexString", "internal/bytealg.MakeNoZero"], named := ["comptor/msg.all", "internal/bytealg.MaxLen"], apart := false, laid := [("comptor/msg.all", laid_comptor_msg_all)], narrowed := true }
def MsgUnlikeUptoSaid : Prop := msgUnlikeUptoRow.holds Tryd.pinned (OpenSpec.upto msgUnlikeSpec)

/-- 'comptorlaw22.ClientSame', WHERE WHAT IT READS IS OF BULK AT MOST 1048576: true; the input reads as it did. -/
def clientSameUptoRow : OpenClaim := { program := "ytmidfknlmjgjpaadoor", sum := "9c5cc2b204e5a2d9b7637322193866532b0f19d42392602cfcff58392e26394f", func := "comptor/comptorlaw22.ClientSame", spec := "clientSame", inPlace := ["internal/bytealg.IndexByteString", "internal/bytealg.IndexString", "internal/bytealg.MakeNoZero"], named := ["comptor/msg.all", "internal/bytealg.MaxLen"], apart := false, laid := [("comptor/msg.all", laid_comptor_msg_all)], narrowed := true }
def ClientSameUptoSaid : Prop := clientSameUptoRow.holds Tryd.pinned (OpenSpec.upto clientSameSpec)

/-- 'comptorlaw17.MsgEncodes', WHERE WHAT IT READS IS OF BULK AT MOST 1048576: true; the input reads as it did. -/
def msgEncodesUptoRow : OpenClaim := { program := "ytmidfknlmjgjpaadoor", sum := "9c5cc2b204e5a2d9b7637322193866532b0f19d42392602cfcff58392e26394f", func := "comptor/comptorlaw17.MsgEncodes", spec := "msgEncodes", inPlace := ["internal/bytealg.IndexByteString", "internal/bytealg.IndexString", "internal/bytealg.MakeNoZero"], named := ["comptor/msg.all", "internal/bytealg.MaxLen"], apart := false, laid := [("comptor/msg.all", laid_comptor_msg_all)], narrowed := true }
def MsgEncodesUptoSaid : Prop := msgEncodesUptoRow.holds Tryd.pinned (OpenSpec.upto msgEncodesSpec)

/-- 'comptorlaw17.MsgDecodes', WHERE WHAT IT READS IS OF BULK AT MOST 1048576: true; the input reads as it did. -/
def msgDecodesUptoRow : OpenClaim := { program := "ytmidfknlmjgjpaadoor", sum := "9c5cc2b204e5a2d9b7637322193866532b0f19d42392602cfcff58392e26394f", func := "comptor/comptorlaw17.MsgDecodes", spec := "msgDecodes", inPlace := ["internal/bytealg.IndexByteString", "internal/bytealg.IndexString", "internal/bytealg.MakeNoZero"], named := ["comptor/msg.all", "internal/bytealg.MaxLen"], apart := false, laid := [("comptor/msg.all", laid_comptor_msg_all)], narrowed := true }
def MsgDecodesUptoSaid : Prop := msgDecodesUptoRow.holds Tryd.pinned (OpenSpec.upto msgDecodesSpec)

/-- 'comptorlaw17.MsgTurns', WHERE WHAT IT READS IS OF BULK AT MOST 1048576: true; the input reads as it did. -/
def msgTurnsUptoRow : OpenClaim := { program := "ytmidfknlmjgjpaadoor", sum := "9c5cc2b204e5a2d9b7637322193866532b0f19d42392602cfcff58392e26394f", func := "comptor/comptorlaw17.MsgTurns", spec := "msgTurns", inPlace := ["internal/bytealg.IndexByteString", "internal/bytealg.IndexString", "internal/bytealg.MakeNoZero"], named := ["comptor/msg.all", "internal/bytealg.MaxLen"], apart := false, laid := [("comptor/msg.all", laid_comptor_msg_all)], narrowed := true }
def MsgTurnsUptoSaid : Prop := msgTurnsUptoRow.holds Tryd.pinned (OpenSpec.upto msgTurnsSpec)

/-- 'comptorlaw22.ClientOnce', WHERE WHAT IT READS IS OF BULK AT MOST 1048576: true; the input reads as it did. -/
def clientOnceUptoRow : OpenClaim := { program := "ytmidfknlmjgjpaadoor", sum := "9c5cc2b204e5a2d9b7637322193866532b0f19d42392602cfcff58392e26394f", func := "comptor/comptorlaw22.ClientOnce", spec := "clientOnce", inPlace := ["internal/bytealg.IndexByteString", "internal/bytealg.IndexString", "internal/bytealg.MakeNoZero"], named := ["comptor/msg.all", "internal/bytealg.MaxLen"], apart := false, laid := [("comptor/msg.all", laid_comptor_msg_all)], narrowed := true }
def ClientOnceUptoSaid : Prop := clientOnceUptoRow.holds Tryd.pinned (OpenSpec.upto clientOnceSpec)

/-- 'comptorlaw22.ClientNil', WHERE WHAT IT READS IS OF BULK AT MOST 1048576: true; the input reads as it did. -/
def clientNilUptoRow : OpenClaim := { program := "ytmidfknlmjgjpaadoor", sum := "9c5cc2b204e5a2d9b7637322193866532b0f19d42392602cfcff58392e26394f", func := "comptor/comptorlaw22.ClientNil", spec := "clientNil", inPlace := ["internal/bytealg.IndexByteString", "internal/bytealg.IndexString", "internal/bytealg.MakeNoZero"], named := ["comptor/msg.all", "internal/bytealg.MaxLen"], apart := false, laid := [("comptor/msg.all", laid_comptor_msg_all)], narrowed := true }
def ClientNilUptoSaid : Prop := clientNilUptoRow.holds Tryd.pinned (OpenSpec.upto clientNilSpec)

end Rows
end Go.Proofs.YtmidfknlmjgjpaaDoor
