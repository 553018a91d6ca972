/-
  No cell of these rows narrows 'for every input' (looked for: loops, veiled, ifaces, maps, wideKeys, modest, calm, conditions, laid).
  DERIVED. THE GIVEN ROWS OF THIS SEAT. 6 by the template 'for every input the law returns true; each argument reads behind the call as it read before'; 0 by the template 'total and deterministic' (their statements: YtkiijfgoaeiphaaTotals.lean).
  GIVEN WITH THE SEED: the statements are not yours to turn. If you find one false, say at which input.
  Laid BY PROGRAM, IN A SANDBOX (cutbox-rows.mjs): the forced cells as the released guide's own fill.sh prints them over the translation 83178e51b9095fb6… (all of the seat's roots in one cut). By AI agents, Wed Nov 11 2026. No macro, syntax, notation, axiom, sorry.
-/
import Derived.Test.YtkiijfgoaeiphaaChecked
import GoSem.Claim
import GoSem.ClaimJoined
import GoSem.ClaimMapViews
import Derived.JoinedTies
import Derived.KernelRfl
namespace Go.Proofs.Ytkiijfgoaeiphaa
/- THE CELL 'sum', in the pinned program and in every row, IS THE sha256 OF THE DUMP (.gsa) THAT YtkiijfgoaeiphaaProg.lean LOADS. Nothing in Lean hashes anything: it is a label: what it is worth is what the hold of that sum in a sandbox is worth. -/
noncomputable def Try.pinned : Pinned := { name := "ytkiijfgoaeiphaa", sum := "83178e51b9095fb674a235d11cf646f73218486a8cc5d39cf82a1cd210ca39cf", checked := Try.checked }
namespace Rows
def none {H : Type} : Left H := { results := [], args := [] }

/-- 'parlancelaw10.ParseFronts': WHATEVER THE INPUT: true; the input reads as it did. -/
def parseFrontsSpec : ChangeSpec := { name := "parseFronts", fn := fun _ => fun
  | [d] => { results := [.lit (.bool true)], args := [d] }
  | _ => none }
def parseFrontsRow : OpenClaim := { program := "ytkiijfgoaeiphaa", sum := "83178e51b9095fb674a235d11cf646f73218486a8cc5d39cf82a1cd210ca39cf", func := "parlance/parlancelaw10.ParseFronts", spec := "parseFronts", unfollowed := true, recurses := true, apart := false }
def ParseFrontsSaid : Prop := parseFrontsRow.holds Try.pinned (OpenSpec.ofChange parseFrontsSpec)

/-- ITS FALSE NEIGHBOUR: 'it returns false'. Refute it at one input. -/
def parseFrontsWrong : ChangeSpec := { name := "parseFronts", fn := fun _ => fun
  | [d] => { results := [.lit (.bool false)], args := [d] }
  | _ => none }
def ParseFrontsWrongFalsely : Prop := parseFrontsRow.holds Try.pinned (OpenSpec.ofChange parseFrontsWrong)

/-- 'parlancelaw10.ParseApart': WHATEVER THE INPUT: true; the input reads as it did. -/
def parseApartSpec : ChangeSpec := { name := "parseApart", fn := fun _ => fun
  | [d1, d2] => { results := [.lit (.bool true)], args := [d1, d2] }
  | _ => none }
def parseApartRow : OpenClaim := { program := "ytkiijfgoaeiphaa", sum := "83178e51b9095fb674a235d11cf646f73218486a8cc5d39cf82a1cd210ca39cf", func := "parlance/parlancelaw10.ParseApart", spec := "parseApart", unfollowed := true, recurses := true, apart := false }
def ParseApartSaid : Prop := parseApartRow.holds Try.pinned (OpenSpec.ofChange parseApartSpec)

/-- ITS FALSE NEIGHBOUR: 'it returns false'. Refute it at one input. -/
def parseApartWrong : ChangeSpec := { name := "parseApart", fn := fun _ => fun
  | [d1, d2] => { results := [.lit (.bool false)], args := [d1, d2] }
  | _ => none }
def ParseApartWrongFalsely : Prop := parseApartRow.holds Try.pinned (OpenSpec.ofChange parseApartWrong)

/-- 'parlancelaw10.ParseDeep': WHATEVER THE INPUT: true; the input reads as it did. -/
def parseDeepSpec : ChangeSpec := { name := "parseDeep", fn := fun _ => fun
  | [d] => { results := [.lit (.bool true)], args := [d] }
  | _ => none }
def parseDeepRow : OpenClaim := { program := "ytkiijfgoaeiphaa", sum := "83178e51b9095fb674a235d11cf646f73218486a8cc5d39cf82a1cd210ca39cf", func := "parlance/parlancelaw10.ParseDeep", spec := "parseDeep", unfollowed := true, recurses := true, apart := false }
def ParseDeepSaid : Prop := parseDeepRow.holds Try.pinned (OpenSpec.ofChange parseDeepSpec)

/-- ITS FALSE NEIGHBOUR: 'it returns false'. Refute it at one input. -/
def parseDeepWrong : ChangeSpec := { name := "parseDeep", fn := fun _ => fun
  | [d] => { results := [.lit (.bool false)], args := [d] }
  | _ => none }
def ParseDeepWrongFalsely : Prop := parseDeepRow.holds Try.pinned (OpenSpec.ofChange parseDeepWrong)

/-- 'parlancelaw11.ReparseRows': WHATEVER THE INPUT: true; the input reads as it did. -/
def reparseRowsSpec : ChangeSpec := { name := "reparseRows", fn := fun _ => fun
  | [d] => { results := [.lit (.bool true)], args := [d] }
  | _ => none }
def reparseRowsRow : OpenClaim := { program := "ytkiijfgoaeiphaa", sum := "83178e51b9095fb674a235d11cf646f73218486a8cc5d39cf82a1cd210ca39cf", func := "parlance/parlancelaw11.ReparseRows", spec := "reparseRows", unfollowed := true, recurses := true, apart := false }
def ReparseRowsSaid : Prop := reparseRowsRow.holds Try.pinned (OpenSpec.ofChange reparseRowsSpec)

/-- ITS FALSE NEIGHBOUR: 'it returns false'. Refute it at one input. -/
def reparseRowsWrong : ChangeSpec := { name := "reparseRows", fn := fun _ => fun
  | [d] => { results := [.lit (.bool false)], args := [d] }
  | _ => none }
def ReparseRowsWrongFalsely : Prop := reparseRowsRow.holds Try.pinned (OpenSpec.ofChange reparseRowsWrong)

/-- 'parlancelaw11.ReparseSame': WHATEVER THE INPUT: true; the input reads as it did. -/
def reparseSameSpec : ChangeSpec := { name := "reparseSame", fn := fun _ => fun
  | [d1, d2] => { results := [.lit (.bool true)], args := [d1, d2] }
  | _ => none }
def reparseSameRow : OpenClaim := { program := "ytkiijfgoaeiphaa", sum := "83178e51b9095fb674a235d11cf646f73218486a8cc5d39cf82a1cd210ca39cf", func := "parlance/parlancelaw11.ReparseSame", spec := "reparseSame", unfollowed := true, recurses := true, apart := false }
def ReparseSameSaid : Prop := reparseSameRow.holds Try.pinned (OpenSpec.ofChange reparseSameSpec)

/-- ITS FALSE NEIGHBOUR: 'it returns false'. Refute it at one input. -/
def reparseSameWrong : ChangeSpec := { name := "reparseSame", fn := fun _ => fun
  | [d1, d2] => { results := [.lit (.bool false)], args := [d1, d2] }
  | _ => none }
def ReparseSameWrongFalsely : Prop := reparseSameRow.holds Try.pinned (OpenSpec.ofChange reparseSameWrong)

/-- 'parlancelaw11.ReparseMemory': WHATEVER THE INPUT: true; the input reads as it did. -/
def reparseMemorySpec : ChangeSpec := { name := "reparseMemory", fn := fun _ => fun
  | [d1, d2] => { results := [.lit (.bool true)], args := [d1, d2] }
  | _ => none }
def reparseMemoryRow : OpenClaim := { program := "ytkiijfgoaeiphaa", sum := "83178e51b9095fb674a235d11cf646f73218486a8cc5d39cf82a1cd210ca39cf", func := "parlance/parlancelaw11.ReparseMemory", spec := "reparseMemory", unfollowed := true, recurses := true, apart := false }
def ReparseMemorySaid : Prop := reparseMemoryRow.holds Try.pinned (OpenSpec.ofChange reparseMemorySpec)

/-- ITS FALSE NEIGHBOUR: 'it returns false'. Refute it at one input. -/
def reparseMemoryWrong : ChangeSpec := { name := "reparseMemory", fn := fun _ => fun
  | [d1, d2] => { results := [.lit (.bool false)], args := [d1, d2] }
  | _ => none }
def ReparseMemoryWrongFalsely : Prop := reparseMemoryRow.holds Try.pinned (OpenSpec.ofChange reparseMemoryWrong)

/- THE SECOND FORM. 'bulk': how many values and letters a reading holds, each counted each time it is reached (what is shared counts as often as it is met; a slice's spare places count too). A statement '..UptoSaid' is the law's where the arguments, and the package variables that the reading takes, are together of bulk at most 1048576: NARROWER than '..Said'. Prove '..Said' where nothing that the law and all that it calls make is longer than what came in: it says more and counts as full. Else prove '..UptoSaid'. A law counts once. -/
mutual
def uptoBulk {H : Type} : DataW H → Nat
  | .lit (.string bytes) => bytes.length + 1
  | .lit _ => 1
  | .nil => 1
  | .ptr d => uptoBulk d + 1
  | .slice elems spare => uptoBulkAll elems + uptoBulkAll spare + 1
  | .agg parts => uptoBulkAll parts + 1
  | .iface _ d => uptoBulk d + 1
  | .map entries => uptoBulkEntries entries + 1
  | .held _ => 1
def uptoBulkAll {H : Type} : List (DataW H) → Nat
  | [] => 0
  | d :: r => uptoBulk d + uptoBulkAll r
def uptoBulkEntries {H : Type} : List (Lit × DataW H) → Nat
  | [] => 0
  | x :: r => uptoBulkEntry x + uptoBulkEntries r
def uptoBulkEntry {H : Type} : Lit × DataW H → Nat
  | (.string bytes, d) => bytes.length + uptoBulk d + 1
  | (_, d) => uptoBulk d + 1
 end
def uptoSmall : (H : Type) → List (DataW H) → Bool := fun _ ds => decide (uptoBulkAll ds ≤ 1048576)
def OpenSpec.upto (s : _root_.Go.ChangeSpec) : _root_.Go.OpenSpec := { _root_.Go.OpenSpec.ofChange s with cond := some uptoSmall }

/-- 'parlancelaw10.ParseFronts', WHERE WHAT IT READS IS OF BULK AT MOST 1048576: true; the input reads as it did. -/
def parseFrontsUptoRow : OpenClaim := { program := "ytkiijfgoaeiphaa", sum := "83178e51b9095fb674a235d11cf646f73218486a8cc5d39cf82a1cd210ca39cf", func := "parlance/parlancelaw10.ParseFronts", spec := "parseFronts", unfollowed := true, recurses := true, apart := false, narrowed := true }
def ParseFrontsUptoSaid : Prop := parseFrontsUptoRow.holds Try.pinned (OpenSpec.upto parseFrontsSpec)

/-- 'parlancelaw10.ParseApart', WHERE WHAT IT READS IS OF BULK AT MOST 1048576: true; the input reads as it did. -/
def parseApartUptoRow : OpenClaim := { program := "ytkiijfgoaeiphaa", sum := "83178e51b9095fb674a235d11cf646f73218486a8cc5d39cf82a1cd210ca39cf", func := "parlance/parlancelaw10.ParseApart", spec := "parseApart", unfollowed := true, recurses := true, apart := false, narrowed := true }
def ParseApartUptoSaid : Prop := parseApartUptoRow.holds Try.pinned (OpenSpec.upto parseApartSpec)

/-- 'parlancelaw10.ParseDeep', WHERE WHAT IT READS IS OF BULK AT MOST 1048576: true; the input reads as it did. -/
def parseDeepUptoRow : OpenClaim := { program := "ytkiijfgoaeiphaa", sum := "83178e51b9095fb674a235d11cf646f73218486a8cc5d39cf82a1cd210ca39cf", func := "parlance/parlancelaw10.ParseDeep", spec := "parseDeep", unfollowed := true, recurses := true, apart := false, narrowed := true }
def ParseDeepUptoSaid : Prop := parseDeepUptoRow.holds Try.pinned (OpenSpec.upto parseDeepSpec)

/-- 'parlancelaw11.ReparseRows', WHERE WHAT IT READS IS OF BULK AT MOST 1048576: true; the input reads as it did. -/
def reparseRowsUptoRow : OpenClaim := { program := "ytkiijfgoaeiphaa", sum := "83178e51b9095fb674a235d11cf646f73218486a8cc5d39cf82a1cd210ca39cf", func := "parlance/parlancelaw11.ReparseRows", spec := "reparseRows", unfollowed := true, recurses := true, apart := false, narrowed := true }
def ReparseRowsUptoSaid : Prop := reparseRowsUptoRow.holds Try.pinned (OpenSpec.upto reparseRowsSpec)

/-- 'parlancelaw11.ReparseSame', WHERE WHAT IT READS IS OF BULK AT MOST 1048576: true; the input reads as it did. -/
def reparseSameUptoRow : OpenClaim := { program := "ytkiijfgoaeiphaa", sum := "83178e51b9095fb674a235d11cf646f73218486a8cc5d39cf82a1cd210ca39cf", func := "parlance/parlancelaw11.ReparseSame", spec := "reparseSame", unfollowed := true, recurses := true, apart := false, narrowed := true }
def ReparseSameUptoSaid : Prop := reparseSameUptoRow.holds Try.pinned (OpenSpec.upto reparseSameSpec)

/-- 'parlancelaw11.ReparseMemory', WHERE WHAT IT READS IS OF BULK AT MOST 1048576: true; the input reads as it did. -/
def reparseMemoryUptoRow : OpenClaim := { program := "ytkiijfgoaeiphaa", sum := "83178e51b9095fb674a235d11cf646f73218486a8cc5d39cf82a1cd210ca39cf", func := "parlance/parlancelaw11.ReparseMemory", spec := "reparseMemory", unfollowed := true, recurses := true, apart := false, narrowed := true }
def ReparseMemoryUptoSaid : Prop := reparseMemoryUptoRow.holds Try.pinned (OpenSpec.upto reparseMemorySpec)

end Rows
end Go.Proofs.Ytkiijfgoaeiphaa
