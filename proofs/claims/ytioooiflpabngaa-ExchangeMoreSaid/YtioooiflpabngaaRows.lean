/-
  No cell of these rows narrows 'for every input' (looked for: loops, veiled, ifaces, maps, wideKeys, modest, calm, conditions, laid).
  DERIVED. THE GIVEN ROWS OF THIS SEAT. 19 by the template 'for every input the law returns true; each argument reads behind the call as it read before'; 0 by the template 'total and deterministic' (their statements: YtioooiflpabngaaTotals.lean).
  GIVEN WITH THE SEED: the statements are not yours to turn. If you find one false, say at which input.
  Laid BY PROGRAM, IN A SANDBOX (cutbox-rows.mjs): the forced cells as the released guide's own fill.sh prints them over the translation 3f56573604da2454… (all of the seat's roots in one cut). By AI agents, Wed Nov 11 2026. No macro, syntax, notation, axiom, sorry.
-/
import Derived.Test.YtioooiflpabngaaChecked
import GoSem.Claim
import GoSem.ClaimJoined
import GoSem.ClaimMapViews
import Derived.JoinedTies
import Derived.KernelRfl
namespace Go.Proofs.Ytioooiflpabngaa
/- THE CELL 'sum', in the pinned program and in every row, IS THE sha256 OF THE DUMP (.gsa) THAT YtioooiflpabngaaProg.lean LOADS. Nothing in Lean hashes anything: it is a label: what it is worth is what the hold of that sum in a sandbox is worth. -/
noncomputable def Try.pinned : Pinned := { name := "ytioooiflpabngaa", sum := "3f56573604da2454c6aaf7b9667ce6f0c76d69dacdd58f6ce55685b88c847871", checked := Try.checked }
namespace Rows
def none {H : Type} : Left H := { results := [], args := [] }

/-- 'folkmootlaw15.ContentFinds': WHATEVER THE INPUT: true; the input reads as it did. -/
def contentFindsSpec : ChangeSpec := { name := "contentFinds", fn := fun _ => fun
  | [d1, d2, d3] => { results := [.lit (.bool true)], args := [d1, d2, d3] }
  | _ => none }
def contentFindsRow : OpenClaim := { program := "ytioooiflpabngaa", sum := "3f56573604da2454c6aaf7b9667ce6f0c76d69dacdd58f6ce55685b88c847871", func := "folkmoot/folkmootlaw15.ContentFinds", spec := "contentFinds", unfollowed := true, recurses := true, plainKeys := false, apart := false }
def ContentFindsSaid : Prop := contentFindsRow.holds Try.pinned (OpenSpec.ofChange contentFindsSpec)

/-- ITS FALSE NEIGHBOUR: 'it returns false'. Refute it at one input. -/
def contentFindsWrong : ChangeSpec := { name := "contentFinds", fn := fun _ => fun
  | [d1, d2, d3] => { results := [.lit (.bool false)], args := [d1, d2, d3] }
  | _ => none }
def ContentFindsWrongFalsely : Prop := contentFindsRow.holds Try.pinned (OpenSpec.ofChange contentFindsWrong)

/-- 'folkmootlaw15.ContentKeeps': WHATEVER THE INPUT: true; the input reads as it did. -/
def contentKeepsSpec : ChangeSpec := { name := "contentKeeps", fn := fun _ => fun
  | [d1, d2] => { results := [.lit (.bool true)], args := [d1, d2] }
  | _ => none }
def contentKeepsRow : OpenClaim := { program := "ytioooiflpabngaa", sum := "3f56573604da2454c6aaf7b9667ce6f0c76d69dacdd58f6ce55685b88c847871", func := "folkmoot/folkmootlaw15.ContentKeeps", spec := "contentKeeps", inPlace := ["slices.overlaps[folkmoot/api.Entry]"], unfollowed := true, recurses := true, plainKeys := false, apart := false }
def ContentKeepsSaid : Prop := contentKeepsRow.holds Try.pinned (OpenSpec.ofChange contentKeepsSpec)

/-- ITS FALSE NEIGHBOUR: 'it returns false'. Refute it at one input. -/
def contentKeepsWrong : ChangeSpec := { name := "contentKeeps", fn := fun _ => fun
  | [d1, d2] => { results := [.lit (.bool false)], args := [d1, d2] }
  | _ => none }
def ContentKeepsWrongFalsely : Prop := contentKeepsRow.holds Try.pinned (OpenSpec.ofChange contentKeepsWrong)

/-- 'folkmootlaw15.ContentMerges': WHATEVER THE INPUT: true; the input reads as it did. -/
def contentMergesSpec : ChangeSpec := { name := "contentMerges", fn := fun _ => fun
  | [d1, d2] => { results := [.lit (.bool true)], args := [d1, d2] }
  | _ => none }
def contentMergesRow : OpenClaim := { program := "ytioooiflpabngaa", sum := "3f56573604da2454c6aaf7b9667ce6f0c76d69dacdd58f6ce55685b88c847871", func := "folkmoot/folkmootlaw15.ContentMerges", spec := "contentMerges", inPlace := ["slices.overlaps[folkmoot/api.Entry]"], unfollowed := true, recurses := true, plainKeys := false, apart := false }
def ContentMergesSaid : Prop := contentMergesRow.holds Try.pinned (OpenSpec.ofChange contentMergesSpec)

/-- ITS FALSE NEIGHBOUR: 'it returns false'. Refute it at one input. -/
def contentMergesWrong : ChangeSpec := { name := "contentMerges", fn := fun _ => fun
  | [d1, d2] => { results := [.lit (.bool false)], args := [d1, d2] }
  | _ => none }
def ContentMergesWrongFalsely : Prop := contentMergesRow.holds Try.pinned (OpenSpec.ofChange contentMergesWrong)

/-- 'folkmootlaw15.ContentOrder': WHATEVER THE INPUT: true; the input reads as it did. -/
def contentOrderSpec : ChangeSpec := { name := "contentOrder", fn := fun _ => fun
  | [d1, d2] => { results := [.lit (.bool true)], args := [d1, d2] }
  | _ => none }
def contentOrderRow : OpenClaim := { program := "ytioooiflpabngaa", sum := "3f56573604da2454c6aaf7b9667ce6f0c76d69dacdd58f6ce55685b88c847871", func := "folkmoot/folkmootlaw15.ContentOrder", spec := "contentOrder", inPlace := ["slices.overlaps[folkmoot/api.Entry]"], unfollowed := true, recurses := true, plainKeys := false, apart := false }
def ContentOrderSaid : Prop := contentOrderRow.holds Try.pinned (OpenSpec.ofChange contentOrderSpec)

/-- ITS FALSE NEIGHBOUR: 'it returns false'. Refute it at one input. -/
def contentOrderWrong : ChangeSpec := { name := "contentOrder", fn := fun _ => fun
  | [d1, d2] => { results := [.lit (.bool false)], args := [d1, d2] }
  | _ => none }
def ContentOrderWrongFalsely : Prop := contentOrderRow.holds Try.pinned (OpenSpec.ofChange contentOrderWrong)

/-- 'folkmootlaw05.LabelKeeps': WHATEVER THE INPUT: true; the input reads as it did. -/
def labelKeepsSpec : ChangeSpec := { name := "labelKeeps", fn := fun _ => fun
  | [d1, d2] => { results := [.lit (.bool true)], args := [d1, d2] }
  | _ => none }
def labelKeepsRow : OpenClaim := { program := "ytioooiflpabngaa", sum := "3f56573604da2454c6aaf7b9667ce6f0c76d69dacdd58f6ce55685b88c847871", func := "folkmoot/folkmootlaw05.LabelKeeps", spec := "labelKeeps", unfollowed := true, recurses := true, plainKeys := false, apart := false }
def LabelKeepsSaid : Prop := labelKeepsRow.holds Try.pinned (OpenSpec.ofChange labelKeepsSpec)

/-- ITS FALSE NEIGHBOUR: 'it returns false'. Refute it at one input. -/
def labelKeepsWrong : ChangeSpec := { name := "labelKeeps", fn := fun _ => fun
  | [d1, d2] => { results := [.lit (.bool false)], args := [d1, d2] }
  | _ => none }
def LabelKeepsWrongFalsely : Prop := labelKeepsRow.holds Try.pinned (OpenSpec.ofChange labelKeepsWrong)

/-- 'folkmootlaw05.LabelParts': WHATEVER THE INPUT: true; the input reads as it did. -/
def labelPartsSpec : ChangeSpec := { name := "labelParts", fn := fun _ => fun
  | [d1, d2] => { results := [.lit (.bool true)], args := [d1, d2] }
  | _ => none }
def labelPartsRow : OpenClaim := { program := "ytioooiflpabngaa", sum := "3f56573604da2454c6aaf7b9667ce6f0c76d69dacdd58f6ce55685b88c847871", func := "folkmoot/folkmootlaw05.LabelParts", spec := "labelParts", unfollowed := true, recurses := true, plainKeys := false, apart := false }
def LabelPartsSaid : Prop := labelPartsRow.holds Try.pinned (OpenSpec.ofChange labelPartsSpec)

/-- ITS FALSE NEIGHBOUR: 'it returns false'. Refute it at one input. -/
def labelPartsWrong : ChangeSpec := { name := "labelParts", fn := fun _ => fun
  | [d1, d2] => { results := [.lit (.bool false)], args := [d1, d2] }
  | _ => none }
def LabelPartsWrongFalsely : Prop := labelPartsRow.holds Try.pinned (OpenSpec.ofChange labelPartsWrong)

/-- 'folkmootlaw05.LabelSorts': WHATEVER THE INPUT: true; the input reads as it did. -/
def labelSortsSpec : ChangeSpec := { name := "labelSorts", fn := fun _ => fun
  | [d] => { results := [.lit (.bool true)], args := [d] }
  | _ => none }
def labelSortsRow : OpenClaim := { program := "ytioooiflpabngaa", sum := "3f56573604da2454c6aaf7b9667ce6f0c76d69dacdd58f6ce55685b88c847871", func := "folkmoot/folkmootlaw05.LabelSorts", spec := "labelSorts", unfollowed := true, recurses := true, plainKeys := false, apart := false }
def LabelSortsSaid : Prop := labelSortsRow.holds Try.pinned (OpenSpec.ofChange labelSortsSpec)

/-- ITS FALSE NEIGHBOUR: 'it returns false'. Refute it at one input. -/
def labelSortsWrong : ChangeSpec := { name := "labelSorts", fn := fun _ => fun
  | [d] => { results := [.lit (.bool false)], args := [d] }
  | _ => none }
def LabelSortsWrongFalsely : Prop := labelSortsRow.holds Try.pinned (OpenSpec.ofChange labelSortsWrong)

/-- 'folkmootlaw05.LabelBehind': WHATEVER THE INPUT: true; the input reads as it did. -/
def labelBehindSpec : ChangeSpec := { name := "labelBehind", fn := fun _ => fun
  | [d1, d2] => { results := [.lit (.bool true)], args := [d1, d2] }
  | _ => none }
def labelBehindRow : OpenClaim := { program := "ytioooiflpabngaa", sum := "3f56573604da2454c6aaf7b9667ce6f0c76d69dacdd58f6ce55685b88c847871", func := "folkmoot/folkmootlaw05.LabelBehind", spec := "labelBehind", unfollowed := true, recurses := true, plainKeys := false, apart := false }
def LabelBehindSaid : Prop := labelBehindRow.holds Try.pinned (OpenSpec.ofChange labelBehindSpec)

/-- ITS FALSE NEIGHBOUR: 'it returns false'. Refute it at one input. -/
def labelBehindWrong : ChangeSpec := { name := "labelBehind", fn := fun _ => fun
  | [d1, d2] => { results := [.lit (.bool false)], args := [d1, d2] }
  | _ => none }
def LabelBehindWrongFalsely : Prop := labelBehindRow.holds Try.pinned (OpenSpec.ofChange labelBehindWrong)

/-- 'folkmootlaw05.LabelOrder': WHATEVER THE INPUT: true; the input reads as it did. -/
def labelOrderSpec : ChangeSpec := { name := "labelOrder", fn := fun _ => fun
  | [d1, d2, d3] => { results := [.lit (.bool true)], args := [d1, d2, d3] }
  | _ => none }
def labelOrderRow : OpenClaim := { program := "ytioooiflpabngaa", sum := "3f56573604da2454c6aaf7b9667ce6f0c76d69dacdd58f6ce55685b88c847871", func := "folkmoot/folkmootlaw05.LabelOrder", spec := "labelOrder", unfollowed := true, recurses := true, plainKeys := false, apart := false }
def LabelOrderSaid : Prop := labelOrderRow.holds Try.pinned (OpenSpec.ofChange labelOrderSpec)

/-- ITS FALSE NEIGHBOUR: 'it returns false'. Refute it at one input. -/
def labelOrderWrong : ChangeSpec := { name := "labelOrder", fn := fun _ => fun
  | [d1, d2, d3] => { results := [.lit (.bool false)], args := [d1, d2, d3] }
  | _ => none }
def LabelOrderWrongFalsely : Prop := labelOrderRow.holds Try.pinned (OpenSpec.ofChange labelOrderWrong)

/-- 'folkmootlaw15.ContentApart': WHATEVER THE INPUT: true; the input reads as it did. -/
def contentApartSpec : ChangeSpec := { name := "contentApart", fn := fun _ => fun
  | [d1, d2, d3, d4] => { results := [.lit (.bool true)], args := [d1, d2, d3, d4] }
  | _ => none }
def contentApartRow : OpenClaim := { program := "ytioooiflpabngaa", sum := "3f56573604da2454c6aaf7b9667ce6f0c76d69dacdd58f6ce55685b88c847871", func := "folkmoot/folkmootlaw15.ContentApart", spec := "contentApart", unfollowed := true, recurses := true, plainKeys := false, apart := false }
def ContentApartSaid : Prop := contentApartRow.holds Try.pinned (OpenSpec.ofChange contentApartSpec)

/-- ITS FALSE NEIGHBOUR: 'it returns false'. Refute it at one input. -/
def contentApartWrong : ChangeSpec := { name := "contentApart", fn := fun _ => fun
  | [d1, d2, d3, d4] => { results := [.lit (.bool false)], args := [d1, d2, d3, d4] }
  | _ => none }
def ContentApartWrongFalsely : Prop := contentApartRow.holds Try.pinned (OpenSpec.ofChange contentApartWrong)

/-- 'folkmootlaw15.ContentOne': WHATEVER THE INPUT: true; the input reads as it did. -/
def contentOneSpec : ChangeSpec := { name := "contentOne", fn := fun _ => fun
  | [d] => { results := [.lit (.bool true)], args := [d] }
  | _ => none }
def contentOneRow : OpenClaim := { program := "ytioooiflpabngaa", sum := "3f56573604da2454c6aaf7b9667ce6f0c76d69dacdd58f6ce55685b88c847871", func := "folkmoot/folkmootlaw15.ContentOne", spec := "contentOne", unfollowed := true, recurses := true, plainKeys := false, apart := false }
def ContentOneSaid : Prop := contentOneRow.holds Try.pinned (OpenSpec.ofChange contentOneSpec)

/-- ITS FALSE NEIGHBOUR: 'it returns false'. Refute it at one input. -/
def contentOneWrong : ChangeSpec := { name := "contentOne", fn := fun _ => fun
  | [d] => { results := [.lit (.bool false)], args := [d] }
  | _ => none }
def ContentOneWrongFalsely : Prop := contentOneRow.holds Try.pinned (OpenSpec.ofChange contentOneWrong)

/-- 'folkmootlaw15.ContentReads': WHATEVER THE INPUT: true; the input reads as it did. -/
def contentReadsSpec : ChangeSpec := { name := "contentReads", fn := fun _ => fun
  | [d] => { results := [.lit (.bool true)], args := [d] }
  | _ => none }
def contentReadsRow : OpenClaim := { program := "ytioooiflpabngaa", sum := "3f56573604da2454c6aaf7b9667ce6f0c76d69dacdd58f6ce55685b88c847871", func := "folkmoot/folkmootlaw15.ContentReads", spec := "contentReads", unfollowed := true, recurses := true, plainKeys := false, apart := false }
def ContentReadsSaid : Prop := contentReadsRow.holds Try.pinned (OpenSpec.ofChange contentReadsSpec)

/-- ITS FALSE NEIGHBOUR: 'it returns false'. Refute it at one input. -/
def contentReadsWrong : ChangeSpec := { name := "contentReads", fn := fun _ => fun
  | [d] => { results := [.lit (.bool false)], args := [d] }
  | _ => none }
def ContentReadsWrongFalsely : Prop := contentReadsRow.holds Try.pinned (OpenSpec.ofChange contentReadsWrong)

/-- 'folkmootlaw15.ContentAll': WHATEVER THE INPUT: true; the input reads as it did. -/
def contentAllSpec : ChangeSpec := { name := "contentAll", fn := fun _ => fun
  | [d] => { results := [.lit (.bool true)], args := [d] }
  | _ => none }
def contentAllRow : OpenClaim := { program := "ytioooiflpabngaa", sum := "3f56573604da2454c6aaf7b9667ce6f0c76d69dacdd58f6ce55685b88c847871", func := "folkmoot/folkmootlaw15.ContentAll", spec := "contentAll", unfollowed := true, recurses := true, plainKeys := false, apart := false }
def ContentAllSaid : Prop := contentAllRow.holds Try.pinned (OpenSpec.ofChange contentAllSpec)

/-- ITS FALSE NEIGHBOUR: 'it returns false'. Refute it at one input. -/
def contentAllWrong : ChangeSpec := { name := "contentAll", fn := fun _ => fun
  | [d] => { results := [.lit (.bool false)], args := [d] }
  | _ => none }
def ContentAllWrongFalsely : Prop := contentAllRow.holds Try.pinned (OpenSpec.ofChange contentAllWrong)

/-- 'folkmootlaw16.ExchangePlays': WHATEVER THE INPUT: true; the input reads as it did. -/
def exchangePlaysSpec : ChangeSpec := { name := "exchangePlays", fn := fun _ => fun
  | [d1, d2] => { results := [.lit (.bool true)], args := [d1, d2] }
  | _ => none }
def exchangePlaysRow : OpenClaim := { program := "ytioooiflpabngaa", sum := "3f56573604da2454c6aaf7b9667ce6f0c76d69dacdd58f6ce55685b88c847871", func := "folkmoot/folkmootlaw16.ExchangePlays", spec := "exchangePlays", inPlace := ["slices.overlaps[folkmoot/api.Entry]"], unfollowed := true, recurses := true, plainKeys := false, apart := false }
def ExchangePlaysSaid : Prop := exchangePlaysRow.holds Try.pinned (OpenSpec.ofChange exchangePlaysSpec)

/-- ITS FALSE NEIGHBOUR: 'it returns false'. Refute it at one input. -/
def exchangePlaysWrong : ChangeSpec := { name := "exchangePlays", fn := fun _ => fun
  | [d1, d2] => { results := [.lit (.bool false)], args := [d1, d2] }
  | _ => none }
def ExchangePlaysWrongFalsely : Prop := exchangePlaysRow.holds Try.pinned (OpenSpec.ofChange exchangePlaysWrong)

/-- 'folkmootlaw16.ExchangeTurned': WHATEVER THE INPUT: true; the input reads as it did. -/
def exchangeTurnedSpec : ChangeSpec := { name := "exchangeTurned", fn := fun _ => fun
  | [d1, d2, d3] => { results := [.lit (.bool true)], args := [d1, d2, d3] }
  | _ => none }
def exchangeTurnedRow : OpenClaim := { program := "ytioooiflpabngaa", sum := "3f56573604da2454c6aaf7b9667ce6f0c76d69dacdd58f6ce55685b88c847871", func := "folkmoot/folkmootlaw16.ExchangeTurned", spec := "exchangeTurned", inPlace := ["slices.overlaps[folkmoot/api.Entry]"], unfollowed := true, recurses := true, plainKeys := false, apart := false }
def ExchangeTurnedSaid : Prop := exchangeTurnedRow.holds Try.pinned (OpenSpec.ofChange exchangeTurnedSpec)

/-- ITS FALSE NEIGHBOUR: 'it returns false'. Refute it at one input. -/
def exchangeTurnedWrong : ChangeSpec := { name := "exchangeTurned", fn := fun _ => fun
  | [d1, d2, d3] => { results := [.lit (.bool false)], args := [d1, d2, d3] }
  | _ => none }
def ExchangeTurnedWrongFalsely : Prop := exchangeTurnedRow.holds Try.pinned (OpenSpec.ofChange exchangeTurnedWrong)

/-- 'folkmootlaw16.ExchangeFull': WHATEVER THE INPUT: true; the input reads as it did. -/
def exchangeFullSpec : ChangeSpec := { name := "exchangeFull", fn := fun _ => fun
  | [d] => { results := [.lit (.bool true)], args := [d] }
  | _ => none }
def exchangeFullRow : OpenClaim := { program := "ytioooiflpabngaa", sum := "3f56573604da2454c6aaf7b9667ce6f0c76d69dacdd58f6ce55685b88c847871", func := "folkmoot/folkmootlaw16.ExchangeFull", spec := "exchangeFull", inPlace := ["slices.overlaps[folkmoot/api.Entry]"], unfollowed := true, recurses := true, plainKeys := false, apart := false }
def ExchangeFullSaid : Prop := exchangeFullRow.holds Try.pinned (OpenSpec.ofChange exchangeFullSpec)

/-- ITS FALSE NEIGHBOUR: 'it returns false'. Refute it at one input. -/
def exchangeFullWrong : ChangeSpec := { name := "exchangeFull", fn := fun _ => fun
  | [d] => { results := [.lit (.bool false)], args := [d] }
  | _ => none }
def ExchangeFullWrongFalsely : Prop := exchangeFullRow.holds Try.pinned (OpenSpec.ofChange exchangeFullWrong)

/-- 'folkmootlaw16.ExchangeKeeps': WHATEVER THE INPUT: true; the input reads as it did. -/
def exchangeKeepsSpec : ChangeSpec := { name := "exchangeKeeps", fn := fun _ => fun
  | [d] => { results := [.lit (.bool true)], args := [d] }
  | _ => none }
def exchangeKeepsRow : OpenClaim := { program := "ytioooiflpabngaa", sum := "3f56573604da2454c6aaf7b9667ce6f0c76d69dacdd58f6ce55685b88c847871", func := "folkmoot/folkmootlaw16.ExchangeKeeps", spec := "exchangeKeeps", inPlace := ["slices.overlaps[folkmoot/api.Entry]"], unfollowed := true, recurses := true, plainKeys := false, apart := false }
def ExchangeKeepsSaid : Prop := exchangeKeepsRow.holds Try.pinned (OpenSpec.ofChange exchangeKeepsSpec)

/-- ITS FALSE NEIGHBOUR: 'it returns false'. Refute it at one input. -/
def exchangeKeepsWrong : ChangeSpec := { name := "exchangeKeeps", fn := fun _ => fun
  | [d] => { results := [.lit (.bool false)], args := [d] }
  | _ => none }
def ExchangeKeepsWrongFalsely : Prop := exchangeKeepsRow.holds Try.pinned (OpenSpec.ofChange exchangeKeepsWrong)

/-- 'folkmootlaw16.ExchangeOne': WHATEVER THE INPUT: true; the input reads as it did. -/
def exchangeOneSpec : ChangeSpec := { name := "exchangeOne", fn := fun _ => fun
  | [d1, d2] => { results := [.lit (.bool true)], args := [d1, d2] }
  | _ => none }
def exchangeOneRow : OpenClaim := { program := "ytioooiflpabngaa", sum := "3f56573604da2454c6aaf7b9667ce6f0c76d69dacdd58f6ce55685b88c847871", func := "folkmoot/folkmootlaw16.ExchangeOne", spec := "exchangeOne", inPlace := ["slices.overlaps[folkmoot/api.Entry]"], unfollowed := true, recurses := true, plainKeys := false, apart := false }
def ExchangeOneSaid : Prop := exchangeOneRow.holds Try.pinned (OpenSpec.ofChange exchangeOneSpec)

/-- ITS FALSE NEIGHBOUR: 'it returns false'. Refute it at one input. -/
def exchangeOneWrong : ChangeSpec := { name := "exchangeOne", fn := fun _ => fun
  | [d1, d2] => { results := [.lit (.bool false)], args := [d1, d2] }
  | _ => none }
def ExchangeOneWrongFalsely : Prop := exchangeOneRow.holds Try.pinned (OpenSpec.ofChange exchangeOneWrong)

/-- 'folkmootlaw16.ExchangeMore': WHATEVER THE INPUT: true; the input reads as it did. -/
def exchangeMoreSpec : ChangeSpec := { name := "exchangeMore", fn := fun _ => fun
  | [d1, d2] => { results := [.lit (.bool true)], args := [d1, d2] }
  | _ => none }
def exchangeMoreRow : OpenClaim := { program := "ytioooiflpabngaa", sum := "3f56573604da2454c6aaf7b9667ce6f0c76d69dacdd58f6ce55685b88c847871", func := "folkmoot/folkmootlaw16.ExchangeMore", spec := "exchangeMore", inPlace := ["slices.overlaps[folkmoot/api.Entry]"], unfollowed := true, recurses := true, plainKeys := false, apart := false }
def ExchangeMoreSaid : Prop := exchangeMoreRow.holds Try.pinned (OpenSpec.ofChange exchangeMoreSpec)

/-- ITS FALSE NEIGHBOUR: 'it returns false'. Refute it at one input. -/
def exchangeMoreWrong : ChangeSpec := { name := "exchangeMore", fn := fun _ => fun
  | [d1, d2] => { results := [.lit (.bool false)], args := [d1, d2] }
  | _ => none }
def ExchangeMoreWrongFalsely : Prop := exchangeMoreRow.holds Try.pinned (OpenSpec.ofChange exchangeMoreWrong)

/- THE SECOND FORM. 'bulk': how many values and letters a reading holds, each counted each time it is reached (what is shared counts as often as it is met; a slice's spare places count too). A statement '..UptoSaid' is the law's where the arguments, and the package variables that the reading takes, are together of bulk at most 1048576: NARROWER than '..Said'. Prove '..Said' where nothing that the law and all that it calls make is longer than what came in: it says more and counts as full. Else prove '..UptoSaid'. A law counts once. -/
mutual
def uptoBulk {H : Type} : DataW H → Nat
  | .lit (.string bytes) => bytes.length + 1
  | .lit _ => 1
  | .nil => 1
  | .ptr d => uptoBulk d + 1
  | .slice elems spare => uptoBulkAll elems + uptoBulkAll spare + 1
  | .agg parts => uptoBulkAll parts + 1
  | .iface _ d => uptoBulk d + 1
  | .map entries => uptoBulkEntries entries + 1
  | .held _ => 1
def uptoBulkAll {H : Type} : List (DataW H) → Nat
  | [] => 0
  | d :: r => uptoBulk d + uptoBulkAll r
def uptoBulkEntries {H : Type} : List (Lit × DataW H) → Nat
  | [] => 0
  | x :: r => uptoBulkEntry x + uptoBulkEntries r
def uptoBulkEntry {H : Type} : Lit × DataW H → Nat
  | (.string bytes, d) => bytes.length + uptoBulk d + 1
  | (_, d) => uptoBulk d + 1
 end
def uptoSmall : (H : Type) → List (DataW H) → Bool := fun _ ds => decide (uptoBulkAll ds ≤ 1048576)
def OpenSpec.upto (s : _root_.Go.ChangeSpec) : _root_.Go.OpenSpec := { _root_.Go.OpenSpec.ofChange s with cond := some uptoSmall }

/-- 'folkmootlaw15.ContentFinds', WHERE WHAT IT READS IS OF BULK AT MOST 1048576: true; the input reads as it did. -/
def contentFindsUptoRow : OpenClaim := { program := "ytioooiflpabngaa", sum := "3f56573604da2454c6aaf7b9667ce6f0c76d69dacdd58f6ce55685b88c847871", func := "folkmoot/folkmootlaw15.ContentFinds", spec := "contentFinds", unfollowed := true, recurses := true, plainKeys := false, apart := false, narrowed := true }
def ContentFindsUptoSaid : Prop := contentFindsUptoRow.holds Try.pinned (OpenSpec.upto contentFindsSpec)

/-- 'folkmootlaw15.ContentKeeps', WHERE WHAT IT READS IS OF BULK AT MOST 1048576: true; the input reads as it did. -/
def contentKeepsUptoRow : OpenClaim := { program := "ytioooiflpabngaa", sum := "3f56573604da2454c6aaf7b9667ce6f0c76d69dacdd58f6ce55685b88c847871", func := "folkmoot/folkmootlaw15.ContentKeeps", spec := "contentKeeps", inPlace := ["slices.overlaps[folkmoot/api.Entry]"], unfollowed := true, recurses := true, plainKeys := false, apart := false, narrowed := true }
def ContentKeepsUptoSaid : Prop := contentKeepsUptoRow.holds Try.pinned (OpenSpec.upto contentKeepsSpec)

/-- 'folkmootlaw15.ContentMerges', WHERE WHAT IT READS IS OF BULK AT MOST 1048576: true; the input reads as it did. -/
def contentMergesUptoRow : OpenClaim := { program := "ytioooiflpabngaa", sum := "3f56573604da2454c6aaf7b9667ce6f0c76d69dacdd58f6ce55685b88c847871", func := "folkmoot/folkmootlaw15.ContentMerges", spec := "contentMerges", inPlace := ["slices.overlaps[folkmoot/api.Entry]"], unfollowed := true, recurses := true, plainKeys := false, apart := false, narrowed := true }
def ContentMergesUptoSaid : Prop := contentMergesUptoRow.holds Try.pinned (OpenSpec.upto contentMergesSpec)

/-- 'folkmootlaw15.ContentOrder', WHERE WHAT IT READS IS OF BULK AT MOST 1048576: true; the input reads as it did. -/
def contentOrderUptoRow : OpenClaim := { program := "ytioooiflpabngaa", sum := "3f56573604da2454c6aaf7b9667ce6f0c76d69dacdd58f6ce55685b88c847871", func := "folkmoot/folkmootlaw15.ContentOrder", spec := "contentOrder", inPlace := ["slices.overlaps[folkmoot/api.Entry]"], unfollowed := true, recurses := true, plainKeys := false, apart := false, narrowed := true }
def ContentOrderUptoSaid : Prop := contentOrderUptoRow.holds Try.pinned (OpenSpec.upto contentOrderSpec)

/-- 'folkmootlaw05.LabelKeeps', WHERE WHAT IT READS IS OF BULK AT MOST 1048576: true; the input reads as it did. -/
def labelKeepsUptoRow : OpenClaim := { program := "ytioooiflpabngaa", sum := "3f56573604da2454c6aaf7b9667ce6f0c76d69dacdd58f6ce55685b88c847871", func := "folkmoot/folkmootlaw05.LabelKeeps", spec := "labelKeeps", unfollowed := true, recurses := true, plainKeys := false, apart := false, narrowed := true }
def LabelKeepsUptoSaid : Prop := labelKeepsUptoRow.holds Try.pinned (OpenSpec.upto labelKeepsSpec)

/-- 'folkmootlaw05.LabelParts', WHERE WHAT IT READS IS OF BULK AT MOST 1048576: true; the input reads as it did. -/
def labelPartsUptoRow : OpenClaim := { program := "ytioooiflpabngaa", sum := "3f56573604da2454c6aaf7b9667ce6f0c76d69dacdd58f6ce55685b88c847871", func := "folkmoot/folkmootlaw05.LabelParts", spec := "labelParts", unfollowed := true, recurses := true, plainKeys := false, apart := false, narrowed := true }
def LabelPartsUptoSaid : Prop := labelPartsUptoRow.holds Try.pinned (OpenSpec.upto labelPartsSpec)

/-- 'folkmootlaw05.LabelSorts', WHERE WHAT IT READS IS OF BULK AT MOST 1048576: true; the input reads as it did. -/
def labelSortsUptoRow : OpenClaim := { program := "ytioooiflpabngaa", sum := "3f56573604da2454c6aaf7b9667ce6f0c76d69dacdd58f6ce55685b88c847871", func := "folkmoot/folkmootlaw05.LabelSorts", spec := "labelSorts", unfollowed := true, recurses := true, plainKeys := false, apart := false, narrowed := true }
def LabelSortsUptoSaid : Prop := labelSortsUptoRow.holds Try.pinned (OpenSpec.upto labelSortsSpec)

/-- 'folkmootlaw05.LabelBehind', WHERE WHAT IT READS IS OF BULK AT MOST 1048576: true; the input reads as it did. -/
def labelBehindUptoRow : OpenClaim := { program := "ytioooiflpabngaa", sum := "3f56573604da2454c6aaf7b9667ce6f0c76d69dacdd58f6ce55685b88c847871", func := "folkmoot/folkmootlaw05.LabelBehind", spec := "labelBehind", unfollowed := true, recurses := true, plainKeys := false, apart := false, narrowed := true }
def LabelBehindUptoSaid : Prop := labelBehindUptoRow.holds Try.pinned (OpenSpec.upto labelBehindSpec)

/-- 'folkmootlaw05.LabelOrder', WHERE WHAT IT READS IS OF BULK AT MOST 1048576: true; the input reads as it did. -/
def labelOrderUptoRow : OpenClaim := { program := "ytioooiflpabngaa", sum := "3f56573604da2454c6aaf7b9667ce6f0c76d69dacdd58f6ce55685b88c847871", func := "folkmoot/folkmootlaw05.LabelOrder", spec := "labelOrder", unfollowed := true, recurses := true, plainKeys := false, apart := false, narrowed := true }
def LabelOrderUptoSaid : Prop := labelOrderUptoRow.holds Try.pinned (OpenSpec.upto labelOrderSpec)

/-- 'folkmootlaw15.ContentApart', WHERE WHAT IT READS IS OF BULK AT MOST 1048576: true; the input reads as it did. -/
def contentApartUptoRow : OpenClaim := { program := "ytioooiflpabngaa", sum := "3f56573604da2454c6aaf7b9667ce6f0c76d69dacdd58f6ce55685b88c847871", func := "folkmoot/folkmootlaw15.ContentApart", spec := "contentApart", unfollowed := true, recurses := true, plainKeys := false, apart := false, narrowed := true }
def ContentApartUptoSaid : Prop := contentApartUptoRow.holds Try.pinned (OpenSpec.upto contentApartSpec)

/-- 'folkmootlaw15.ContentOne', WHERE WHAT IT READS IS OF BULK AT MOST 1048576: true; the input reads as it did. -/
def contentOneUptoRow : OpenClaim := { program := "ytioooiflpabngaa", sum := "3f56573604da2454c6aaf7b9667ce6f0c76d69dacdd58f6ce55685b88c847871", func := "folkmoot/folkmootlaw15.ContentOne", spec := "contentOne", unfollowed := true, recurses := true, plainKeys := false, apart := false, narrowed := true }
def ContentOneUptoSaid : Prop := contentOneUptoRow.holds Try.pinned (OpenSpec.upto contentOneSpec)

/-- 'folkmootlaw15.ContentReads', WHERE WHAT IT READS IS OF BULK AT MOST 1048576: true; the input reads as it did. -/
def contentReadsUptoRow : OpenClaim := { program := "ytioooiflpabngaa", sum := "3f56573604da2454c6aaf7b9667ce6f0c76d69dacdd58f6ce55685b88c847871", func := "folkmoot/folkmootlaw15.ContentReads", spec := "contentReads", unfollowed := true, recurses := true, plainKeys := false, apart := false, narrowed := true }
def ContentReadsUptoSaid : Prop := contentReadsUptoRow.holds Try.pinned (OpenSpec.upto contentReadsSpec)

/-- 'folkmootlaw15.ContentAll', WHERE WHAT IT READS IS OF BULK AT MOST 1048576: true; the input reads as it did. -/
def contentAllUptoRow : OpenClaim := { program := "ytioooiflpabngaa", sum := "3f56573604da2454c6aaf7b9667ce6f0c76d69dacdd58f6ce55685b88c847871", func := "folkmoot/folkmootlaw15.ContentAll", spec := "contentAll", unfollowed := true, recurses := true, plainKeys := false, apart := false, narrowed := true }
def ContentAllUptoSaid : Prop := contentAllUptoRow.holds Try.pinned (OpenSpec.upto contentAllSpec)

/-- 'folkmootlaw16.ExchangePlays', WHERE WHAT IT READS IS OF BULK AT MOST 1048576: true; the input reads as it did. -/
def exchangePlaysUptoRow : OpenClaim := { program := "ytioooiflpabngaa", sum := "3f56573604da2454c6aaf7b9667ce6f0c76d69dacdd58f6ce55685b88c847871", func := "folkmoot/folkmootlaw16.ExchangePlays", spec := "exchangePlays", inPlace := ["slices.overlaps[folkmoot/api.Entry]"], unfollowed := true, recurses := true, plainKeys := false, apart := false, narrowed := true }
def ExchangePlaysUptoSaid : Prop := exchangePlaysUptoRow.holds Try.pinned (OpenSpec.upto exchangePlaysSpec)

/-- 'folkmootlaw16.ExchangeTurned', WHERE WHAT IT READS IS OF BULK AT MOST 1048576: true; the input reads as it did. -/
def exchangeTurnedUptoRow : OpenClaim := { program := "ytioooiflpabngaa", sum := "3f56573604da2454c6aaf7b9667ce6f0c76d69dacdd58f6ce55685b88c847871", func := "folkmoot/folkmootlaw16.ExchangeTurned", spec := "exchangeTurned", inPlace := ["slices.overlaps[folkmoot/api.Entry]"], unfollowed := true, recurses := true, plainKeys := false, apart := false, narrowed := true }
def ExchangeTurnedUptoSaid : Prop := exchangeTurnedUptoRow.holds Try.pinned (OpenSpec.upto exchangeTurnedSpec)

/-- 'folkmootlaw16.ExchangeFull', WHERE WHAT IT READS IS OF BULK AT MOST 1048576: true; the input reads as it did. -/
def exchangeFullUptoRow : OpenClaim := { program := "ytioooiflpabngaa", sum := "3f56573604da2454c6aaf7b9667ce6f0c76d69dacdd58f6ce55685b88c847871", func := "folkmoot/folkmootlaw16.ExchangeFull", spec := "exchangeFull", inPlace := ["slices.overlaps[folkmoot/api.Entry]"], unfollowed := true, recurses := true, plainKeys := false, apart := false, narrowed := true }
def ExchangeFullUptoSaid : Prop := exchangeFullUptoRow.holds Try.pinned (OpenSpec.upto exchangeFullSpec)

/-- 'folkmootlaw16.ExchangeKeeps', WHERE WHAT IT READS IS OF BULK AT MOST 1048576: true; the input reads as it did. -/
def exchangeKeepsUptoRow : OpenClaim := { program := "ytioooiflpabngaa", sum := "3f56573604da2454c6aaf7b9667ce6f0c76d69dacdd58f6ce55685b88c847871", func := "folkmoot/folkmootlaw16.ExchangeKeeps", spec := "exchangeKeeps", inPlace := ["slices.overlaps[folkmoot/api.Entry]"], unfollowed := true, recurses := true, plainKeys := false, apart := false, narrowed := true }
def ExchangeKeepsUptoSaid : Prop := exchangeKeepsUptoRow.holds Try.pinned (OpenSpec.upto exchangeKeepsSpec)

/-- 'folkmootlaw16.ExchangeOne', WHERE WHAT IT READS IS OF BULK AT MOST 1048576: true; the input reads as it did. -/
def exchangeOneUptoRow : OpenClaim := { program := "ytioooiflpabngaa", sum := "3f56573604da2454c6aaf7b9667ce6f0c76d69dacdd58f6ce55685b88c847871", func := "folkmoot/folkmootlaw16.ExchangeOne", spec := "exchangeOne", inPlace := ["slices.overlaps[folkmoot/api.Entry]"], unfollowed := true, recurses := true, plainKeys := false, apart := false, narrowed := true }
def ExchangeOneUptoSaid : Prop := exchangeOneUptoRow.holds Try.pinned (OpenSpec.upto exchangeOneSpec)

/-- 'folkmootlaw16.ExchangeMore', WHERE WHAT IT READS IS OF BULK AT MOST 1048576: true; the input reads as it did. -/
def exchangeMoreUptoRow : OpenClaim := { program := "ytioooiflpabngaa", sum := "3f56573604da2454c6aaf7b9667ce6f0c76d69dacdd58f6ce55685b88c847871", func := "folkmoot/folkmootlaw16.ExchangeMore", spec := "exchangeMore", inPlace := ["slices.overlaps[folkmoot/api.Entry]"], unfollowed := true, recurses := true, plainKeys := false, apart := false, narrowed := true }
def ExchangeMoreUptoSaid : Prop := exchangeMoreUptoRow.holds Try.pinned (OpenSpec.upto exchangeMoreSpec)

end Rows
end Go.Proofs.Ytioooiflpabngaa
