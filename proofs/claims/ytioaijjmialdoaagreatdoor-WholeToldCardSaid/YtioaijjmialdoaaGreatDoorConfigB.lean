
/- Rules in words, both ways of saying it (config.Rule, tidewaiterref19.Rule, Only), walked. No condition but the tables and variables of Go's own library. -/
import Derived.Test.YtioaijjmialdoaaGreatDoorConfig
namespace Go.Proofs.YtioaijjmialdoaaGreatDoor
set_option maxRecDepth 100000
set_option linter.unusedSimpArgs false
open Go.RowKit
set_option linter.unusedVariables false
set_option linter.unusedSimpArgs false

abbrev Rl := Int × Int × Int × Int × Int
def rlI (r : Rl) : Prop := I64 r.1 ∧ I64 r.2.1 ∧ I64 r.2.2.1 ∧ I64 r.2.2.2.1 ∧ I64 r.2.2.2.2
def wBounded : List UInt8 := [98, 111, 117, 110, 100, 101, 100]
def wMarked : List UInt8 := [109, 97, 114, 107, 101, 100]
def wPercent : List UInt8 := [112, 101, 114, 99, 101, 110, 116]
def wSource : List UInt8 := [115, 111, 117, 114, 99, 101]
/-- a rule in words -/
def ruleL (k b p n s : Int) : List UInt8 :=
  if k = 0 then lnL wBounded [b] else if k = 1 then lnL wMarked [s] else if k = 2 then lnL wPercent [p, n] else []
def onlyB (k b p n s : Int) : Bool :=
  if k = 0 then s == 0 && p == 0 && n == 0 else if k = 1 then b == 0 && p == 0 && n == 0 else if k = 2 then b == 0 && s == 0 else false
theorem one_line (word : List UInt8) (n : Int) : strOf (word ++ [32]) ++ numT n ++ strOf [10] = strOf (lnL word [n]) := by
  unfold numT; rw [strN_app, strN_app]; unfold lnL wordsL; simp
theorem two_line (word : List UInt8) (n m : Int) : strOf (word ++ [32]) ++ numT n ++ strOf [32] ++ numT m ++ strOf [10] = strOf (lnL word [n, m]) := by
  unfold numT; rw [strN_app, strN_app, strN_app, strN_app]; unfold lnL wordsL; simp
end Go.Proofs.YtioaijjmialdoaaGreatDoor
