/- Joins of two tables: a proof over an abstract machine of our own (part Wj) -/
import Derived.Test.YtnmibokjpedkiaaGreatDoorWh
set_option maxRecDepth 100000
set_option maxHeartbeats 4000000
set_option linter.all false
namespace Go.Proofs.YtnmibokjpedkiaaGreatDoor
section
open Go.Am
attribute [local simp, local push_cast] num boo str ints aV aTab zv aS aT aC aRow rRow
abbrev KRow:=Row×Row
def rKk (k:KRow):List D:=[.sl 3 (zd rV k.1),.sl 3 (zd rV k.2)]
def aKR (k:KRow):A:= .agg [.d (.sl 3 (zd rV k.1)),.d (.sl 3 (zd rV k.2))]
def vecKk (l:List KRow):Ob:= .vec 160 2 (zd rKk l) 0
attribute [local simp, local push_cast] vecKk rKk aKR
end
section
open Go.Am
attribute [local simp, local push_cast] num boo str ints aV aTab zv aS aT aC aRow rRow vecKk rKk aKR
end
section
open Go.Am
attribute [local simp, local push_cast] num boo str ints aV aTab zv aS aT aC aRow rRow vecKk rKk aKR
end
section
open Go.Am
attribute [local simp, local push_cast] num boo str ints aV aTab zv aS aT aC aRow rRow vecKk rKk aKR
structure HidKk (p:Prop):Prop where
 it:p
end
section
open Go.Am
attribute [local simp, local push_cast] num boo str ints aV aTab zv aS aT aC aRow rRow vecKk rKk aKR
end
end Go.Proofs.YtnmibokjpedkiaaGreatDoor
