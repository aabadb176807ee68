/- Instances that are made to be valid are valid: a proof over an abstract machine of our own (part We) -/
import Derived.Test.YtodoeplhcmecjaaGreatDoorWd
set_option linter.all false
namespace Go.Proofs.YtodoeplhcmecjaaGreatDoor
open Go.Am
attribute [local simp, local push_cast] num boo str ints aV aTab aInst aS aT aC tapeO bq31 bq21 bq23
set_option linter.unusedVariables false
set_option maxRecDepth 100000
set_option maxHeartbeats 4000000
end Go.Proofs.YtodoeplhcmecjaaGreatDoor
namespace Go.Proofs.YtodoeplhcmecjaaGreatDoor
open Go.Am
attribute [local simp, local push_cast] num boo str ints aV aTab aInst aS aT aC tapeO bq31 bq21 bq23 rIs typesOf
set_option linter.unusedVariables false
set_option maxRecDepth 100000
set_option maxHeartbeats 8000000
abbrev nT : ByteArray := ⟨#[116]⟩
abbrev nC : ByteArray := ⟨#[99]⟩
abbrev nF : ByteArray := ⟨#[102]⟩
abbrev nId : ByteArray := ⟨#[105, 100]⟩
/-- What is known of a table while its foreign keys are made. -/
structure ForOk (m k : Nat) (cols : List Col) (fs : List Fk) : Prop where
  c : cols.length ≤ m + 1 + k
  f : fs.length = k
/-- The head of the loop over tables. -/
def S8 (tabs : List Tbl) (n i q : Nat) (xs : List Int) : SL :=
  ⟨[(5, .d (.lit (.int .i64 i))), (4, .d (.lit (.int .i64 n))), (3, .ptr 3 0), (2, .ptr 2 0), (0, .ptr 1000 0)],
   [(3, .var [.vec 600 i]), (600, .vec 55 6 (rowsOf rT tabs) 0), (1000, tapeO xs q), (2, .var [.snil])]⟩
/-- The head of the loop over columns. -/
def S8c (tabs : List Tbl) (n i q m c : Nat) (cols : List Col) (xs : List Int) : SL :=
  ⟨[(8, .d (.lit (.int .i64 c))), (7, .d (.lit (.int .i64 m))), (6, .ptr 6 0), (5, .d (.lit (.int .i64 i))), (4, .d (.lit (.int .i64 n))), (3, .ptr 3 0), (2, .ptr 2 0), (0, .ptr 1000 0)],
   [(6, .var [.d (.lit (.string (nameOf nT i))), .vec 21 (c + 1), .vec 22 1, .snil, .snil, .snil]), (21, .vec 62 3 (rowsOf rC cols) 0), (22, .vec 3 1 (rowsOf rI [0]) 0),
    (3, .var [.vec 600 i]), (600, .vec 55 6 (rowsOf rT tabs) 0), (1000, tapeO xs q), (2, .var [.snil])]⟩
/-- The head of the loop over foreign keys. -/
def S8f (tabs : List Tbl) (n i m : Nat) (x : Nat × List Col × List Fk × Nat) (xs : List Int) : SL :=
  ⟨[(9, .d (.lit (.int .i64 x.1))), (7, .d (.lit (.int .i64 m))), (6, .ptr 6 0), (5, .d (.lit (.int .i64 i))), (4, .d (.lit (.int .i64 n))), (3, .ptr 3 0), (2, .ptr 2 0), (0, .ptr 1000 0)],
   [(6, .var [.d (.lit (.string (nameOf nT i))), .vec 21 x.2.1.length, .vec 22 1, .snil, .vec 700 x.2.2.1.length, .snil]), (21, .vec 62 3 (rowsOf rC x.2.1) 0), (22, .vec 3 1 (rowsOf rI [0]) 0),
    (700, .vec 59 2 (rowsOf rF x.2.2.1) 0), (3, .var [.vec 600 i]), (600, .vec 55 6 (rowsOf rT tabs) 0), (1000, tapeO xs x.2.2.2), (2, .var [.snil])]⟩
end Go.Proofs.YtodoeplhcmecjaaGreatDoor
