/- IdealFloats: the runs. No condition. -/
import Derived.Test.YtmephnenbboecaaFlT
set_option maxRecDepth 1000000
namespace Go.Am.Try
open Go.Proofs Go.Am Go.Am.Fl
noncomputable section
def flL (op j : Int) : List (Nat × Value) := [(6, .bool false), (11, .int .u8 op), (12, .int .u8 j), (13, .int .i64 j), (14, .int .i64 (15 + j)), (7, .int .i64 (15 + j))]
def flC : ACode := sndSeq (sndSeq a4.code)
def flIns (a : Int) (x : Int) : Value := .agg #[.int .i64 1, .int .i64 a, .int .i64 0, .int .i64 0, .int .u64 x, .slice none 0 0]
def flEv (a b : Int) : Value := .bool (not (bsel (intEq a b) true false))
def flOb (op : BinOp) (x y : Int) (b : Bool) : List (Value × Bool) :=
  [(flEv (wrapF .u64 (fToI (fCan x))) (wrapF .u64 (fToI x)), false), (flEv (fAr op (fCan x) (fCan y)) (fAr op x y), false), (flEv (fAr op (fCan x) (fCan y)) (fAr op x y), false),
   (.bool (fEq (fAr op (fCan x) (fCan y)) (fAr op (fCan x) (fCan y))), not b), (.bool (sameV (flIns 5 y) (flIns 5 y) && true), true), (.bool (sameV (flIns 4 x) (flIns 4 x) && true), true), (.bool (intEq (fClsG (fAr op x y)) 4), b)]
def flRun (op j x y : Int) (orc : List (Nat × Bool)) : Option (Value × List (Value × Bool)) :=
  outR a4.res (obind (fillF [.int .u8 op, .int .u64 x, .int .u64 y] 0 (Tr.full 10)) fun ρ => obind (setsF (flL op j) ρ) fun ρ => execF (runF extF tbl 100000 50) 100000 flC ρ ⟨.nil, 0, 0, orc, []⟩)
end
def orc00 : List (Nat × Bool) := [(48, false), (2825, true), (3049, true), (12425, true), (13823, false), (13839, false), (13871, false)]
theorem fl_run00 (op x y : Int) : flRun op 0 x y orc00 = some (.bool true, flOb .add x y false) := by kernel_rfl
def orc01 : List (Nat × Bool) := [(48, true), (2826, true), (3050, true), (12426, false), (13824, false), (13840, false), (13872, false)]
theorem fl_run01 (op x y : Int) : flRun op 0 x y orc01 = some (.bool true, flOb .add x y true) := by kernel_rfl
def orc10 : List (Nat × Bool) := [(45, false), (2822, true), (3046, true), (12431, true), (13829, false), (13845, false), (13877, false)]
theorem fl_run10 (op x y : Int) : flRun op 1 x y orc10 = some (.bool true, flOb .sub x y false) := by kernel_rfl
def orc11 : List (Nat × Bool) := [(45, true), (2823, true), (3047, true), (12432, false), (13830, false), (13846, false), (13878, false)]
theorem fl_run11 (op x y : Int) : flRun op 1 x y orc11 = some (.bool true, flOb .sub x y true) := by kernel_rfl
def orc20 : List (Nat × Bool) := [(48, false), (2825, true), (3049, true), (12443, true), (13841, false), (13857, false), (13889, false)]
theorem fl_run20 (op x y : Int) : flRun op 2 x y orc20 = some (.bool true, flOb .mul x y false) := by kernel_rfl
def orc21 : List (Nat × Bool) := [(48, true), (2826, true), (3050, true), (12444, false), (13842, false), (13858, false), (13890, false)]
theorem fl_run21 (op x y : Int) : flRun op 2 x y orc21 = some (.bool true, flOb .mul x y true) := by kernel_rfl
def orc30 : List (Nat × Bool) := [(51, false), (2828, true), (3052, true), (12454, true), (13852, false), (13868, false), (13900, false)]
theorem fl_run30 (op x y : Int) : flRun op 3 x y orc30 = some (.bool true, flOb .quo x y false) := by kernel_rfl
def orc31 : List (Nat × Bool) := [(51, true), (2829, true), (3053, true), (12455, false), (13853, false), (13869, false), (13901, false)]
theorem fl_run31 (op x y : Int) : flRun op 3 x y orc31 = some (.bool true, flOb .quo x y true) := by kernel_rfl
end Go.Am.Try
