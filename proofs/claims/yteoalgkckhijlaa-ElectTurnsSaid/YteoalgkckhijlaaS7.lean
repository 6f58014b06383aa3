/- Functions, read as partial functions over lists. -/
import Derived.Test.YteoalgkckhijlaaD1
import Derived.Test.YteoalgkckhijlaaE0
namespace Go.Proofs.Yteoalgkckhijlaa.Am
open Go
set_option linter.unusedVariables false
set_option maxRecDepth 10000



def elect_part (n : Int) : Option Int :=
  (some (Int.tmod (maxI n 0) 10))

def elect_Timeout (node : Int) (term : Int) : Option Int :=
  ((elect_part node).bind fun y => ((elect_part term).bind fun y1 => (some (IntKind.wrap .i64 (10 + (Int.tmod (IntKind.wrap .i64 ((IntKind.wrap .i64 (7 * y)) + (IntKind.wrap .i64 (3 * y1)))) 10))))))

def elect_Newer (term : Int) (index : Int) (lastTerm : Int) (lastIndex : Int) : Option Bool :=
  ((if (decide (term > lastTerm)) then (some true) else (if (term == lastTerm) then (some (decide (index ≥ lastIndex))) else (some false))).bind fun t8 => (some t8))

def mementolaw7_known : Option Bool :=
  (((elect_Timeout 1 0).bind fun y => (if (y == 17) then ((elect_Newer 2 1 1 9).bind fun y1 => (if y1 then ((elect_Newer 1 8 1 9).bind fun y4 => (if (!y4) then ((elect_Commit 2 3 ([5, 5, 3] : (List Int)) ([1, 2, 2] : (List Int))).bind fun y7 => (if (y7 == 5) then ((elect_Commit 2 3 ([4, 4, 4] : (List Int)) ([1, 2] : (List Int))).bind fun y10 => (some (y10 == 3))) else (some false))) else (some false))) else (some false))) else (some false))).bind fun t0 => (some t0))

def mementoref6_Timeout (id : Int) (term : Int) : Option Int :=
  (some (IntKind.wrap .i64 (10 + (Int.tmod (IntKind.wrap .i64 ((IntKind.wrap .i64 (7 * (Int.tmod (maxI id 0) 10))) + (IntKind.wrap .i64 (3 * (Int.tmod (maxI term 0) 10))))) 10))))

def mementoref6_Newer (term : Int) (index : Int) (lastTerm : Int) (lastIndex : Int) : Option Bool :=
  ((if (decide (term > lastTerm)) then (some true) else (if (term == lastTerm) then (some (decide (index ≥ lastIndex))) else (some false))).bind fun t8 => (some t8))

def mementoref6_Commit_L2 (commit : Int) (vmatch : (List Int)) (i5 : Int) : (Int × Int) → Option (Ctl Int (Int × Int))
  | (n19, k20) => (if (decide (k20 < (vmatch.length : Int))) then (((idx vmatch k20).bind fun x => (if (decide (x ≥ (IntKind.wrap .i64 ((IntKind.wrap .i64 (commit + 1)) + i5)))) then (some (IntKind.wrap .i64 (n19 + 1))) else (some n19))).bind fun n26 => (some (.go (n26, (IntKind.wrap .i64 (k20 + 1)))))) else (early (some n19)))

def mementoref6_Commit_L1 (term : Int) (commit : Int) (vmatch : (List Int)) (terms : (List Int)) : Int → Option (Ctl (Ctl Int Unit) Int)
  | i5 => (if (decide (i5 ≥ 0)) then ((loopN (mementoref6_Commit_L2 commit vmatch i5) fuel (0, 0)).bind fun n => (((idx terms i5).bind fun x34 => (if (x34 == term) then (some (decide ((IntKind.wrap .i64 (2 * n)) > (vmatch.length : Int)))) else (some false))).bind fun t48 => (if t48 then (early (early (some (IntKind.wrap .i64 ((IntKind.wrap .i64 (commit + 1)) + i5))))) else (some (.go (IntKind.wrap .i64 (i5 - 1))))))) else (early (some (.go ()))))

def mementoref6_Commit (term : Int) (commit : Int) (vmatch : (List Int)) (terms : (List Int)) : Option Int :=
  (kont (loopN (mementoref6_Commit_L1 term commit vmatch terms) fuel (IntKind.wrap .i64 ((terms.length : Int) - 1))) fun () => (some commit))

def mementolaw7_ElectTells_L1 (a6 : Int) (a7 : (List Int)) : ((List Int) × Int) → Option (Ctl (List Int) ((List Int) × Int))
  | (t2115, t2317) => (if (decide (t2317 < (a7.length : Int))) then ((idx a7 t2317).bind fun x => ((app 8 t2115 ([(IntKind.wrap .i64 (a6 + (Go.bits .and .i64 x 7)))] : (List Int))).bind fun m => (some (.go (m, (IntKind.wrap .i64 (t2317 + 1))))))) else (early (some t2115)))

def mementolaw7_ElectTells_L2 (a8 : (List Int)) : ((List Int) × Int) → Option (Ctl (List Int) ((List Int) × Int))
  | (t2248, t2450) => (if (decide (t2450 < (a8.length : Int))) then ((idx a8 t2450).bind fun x61 => ((app 8 t2248 ([(Go.bits .and .i64 x61 3)] : (List Int))).bind fun m62 => (some (.go (m62, (IntKind.wrap .i64 (t2450 + 1))))))) else (early (some t2248)))

def mementolaw7_ElectTells (a0 : Int) (a1 : Int) (a2 : Int) (a3 : Int) (a4 : Int) (a5 : Int) (a6 : Int) (a7 : (List Int)) (a8 : (List Int)) (a9 : Int) : Option Bool :=
  ((mementolaw7_known).bind fun y => (if (!y) then (some false) else ((if (decide ((a7.length : Int) > 10)) then (some true) else (if (decide ((a8.length : Int) > 20)) then (some true) else (if (decide (a6 > 1099511627776)) then (some true) else (some (decide (a6 < (-1099511627776))))))).bind fun t42 => (if t42 then (some true) else ((loopN (mementolaw7_ElectTells_L1 a6 a7) fuel (([] : (List Int)), 0)).bind fun t21 => ((loopN (mementolaw7_ElectTells_L2 a8) fuel (([] : (List Int)), 0)).bind fun t22 => (((elect_Timeout a0 a1).bind fun y73 => ((mementoref6_Timeout a0 a1).bind fun y75 => (if (y73 == y75) then ((elect_Timeout (IntKind.wrap .i64 (Int.tmod a9 7)) (IntKind.wrap .i64 a9)).bind fun y78 => ((mementoref6_Timeout (IntKind.wrap .i64 (Int.tmod a9 7)) (IntKind.wrap .i64 a9)).bind fun y80 => (if (y78 == y80) then ((elect_Newer a2 a3 a4 a5).bind fun y83 => ((mementoref6_Newer a2 a3 a4 a5).bind fun y85 => (if (y83 == y85) then ((elect_Newer (Go.bits .and .i64 a2 1) (Go.bits .and .i64 a3 3) (Go.bits .and .i64 a4 1) (Go.bits .and .i64 a5 3)).bind fun y88 => ((mementoref6_Newer (Go.bits .and .i64 a2 1) (Go.bits .and .i64 a3 3) (Go.bits .and .i64 a4 1) (Go.bits .and .i64 a5 3)).bind fun y90 => (if (y88 == y90) then ((elect_Commit a1 a6 a7 a8).bind fun y93 => ((mementoref6_Commit a1 a6 a7 a8).bind fun y95 => (if (y93 == y95) then ((elect_Commit (Go.bits .and .i64 a1 3) a6 t21 t22).bind fun y98 => ((mementoref6_Commit (Go.bits .and .i64 a1 3) a6 t21 t22).bind fun y100 => (some (y98 == y100)))) else (some false)))) else (some false)))) else (some false)))) else (some false)))) else (some false)))).bind fun t20 => (some t20))))))))

def mementolaw7_ElectApart (term : Int) (a : Int) (b : Int) : Option Bool :=
  ((mementolaw7_known).bind fun y => (if (!y) then (some false) else ((elect_Timeout (IntKind.wrap .i64 (Int.tmod a 7)) (IntKind.wrap .i64 term)).bind fun y1 => ((elect_Timeout (IntKind.wrap .i64 (Int.tmod b 7)) (IntKind.wrap .i64 term)).bind fun y3 => ((if ((y1 == y3) == ((Int.tmod a 7) == (Int.tmod b 7))) then (if (decide (y1 ≥ 10)) then (some (decide (y1 < 20))) else (some false)) else (some false)).bind fun t6 => (some t6))))))

def mementolaw7_ElectCommits_L1 (a1 : Int) (a2 : (List Int)) : ((List Int) × Int) → Option (Ctl (List Int) ((List Int) × Int))
  | (t913, t1115) => (if (decide (t1115 < (a2.length : Int))) then ((idx a2 t1115).bind fun x => ((app 8 t913 ([(IntKind.wrap .i64 ((IntKind.wrap .i64 a1) + (IntKind.wrap .i64 (Int.tmod x 24))))] : (List Int))).bind fun m => (some (.go (m, (IntKind.wrap .i64 (t1115 + 1))))))) else (early (some t913)))

def mementolaw7_ElectCommits_L2 (a3 : (List Int)) : ((List Int) × Int) → Option (Ctl (List Int) ((List Int) × Int))
  | (t1046, t1248) => (if (decide (t1248 < (a3.length : Int))) then ((idx a3 t1248).bind fun x59 => ((app 8 t1046 ([(IntKind.wrap .i64 (Int.tmod x59 4))] : (List Int))).bind fun m60 => (some (.go (m60, (IntKind.wrap .i64 (t1248 + 1))))))) else (early (some t1046)))

def mementolaw7_ElectCommits_L4 (t9 : (List Int)) (t1498 : Int) : (Int × Int) → Option (Ctl Int (Int × Int))
  | (t15132, t16133) => (if (decide (t16133 < (t9.length : Int))) then (((idx t9 t16133).bind fun x153 => (if (decide (x153 ≥ t1498)) then (some (IntKind.wrap .i64 (t15132 + 1))) else (some t15132))).bind fun t15144 => (some (.go (t15144, (IntKind.wrap .i64 (t16133 + 1)))))) else (early (some t15132)))

def mementolaw7_ElectCommits_L3 (a0 : Int) (a1 : Int) (t9 : (List Int)) (t10 : (List Int)) (y68 : Int) : Int → Option (Ctl (Ctl Bool Unit) Int)
  | t1498 => (if (decide (t1498 ≤ (IntKind.wrap .i64 ((IntKind.wrap .i64 a1) + (t10.length : Int))))) then ((loopN (mementolaw7_ElectCommits_L4 t9 t1498) fuel (0, 0)).bind fun t15 => ((if (decide ((IntKind.wrap .i64 (2 * t15)) > (t9.length : Int))) then ((idx t10 (IntKind.wrap .i64 ((IntKind.wrap .i64 (t1498 - (IntKind.wrap .i64 a1))) - 1))).bind fun x164 => (some (x164 == (IntKind.wrap .i64 (Int.tmod a0 4))))) else (some false)).bind fun t17 => ((if (decide (t1498 > y68)) then (if t17 then (some true) else (if (t1498 == y68) then (some (!t17)) else (some false))) else (if (t1498 == y68) then (some (!t17)) else (some false))).bind fun t141 => (if t141 then (early (early (some false))) else (some (.go (IntKind.wrap .i64 (t1498 + 1)))))))) else (early (some (.go ()))))

def mementolaw7_ElectCommits (a0 : Int) (a1 : Int) (a2 : (List Int)) (a3 : (List Int)) : Option Bool :=
  ((mementolaw7_known).bind fun y => (if (!y) then (some false) else ((if (decide ((a2.length : Int) > 7)) then (some true) else (some (decide ((a3.length : Int) > 20)))).bind fun t27 => (if t27 then (some true) else ((loopN (mementolaw7_ElectCommits_L1 a1 a2) fuel (([] : (List Int)), 0)).bind fun t9 => ((loopN (mementolaw7_ElectCommits_L2 a3) fuel (([] : (List Int)), 0)).bind fun t10 => ((elect_Commit (IntKind.wrap .i64 (Int.tmod a0 4)) (IntKind.wrap .i64 a1) t9 t10).bind fun y68 => ((if (decide (y68 < (IntKind.wrap .i64 a1))) then (some true) else (some (decide (y68 > (IntKind.wrap .i64 ((IntKind.wrap .i64 a1) + (t10.length : Int))))))).bind fun t81 => (if t81 then (some false) else (kont (loopN (mementolaw7_ElectCommits_L3 a0 a1 t9 t10 y68) fuel (IntKind.wrap .i64 ((IntKind.wrap .i64 a1) + 1))) fun () => (some true)))))))))))

def mementolaw7_ElectOrders (a0 : Int) (a1 : Int) (a2 : Int) (a3 : Int) (a4 : Int) (a5 : Int) : Option Bool :=
  ((mementolaw7_known).bind fun y => (if (!y) then (some false) else ((elect_Newer (IntKind.wrap .i64 (Int.tmod a0 4)) (IntKind.wrap .i64 (Int.tmod a1 4)) (IntKind.wrap .i64 (Int.tmod a2 4)) (IntKind.wrap .i64 (Int.tmod a3 4))).bind fun y1 => ((elect_Newer (IntKind.wrap .i64 (Int.tmod a2 4)) (IntKind.wrap .i64 (Int.tmod a3 4)) (IntKind.wrap .i64 (Int.tmod a0 4)) (IntKind.wrap .i64 (Int.tmod a1 4))).bind fun y3 => ((elect_Newer (IntKind.wrap .i64 (Int.tmod a2 4)) (IntKind.wrap .i64 (Int.tmod a3 4)) (IntKind.wrap .i64 (Int.tmod a4 4)) (IntKind.wrap .i64 (Int.tmod a5 4))).bind fun y5 => ((if y1 then (if y1 then (if ((IntKind.wrap .i64 (Int.tmod a0 4)) == (IntKind.wrap .i64 (Int.tmod a2 4))) then (if (y3 == ((IntKind.wrap .i64 (Int.tmod a1 4)) == (IntKind.wrap .i64 (Int.tmod a3 4)))) then (if y1 then (if (!y5) then (some true) else ((elect_Newer (IntKind.wrap .i64 (Int.tmod a0 4)) (IntKind.wrap .i64 (Int.tmod a1 4)) (IntKind.wrap .i64 (Int.tmod a4 4)) (IntKind.wrap .i64 (Int.tmod a5 4))).bind fun y12 => (some y12))) else (some true)) else (some false)) else (if (y3 == false) then (if y1 then (if (!y5) then (some true) else ((elect_Newer (IntKind.wrap .i64 (Int.tmod a0 4)) (IntKind.wrap .i64 (Int.tmod a1 4)) (IntKind.wrap .i64 (Int.tmod a4 4)) (IntKind.wrap .i64 (Int.tmod a5 4))).bind fun y17 => (some y17))) else (some true)) else (some false))) else (if ((IntKind.wrap .i64 (Int.tmod a0 4)) == (IntKind.wrap .i64 (Int.tmod a2 4))) then (if (false == ((IntKind.wrap .i64 (Int.tmod a1 4)) == (IntKind.wrap .i64 (Int.tmod a3 4)))) then (if y1 then (if (!y5) then (some true) else ((elect_Newer (IntKind.wrap .i64 (Int.tmod a0 4)) (IntKind.wrap .i64 (Int.tmod a1 4)) (IntKind.wrap .i64 (Int.tmod a4 4)) (IntKind.wrap .i64 (Int.tmod a5 4))).bind fun y23 => (some y23))) else (some true)) else (some false)) else (if (false == false) then (if y1 then (if (!y5) then (some true) else ((elect_Newer (IntKind.wrap .i64 (Int.tmod a0 4)) (IntKind.wrap .i64 (Int.tmod a1 4)) (IntKind.wrap .i64 (Int.tmod a4 4)) (IntKind.wrap .i64 (Int.tmod a5 4))).bind fun y28 => (some y28))) else (some true)) else (some false)))) else (if y3 then (if y1 then (if ((IntKind.wrap .i64 (Int.tmod a0 4)) == (IntKind.wrap .i64 (Int.tmod a2 4))) then (if (y3 == ((IntKind.wrap .i64 (Int.tmod a1 4)) == (IntKind.wrap .i64 (Int.tmod a3 4)))) then (if y1 then (if (!y5) then (some true) else ((elect_Newer (IntKind.wrap .i64 (Int.tmod a0 4)) (IntKind.wrap .i64 (Int.tmod a1 4)) (IntKind.wrap .i64 (Int.tmod a4 4)) (IntKind.wrap .i64 (Int.tmod a5 4))).bind fun y36 => (some y36))) else (some true)) else (some false)) else (if (y3 == false) then (if y1 then (if (!y5) then (some true) else ((elect_Newer (IntKind.wrap .i64 (Int.tmod a0 4)) (IntKind.wrap .i64 (Int.tmod a1 4)) (IntKind.wrap .i64 (Int.tmod a4 4)) (IntKind.wrap .i64 (Int.tmod a5 4))).bind fun y41 => (some y41))) else (some true)) else (some false))) else (if ((IntKind.wrap .i64 (Int.tmod a0 4)) == (IntKind.wrap .i64 (Int.tmod a2 4))) then (if (false == ((IntKind.wrap .i64 (Int.tmod a1 4)) == (IntKind.wrap .i64 (Int.tmod a3 4)))) then (if y1 then (if (!y5) then (some true) else ((elect_Newer (IntKind.wrap .i64 (Int.tmod a0 4)) (IntKind.wrap .i64 (Int.tmod a1 4)) (IntKind.wrap .i64 (Int.tmod a4 4)) (IntKind.wrap .i64 (Int.tmod a5 4))).bind fun y47 => (some y47))) else (some true)) else (some false)) else (if (false == false) then (if y1 then (if (!y5) then (some true) else ((elect_Newer (IntKind.wrap .i64 (Int.tmod a0 4)) (IntKind.wrap .i64 (Int.tmod a1 4)) (IntKind.wrap .i64 (Int.tmod a4 4)) (IntKind.wrap .i64 (Int.tmod a5 4))).bind fun y52 => (some y52))) else (some true)) else (some false)))) else (some false))).bind fun t12 => (some t12)))))))

def mementolaw7_ElectTurns_L1 (node : Int) (term : Int) : (Int × (List Bool)) → Option (Ctl (Ctl Bool (List Bool)) (Int × (List Bool)))
  | (i14, me15) => (if (decide (i14 < 10)) then ((elect_Timeout (IntKind.wrap .i64 (Int.tmod node 7)) (IntKind.wrap .i64 ((IntKind.wrap .i64 term) + i14))).bind fun y23 => ((if (decide (y23 < 10)) then (some true) else (if (decide (y23 > 19)) then (some true) else ((idx me15 y23).bind fun x => (some x)))).bind fun t32 => (if t32 then (early (early (some false))) else ((idx me15 y23).bind fun x32 => ((updL me15 y23 true).bind fun m => (some (.go ((IntKind.wrap .i64 (i14 + 1)), m)))))))) else (early (some (.go me15))))

def mementolaw7_ElectTurns (node : Int) (term : Int) : Option Bool :=
  ((mementolaw7_known).bind fun y => (if (!y) then (some false) else (kont (loopN (mementolaw7_ElectTurns_L1 node term) fuel (0, (List.replicate 20 false))) fun me => (((elect_Timeout (IntKind.wrap .i64 (Int.tmod node 7)) (IntKind.wrap .i64 term)).bind fun y42 => ((elect_Timeout (IntKind.wrap .i64 (Int.tmod node 7)) (IntKind.wrap .i64 ((IntKind.wrap .i64 term) + 10))).bind fun y44 => (if (y42 == y44) then ((elect_Timeout (IntKind.wrap .i64 (0 - (IntKind.wrap .i64 node))) 0).bind fun y47 => (some (y47 == 10))) else (some false)))).bind fun t4 => (some t4)))))

end Go.Proofs.Yteoalgkckhijlaa.Am
