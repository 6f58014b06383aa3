/- Part 2 of the proof: values, memory, walks or the plain law. -/
import Derived.Test.YtaaamoicidfgcaaGreatQ1
namespace Go.Proofs.YtaaamoicidfgcaaGreat.Am
open Go Go.RowKit
set_option linter.unusedVariables false
theorem mid_iff {m : List Int} (hs : ∀ k l, k < l → l < m.length → gt m k ≤ gt m l) (hp : 0 < m.length) (a : Int) :
  a ≤ m[(m.length - 1) / 2]?.getD 0 ↔ m.length < 2 * (m.filter fun x => decide (a ≤ x)).length := by
 obtain ⟨t, ht⟩ : ∃ t, (m.length - 1) / 2 = t := ⟨_, rfl⟩
 have htl : t < m.length := by omega
 have hg : ∀ k, m[k]?.getD 0 = gt m k := fun k => by unfold gt; rw [List.getD_eq_getElem?_getD]
 rw [ht, hg]
 have hle : ∀ k l, k ≤ l → l < m.length → gt m k ≤ gt m l := fun k l h1 h2 => by
  rcases Nat.lt_or_ge k l with h | h
  ·exact hs k l h h2
  ·rw [show k = l by omega]; omega
 constructor
 ·intro h
  have h1 : (m.drop t).filter (fun x => decide (a ≤ x)) = m.drop t := List.filter_eq_self.2 fun x hx => by
   obtain ⟨i, hi, rfl⟩ := List.getElem_of_mem hx
   rw [List.length_drop] at hi
   rw [List.getElem_drop, ← gt_at (show t + i < m.length by omega)]
   have := hle t (t + i) (by omega) (by omega)
   exact decide_eq_true (by omega)
  have h2 : (m.filter fun x => decide (a ≤ x)) = (m.take t).filter (fun x => decide (a ≤ x)) ++ m.drop t := by rw [← h1, ← List.filter_append, List.take_append_drop]
  rw [h2, List.length_append, List.length_drop]
  omega
 ·intro h
  by_cases hc : a ≤ gt m t
  ·exact hc
  exfalso
  have h1 : (m.take (t + 1)).filter (fun x => decide (a ≤ x)) = [] := List.filter_eq_nil_iff.2 fun x hx => by
   obtain ⟨i, hi, rfl⟩ := List.getElem_of_mem hx
   rw [List.length_take] at hi
   rw [List.getElem_take, ← gt_at (show i < m.length by omega)]
   have := hle i t (by omega) htl
   simp; omega
  have h2 : (m.filter fun x => decide (a ≤ x)) = (m.drop (t + 1)).filter (fun x => decide (a ≤ x)) := by
   conv => lhs; rw [← List.take_append_drop (t + 1) m, List.filter_append, h1, List.nil_append]
  have h3 := List.length_filter_le (fun x => decide (a ≤ x)) (m.drop (t + 1))
  rw [h2] at h
  rw [List.length_drop] at h3
  omega
theorem w_elect_Commit (term commit : Int) (mt ts : List Int) (H : Mem) {r : Int} (h : elect_Commit term commit mt ts = some r) :
  ACalls Tryz.prog 123 [.sc (.int .i64 term), .sc (.int .i64 commit), .sl 1 (mt.map c_i64) .no, .sl 1 (ts.map c_i64) .no] H (fun r' H' => r' = .sc (.int .i64 r) ∧ H' = H) := by
 unfold elect_Commit at h
 split at h
 ·rename_i hl
  cases h
  refine acalls_of_below (by kernel_rfl) fun g w vals hm hsz hv => ?_
  obtain ⟨v0, v1, v2, v3, rfl⟩ : ∃ v0 v1 v2 v3, vals = #[v0, v1, v2, v3] := by
   obtain ⟨l⟩ := vals
   match l, hsz with
   | [v0, v1, v2, v3], _ => exact ⟨v0, v1, v2, v3, rfl⟩
  obtain rfl := VR_sc (hv 0 _ rfl)
  obtain rfl := VR_sc (hv 1 _ rfl)
  have h2 := Ints.of_VR hm (hv 2 _ rfl)
  have h3 := Ints.of_VR hm (hv 3 _ rfl)
  change Ints w.heap.size w v2 mt at h2
  change Ints w.heap.size w v3 ts at h3
  by_cases h0 : mt = []
  ·subst h0
   rw [if_pos rfl]
   rcases h2 with ⟨_, q⟩ | ⟨b, off, cap, rfl, _⟩
   ·exact callsIn_wide.1 (commit0_in term commit v2 v3 q w)
   ·exact callsIn_wide.1 (commit0_in term commit _ v3 ⟨_, _, rfl⟩ w)
  ·rw [if_neg h0]
   have hpos : 0 < mt.length := List.length_pos_iff.2 h0
   obtain ⟨m, hs, hml, hperm, hso⟩ := sort_eq hl.1
   obtain ⟨a1, c1, rfl⟩ := h2.slice
   obtain ⟨a2, c2, rfl⟩ := h3.slice
   refine (callsIn_wide.1 (commit1_in term commit a1 a2 c1 c2 mt ts m hs hml hpos hl.1 hl.2 w h2 h3)).mono fun e w' q => ?_
   have hc : cmtT term commit (m[(mt.length - 1) / 2]?.getD 0) = cmtC term commit mt := by
    funext p
    unfold cmtT cmtC
    congr 1
    have q := mid_iff hso (by omega) (cmtAt commit p.1)
    rw [hml, (hperm.filter _).length_eq] at q
    simp only [q]
   rw [hc] at q
   exact q
 ·cases h
end Go.Proofs.YtaaamoicidfgcaaGreat.Am
namespace Go.Proofs.YtaaamoicidfgcaaGreat.Am
open Go
set_option linter.unusedVariables false
set_option maxRecDepth 10000
structure Api_Base where
 Index : Int
 Term : Int
 Conf : (List Int)
 Data : (List Int)
deriving Inhabited
structure Api_Entry where
 Index : Int
 Term : Int
 Kind : Int
 Data : (List Int)
deriving Inhabited
def c_Api_Entry (x : Api_Entry) : List PV := [.sc (.int .i64 x.Index), .sc (.int .i64 x.Term), .sc (.int .i64 x.Kind), .sl 1 (x.Data.map c_u8)]
structure Rlog_tail where
 base : Api_Base
 l : (List Api_Entry)
deriving Inhabited
structure Rlog_Log where
 tail : Rlog_tail
deriving Inhabited
structure Api_Hard where
 Term : Int
 Vote : Int
deriving Inhabited
structure Api_Image where
 Hard : Api_Hard
 Base : Api_Base
 Log : (List Api_Entry)
deriving Inhabited
structure A7_int where
 f0 : Int
 f1 : Int
 f2 : Int
 f3 : Int
 f4 : Int
 f5 : Int
 f6 : Int
deriving Inhabited
def A7_int.put (a : A7_int) (i v : Int) : A7_int :=
 if i = 0 then { a with f0 := v }
 else if i = 1 then { a with f1 := v }
 else if i = 2 then { a with f2 := v }
 else if i = 3 then { a with f3 := v }
 else if i = 4 then { a with f4 := v }
 else if i = 5 then { a with f5 := v }
 else { a with f6 := v }
structure Raft_core where
 id : Int
 group : Int
 log : Rlog_Log
 hard : Api_Hard
 role : Int
 lead : Int
 commit : Int
 applied : Int
 silence : Int
 beat : Int
 yes : (List Int)
 next_ : A7_int
 match_ : A7_int
deriving Inhabited
structure Raft_Raft where
 core : Raft_core
deriving Inhabited
structure Api_Msg where
 Kind : Int
 Group : Int
 From : Int
 To : Int
 Term : Int
 Index : Int
 LogTerm : Int
 Commit : Int
 Ok : Bool
 Entries : (List Api_Entry)
 Base : Api_Base
 Data : (List Int)
 Vol : Int
 Chunk : Int
 Mark : Int
 Floor : Int
deriving Inhabited
def c_Api_Msg (x : Api_Msg) : List PV := [.sc (.int .i64 x.Kind), .sc (.int .i64 x.Group), .sc (.int .i64 x.From), .sc (.int .i64 x.To), .sc (.int .i64 x.Term), .sc (.int .i64 x.Index), .sc (.int .i64 x.LogTerm), .sc (.int .i64 x.Commit), .sc (.bool x.Ok), .sl 4 (x.Entries.map c_Api_Entry), .sc (.int .i64 x.Base.Index), .sc (.int .i64 x.Base.Term), .sl 1 (x.Base.Conf.map c_i64), .sl 1 (x.Base.Data.map c_u8), .sl 1 (x.Data.map c_u8), .sc (.int .i64 x.Vol), .sc (.int .i64 x.Chunk), .sc (.int .i64 x.Mark), .sc (.int .i64 x.Floor)]
structure Api_Rec where
 Group : Int
 Kind : Int
 Hard : Api_Hard
 Entry : Api_Entry
 Base : Api_Base
deriving Inhabited
def c_Api_Rec (x : Api_Rec) : List PV := [.sc (.int .i64 x.Group), .sc (.int .i64 x.Kind), .sc (.int .i64 x.Hard.Term), .sc (.int .i64 x.Hard.Vote), .sc (.int .i64 x.Entry.Index), .sc (.int .i64 x.Entry.Term), .sc (.int .i64 x.Entry.Kind), .sl 1 (x.Entry.Data.map c_u8), .sc (.int .i64 x.Base.Index), .sc (.int .i64 x.Base.Term), .sl 1 (x.Base.Conf.map c_i64), .sl 1 (x.Base.Data.map c_u8)]
structure Raft_Out where
 Msgs : (List Api_Msg)
 Recs : (List Api_Rec)
 Restore : Bool
deriving Inhabited
abbrev kt_Rlog_Log (x0 : Int) (x1 : Int) (x2 : (List Int)) (x3 : (List Int)) (x4 : (List Api_Entry)) : List Tr := [.av (.sc (.int .i64 x0)), .av (.sc (.int .i64 x1)), .av (.sl 1 (x2.map c_i64) .no), .av (.sl 1 (x3.map c_u8) .no), .sr 4 (x4.map c_Api_Entry)]
abbrev kt_Rlog_tail (x0 : Int) (x1 : Int) (x2 : (List Int)) (x3 : (List Int)) (x4 : (List Api_Entry)) : List Tr := [.av (.sc (.int .i64 x0)), .av (.sc (.int .i64 x1)), .av (.sl 1 (x2.map c_i64) .no), .av (.sl 1 (x3.map c_u8) .no), .sr 4 (x4.map c_Api_Entry)]
abbrev kt_Raft_core (x0 : Int) (x1 : Int) (x2 : Nat) (x3 : Int) (x4 : Int) (x5 : Int) (x6 : Int) (x7 : Int) (x8 : Int) (x9 : Int) (x10 : Int) (x11 : (List Int)) (x12 : A7_int) (x13 : A7_int) : List Tr := [.av (.sc (.int .i64 x0)), .av (.sc (.int .i64 x1)), .av (.pt x2 0), .av (.sc (.int .i64 x3)), .av (.sc (.int .i64 x4)), .av (.sc (.int .i64 x5)), .av (.sc (.int .i64 x6)), .av (.sc (.int .i64 x7)), .av (.sc (.int .i64 x8)), .av (.sc (.int .i64 x9)), .av (.sc (.int .i64 x10)), .sr 1 (x11.map c_i64), .av (.sc (.int .i64 x12.f0)), .av (.sc (.int .i64 x12.f1)), .av (.sc (.int .i64 x12.f2)), .av (.sc (.int .i64 x12.f3)), .av (.sc (.int .i64 x12.f4)), .av (.sc (.int .i64 x12.f5)), .av (.sc (.int .i64 x12.f6)), .av (.sc (.int .i64 x13.f0)), .av (.sc (.int .i64 x13.f1)), .av (.sc (.int .i64 x13.f2)), .av (.sc (.int .i64 x13.f3)), .av (.sc (.int .i64 x13.f4)), .av (.sc (.int .i64 x13.f5)), .av (.sc (.int .i64 x13.f6))]
abbrev kt_Raft_Raft (x0 : Int) (x1 : Int) (x2 : Nat) (x3 : Int) (x4 : Int) (x5 : Int) (x6 : Int) (x7 : Int) (x8 : Int) (x9 : Int) (x10 : Int) (x11 : (List Int)) (x12 : A7_int) (x13 : A7_int) : List Tr := [.av (.sc (.int .i64 x0)), .av (.sc (.int .i64 x1)), .av (.pt x2 0), .av (.sc (.int .i64 x3)), .av (.sc (.int .i64 x4)), .av (.sc (.int .i64 x5)), .av (.sc (.int .i64 x6)), .av (.sc (.int .i64 x7)), .av (.sc (.int .i64 x8)), .av (.sc (.int .i64 x9)), .av (.sc (.int .i64 x10)), .sr 1 (x11.map c_i64), .av (.sc (.int .i64 x12.f0)), .av (.sc (.int .i64 x12.f1)), .av (.sc (.int .i64 x12.f2)), .av (.sc (.int .i64 x12.f3)), .av (.sc (.int .i64 x12.f4)), .av (.sc (.int .i64 x12.f5)), .av (.sc (.int .i64 x12.f6)), .av (.sc (.int .i64 x13.f0)), .av (.sc (.int .i64 x13.f1)), .av (.sc (.int .i64 x13.f2)), .av (.sc (.int .i64 x13.f3)), .av (.sc (.int .i64 x13.f4)), .av (.sc (.int .i64 x13.f5)), .av (.sc (.int .i64 x13.f6))]
abbrev kt_Raft_Out (x0 : (List Api_Msg)) (x1 : (List Api_Rec)) (x2 : Bool) : List Tr := [.sr 19 (x0.map c_Api_Msg), .sr 12 (x1.map c_Api_Rec), .av (.sc (.bool x2))]
abbrev k_Api_Base (x : Api_Base) : List AV := [.sc (.int .i64 x.Index), .sc (.int .i64 x.Term), .sl 1 (x.Conf.map c_i64) .no, .sl 1 (x.Data.map c_u8) .no]
abbrev z_Api_Base : List AV := [.sc (.int .i64 0), .sc (.int .i64 0), .sc (.slice none 0 0), .sc (.slice none 0 0)]
abbrev k_Api_Image (x : Api_Image) : List AV := [.sc (.int .i64 x.Hard.Term), .sc (.int .i64 x.Hard.Vote), .sc (.int .i64 x.Base.Index), .sc (.int .i64 x.Base.Term), .sl 1 (x.Base.Conf.map c_i64) .no, .sl 1 (x.Base.Data.map c_u8) .no, .sl 4 (x.Log.map c_Api_Entry) .no]
abbrev z_Api_Image : List AV := [.sc (.int .i64 0), .sc (.int .i64 0), .sc (.int .i64 0), .sc (.int .i64 0), .sc (.slice none 0 0), .sc (.slice none 0 0), .sc (.slice none 0 0)]
abbrev k_Api_Msg (x : Api_Msg) : List AV := [.sc (.int .i64 x.Kind), .sc (.int .i64 x.Group), .sc (.int .i64 x.From), .sc (.int .i64 x.To), .sc (.int .i64 x.Term), .sc (.int .i64 x.Index), .sc (.int .i64 x.LogTerm), .sc (.int .i64 x.Commit), .sc (.bool x.Ok), .sl 4 (x.Entries.map c_Api_Entry) .no, .sc (.int .i64 x.Base.Index), .sc (.int .i64 x.Base.Term), .sl 1 (x.Base.Conf.map c_i64) .no, .sl 1 (x.Base.Data.map c_u8) .no, .sl 1 (x.Data.map c_u8) .no, .sc (.int .i64 x.Vol), .sc (.int .i64 x.Chunk), .sc (.int .i64 x.Mark), .sc (.int .i64 x.Floor)]
abbrev z_Api_Msg : List AV := [.sc (.int .i64 0), .sc (.int .i64 0), .sc (.int .i64 0), .sc (.int .i64 0), .sc (.int .i64 0), .sc (.int .i64 0), .sc (.int .i64 0), .sc (.int .i64 0), .sc (.bool false), .sc (.slice none 0 0), .sc (.int .i64 0), .sc (.int .i64 0), .sc (.slice none 0 0), .sc (.slice none 0 0), .sc (.slice none 0 0), .sc (.int .i64 0), .sc (.int .i64 0), .sc (.int .i64 0), .sc (.int .i64 0)]
abbrev k_Api_Entry (x : Api_Entry) : List AV := [.sc (.int .i64 x.Index), .sc (.int .i64 x.Term), .sc (.int .i64 x.Kind), .sl 1 (x.Data.map c_u8) .no]
abbrev z_Api_Entry : List AV := [.sc (.int .i64 0), .sc (.int .i64 0), .sc (.int .i64 0), .sc (.slice none 0 0)]
def slices_Clone_Lint_int (vs : (List Int)) : Option (List Int) :=
 ((app 8 ([] : (List Int)) vs).bind fun m => (some m))
def slices_Clone_Lbyte_byte (vs : (List Int)) : Option (List Int) :=
 ((app 1 ([] : (List Int)) vs).bind fun m => (some m))
def rlog_under (b : Api_Base) : Option Api_Base :=
 ((slices_Clone_Lint_int b.Conf).bind fun y => ((slices_Clone_Lbyte_byte b.Data).bind fun y7 => (some (Api_Base.mk b.Index b.Term y y7))))
def rlog_copied (e : Api_Entry) : Option Api_Entry :=
 ((slices_Clone_Lbyte_byte e.Data).bind fun y => (some (Api_Entry.mk e.Index e.Term e.Kind y)))
def rlog_all_L1 (l : (List Api_Entry)) : (Int × (List Api_Entry)) → Option (Ctl (List Api_Entry) (Int × (List Api_Entry)))
 | (t1114, me15) => (if (decide (t1114 < (l.length : Int))) then ((idx l t1114).bind fun x => ((rlog_copied x).bind fun y => ((idx me15 t1114).bind fun x31 => ((updL me15 t1114 y).bind fun m32 => (some (.go ((IntKind.wrap .i64 (t1114 + 1)), m32))))))) else (early (some me15)))
def rlog_all (l : (List Api_Entry)) : Option (List Api_Entry) :=
 ((mks 48 (Api_Entry.mk 0 0 0 ([] : (List Int))) (l.length : Int)).bind fun m => ((loopN (rlog_all_L1 l) fuel (0, m)).bind fun me => (some me)))
def rlog_New_L1 (b : Api_Base) (l : (List Api_Entry)) : Int → Option (Ctl Int Int)
 | n11 => ((if (decide (n11 < (l.length : Int))) then ((idx l n11).bind fun x => (some (x.Index == (IntKind.wrap .i64 ((IntKind.wrap .i64 (b.Index + n11)) + 1))))) else (some false)).bind fun t22 => (if t22 then (some (.go (IntKind.wrap .i64 (n11 + 1)))) else (early (some n11))))
def rlog_New (b : Api_Base) (l : (List Api_Entry)) : Option Rlog_Log :=
 ((loopN (rlog_New_L1 b l) fuel 0).bind fun n => ((rlog_under b).bind fun y => ((slc l 0 n).bind fun m => ((rlog_all m).bind fun y20 => (some (Rlog_Log.mk (Rlog_tail.mk y y20)))))))
def raft_New (id : Int) (group : Int) (m : Api_Image) : Option Raft_Raft :=
 ((rlog_New m.Base m.Log).bind fun y => (some (Raft_Raft.mk (Raft_core.mk (minI (maxI id 0) 6) (minI (maxI group 0) 7) y m.Hard 0 (-1) m.Base.Index m.Base.Index 0 0 ([] : (List Int)) (A7_int.mk 0 0 0 0 0 0 0) (A7_int.mk 0 0 0 0 0 0 0)))))
def rlog_tail_Last (t : Rlog_tail) : Option Int :=
 (some (IntKind.wrap .i64 (t.base.Index + (t.l.length : Int))))
def entry_time (n : Int) : Option Bool :=
 ((if (decide (n ≥ 0)) then (some (decide (n ≤ 1099511627776))) else (some false)).bind fun t2 => (some t2))
def entry_Right (e : Api_Entry) : Option Bool :=
 (((entry_time e.Index).bind fun y => (if (!y) then (some true) else (if (e.Index == 0) then (some true) else ((entry_time e.Term).bind fun y6 => (some (!y6)))))).bind fun t17 => (if t17 then (some false) else (if (e.Kind == 0) then (some ((e.Data.length : Int) == 0)) else (if (e.Kind == 1) then (some (decide ((e.Data.length : Int) ≤ 32767))) else (if (e.Kind == 2) then ((if ((e.Data.length : Int) == 2) then ((idx e.Data 0).bind fun x => (if (decide (x < 7)) then ((idx e.Data 1).bind fun x17 => (some (decide (x17 ≤ 1)))) else (some false))) else (some false)).bind fun t2 => (some t2)) else (some false))))))
def slices_IndexFunc_Lint_int_own0_L1 (vs : (List Int)) (f : (Int → Option Bool)) : Int → Option (Ctl (Ctl Int Unit) Int)
 | t810 => (if (decide (t810 < (vs.length : Int))) then ((idx vs t810).bind fun x => ((f x).bind fun y => (if y then (early (early (some t810))) else (some (.go (IntKind.wrap .i64 (t810 + 1))))))) else (early (some (.go ()))))
def slices_IndexFunc_Lint_int_own0 (vs : (List Int)) (f : (Int → Option Bool)) : Option Int :=
 (kont (loopN (slices_IndexFunc_Lint_int_own0_L1 vs f) fuel 0) fun () => (some (-1)))
def slices_DeleteFunc_Lint_int_L1 (vs : (List Int)) (del : (Int → Option Bool)) : (Int × Int × (List Int)) → Option (Ctl (Int × (List Int)) (Int × Int × (List Int)))
 | (i11, j12, mpvs13) => (if (decide (j12 < (vs.length : Int))) then (((idx mpvs13 j12).bind fun x => ((del x).bind fun y29 => (if (!y29) then ((idx mpvs13 i11).bind fun x31 => ((updL mpvs13 i11 x).bind fun m => (some ((IntKind.wrap .i64 (i11 + 1)), m)))) else (some (i11, mpvs13))))).bind fun (i21, mpvs22) => (some (.go (i21, (IntKind.wrap .i64 (j12 + 1)), mpvs22)))) else (early (some (i11, mpvs13))))
def slices_DeleteFunc_Lint_int (vs : (List Int)) (del : (Int → Option Bool)) : Option (List Int) :=
 ((slices_IndexFunc_Lint_int_own0 vs del).bind fun y => (if (y == (-1)) then (some vs) else ((loopN (slices_DeleteFunc_Lint_int_L1 vs del) fuel (y, (IntKind.wrap .i64 (y + 1)), vs)).bind fun (i, mpvs) => ((slcH vs.length i ((vs.length : Nat) : Int)).bind fun (o, k36) => ((slcH vs.length 0 i).bind fun (o42, k43) => (some ((fillL mpvs o k36 0).take k43)))))))
def conf_may (n : Int) : Option Bool :=
 ((if (decide (n ≥ 0)) then (some (decide (n < 7))) else (some false)).bind fun t2 => (some t2))
def conf_Of_1 (n : Int) : Option Bool :=
 ((conf_may n).bind fun y => (some (!y)))
def slices_Compact_Lint_int_L2 (o : Nat) (k20 : Nat) : (Int × Int × (List Int)) → Option (Ctl (Int × (List Int)) (Int × Int × (List Int)))
 | (k38, k239, mpvs40) => (if (decide (k239 < (k20 : Int))) then (((idxP mpvs40 o k20 k239).bind fun x56 => ((idxP mpvs40 o k20 (IntKind.wrap .i64 (k239 - 1))).bind fun x57 => (if (x56 != x57) then ((idx mpvs40 k38).bind fun x61 => ((updL mpvs40 k38 x56).bind fun m => (some ((IntKind.wrap .i64 (k38 + 1)), m)))) else (some (k38, mpvs40))))).bind fun (k48, mpvs49) => (some (.go (k48, (IntKind.wrap .i64 (k239 + 1)), mpvs49)))) else (early (some (k38, mpvs40))))
def slices_Compact_Lint_int_L1 (vs : (List Int)) : Int → Option (Ctl (Ctl (List Int) Unit) Int)
 | k10 => (if (decide (k10 < (vs.length : Int))) then ((idx vs k10).bind fun x => ((idx vs (IntKind.wrap .i64 (k10 - 1))).bind fun x18 => (if (x == x18) then ((slcH vs.length k10 ((vs.length : Nat) : Int)).bind fun (o, k20) => ((loopN (slices_Compact_Lint_int_L2 o k20) fuel (k10, 1, vs)).bind fun (k21, mpvs) => ((slcH vs.length k21 ((vs.length : Nat) : Int)).bind fun (o66, k67) => ((slcH vs.length 0 k21).bind fun (o73, k74) => (early (early (some ((fillL mpvs o66 k67 0).take k74)))))))) else (some (.go (IntKind.wrap .i64 (k10 + 1))))))) else (early (some (.go ()))))
def slices_Compact_Lint_int (vs : (List Int)) : Option (List Int) :=
 (if (decide ((vs.length : Int) < 2)) then (some vs) else (kont (loopN (slices_Compact_Lint_int_L1 vs) fuel 1) fun () => (some vs)))
def conf_Of (l : (List Int)) : Option (List Int) :=
 ((slices_Clone_Lint_int l).bind fun y => ((slices_DeleteFunc_Lint_int y (fun z0 => conf_Of_1 z0)).bind fun y1 => ((slices_Sort_Lint_int y1).bind fun y7 => ((chkl y1.length y7).bind fun () => ((slices_Compact_Lint_int y7).bind fun y13 => (some y13))))))
def conf_With (l : (List Int)) (n : Int) : Option (List Int) :=
 ((slices_Clone_Lint_int l).bind fun y => ((app 8 y ([n] : (List Int))).bind fun m => ((conf_Of m).bind fun y6 => (some y6))))
def conf_Without_1 (x : Int) (a1 : Int) : Option Bool :=
 (some (x == a1))
def conf_Without (l : (List Int)) (n : Int) : Option (List Int) :=
 ((conf_Of l).bind fun y => ((slices_DeleteFunc_Lint_int y (fun z0 => conf_Without_1 z0 n)).bind fun y7 => (some y7)))
def rlog_tail_Conf_L1 (t : Rlog_tail) (i : Int) : ((List Int) × Int) → Option (Ctl (List Int) ((List Int) × Int))
 | (out8, t209) => (if (decide (t209 < (t.l.length : Int))) then (((idx t.l t209).bind fun x => ((if (decide (x.Index > i)) then (some true) else (if (x.Kind != 2) then (some true) else ((entry_Right x).bind fun y33 => (some (!y33))))).bind fun t37 => (if t37 then (some out8) else ((idx x.Data 0).bind fun x36 => ((idx x.Data 1).bind fun x37 => (if (x37 == 1) then ((conf_With out8 (IntKind.wrap .i64 x36)).bind fun y39 => (some y39)) else ((conf_Without out8 (IntKind.wrap .i64 x36)).bind fun y41 => (some y41)))))))).bind fun out14 => (some (.go (out14, (IntKind.wrap .i64 (t209 + 1)))))) else (early (some out8)))
def rlog_tail_Conf (t : Rlog_tail) (i : Int) : Option (List Int) :=
 ((slices_Clone_Lint_int t.base.Conf).bind fun y => ((loopN (rlog_tail_Conf_L1 t i) fuel (y, 0)).bind fun out => (some out)))
def raft_core_Conf (vc : Raft_core) : Option (List Int) :=
 ((rlog_tail_Last vc.log.tail).bind fun y => ((rlog_tail_Conf vc.log.tail y).bind fun y1 => (some y1)))
def raft_core_others (vc : Raft_core) : Option (List Int) :=
 ((raft_core_Conf vc).bind fun y => ((conf_Without y vc.id).bind fun y1 => (some y1)))
def rlog_tail_Base (t : Rlog_tail) : Option Api_Base :=
 ((rlog_under t.base).bind fun y => (some y))
def raft_Raft_send (vr : Raft_Raft) (o : Raft_Out) (to : Int) (m : Api_Msg) : Option Raft_Out :=
 ((app 216 o.Msgs ([(Api_Msg.mk m.Kind vr.core.group vr.core.id to m.Term m.Index m.LogTerm m.Commit m.Ok m.Entries m.Base m.Data m.Vol m.Chunk m.Mark m.Floor)] : (List Api_Msg))).bind fun m75 => (some (Raft_Out.mk m75 o.Recs o.Restore)))
def rlog_tail_Term (t : Rlog_tail) (i : Int) : Option Int :=
 (if (i == t.base.Index) then (some t.base.Term) else ((if (decide (i > t.base.Index)) then ((rlog_tail_Last t).bind fun y => (some (decide (i ≤ y)))) else (some false)).bind fun t18 => (if t18 then ((idx t.l (IntKind.wrap .i64 ((IntKind.wrap .i64 (i - t.base.Index)) - 1))).bind fun x => (some x.Term)) else (some (-1)))))
def rlog_tail_From (t : Rlog_tail) (i : Int) (n : Int) : Option (List Api_Entry) :=
 (((rlog_tail_Last t).bind fun y => (if (decide (i > y)) then (some true) else (some (decide (n ≤ 0))))).bind fun t15 => (if t15 then (some ([] : (List Api_Entry))) else ((slc t.l (IntKind.wrap .i64 ((IntKind.wrap .i64 ((maxI i (IntKind.wrap .i64 (t.base.Index + 1))) - t.base.Index)) - 1)) (t.l.length : Int)).bind fun m => ((slc m 0 (minI n (m.length : Int))).bind fun m1 => ((rlog_all m1).bind fun y2 => (some y2))))))
def raft_Raft_word (a0 : Raft_Raft) (a1 : Raft_Out) (a2 : Int) : Option Raft_Out :=
 ((rlog_tail_Base a0.core.log.tail).bind fun y => ((idx [a0.core.next_.f0, a0.core.next_.f1, a0.core.next_.f2, a0.core.next_.f3, a0.core.next_.f4, a0.core.next_.f5, a0.core.next_.f6] a2).bind fun x => (if (decide (x ≤ y.Index)) then ((raft_Raft_send a0 a1 a2 (Api_Msg.mk 7 0 0 0 a0.core.hard.Term 0 0 0 false ([] : (List Api_Entry)) y ([] : (List Int)) 0 0 0 0)).bind fun y12 => (some y12)) else ((rlog_tail_Term a0.core.log.tail (IntKind.wrap .i64 (x - 1))).bind fun y20 => ((rlog_tail_From a0.core.log.tail x 4).bind fun y22 => ((raft_Raft_send a0 a1 a2 (Api_Msg.mk 5 0 0 0 a0.core.hard.Term (IntKind.wrap .i64 (x - 1)) y20 a0.core.commit false y22 (Api_Base.mk 0 0 ([] : (List Int)) ([] : (List Int))) ([] : (List Int)) 0 0 0 0)).bind fun y24 => (some y24)))))))
def raft_Raft_words_L1 (vr : Raft_Raft) (y : (List Int)) : (Int × Raft_Out) → Option (Ctl Raft_Out (Int × Raft_Out))
 | (t1114, mpo15) => (if (decide (t1114 < (y.length : Int))) then ((idx y t1114).bind fun x => ((raft_Raft_word vr mpo15 x).bind fun y22 => (some (.go ((IntKind.wrap .i64 (t1114 + 1)), y22))))) else (early (some mpo15)))
def raft_Raft_words (vr : Raft_Raft) (o : Raft_Out) : Option Raft_Out :=
 ((raft_core_others vr.core).bind fun y => ((loopN (raft_Raft_words_L1 vr y) fuel (0, o)).bind fun mpo => (some mpo)))
def slices_Index_Lint_int_L1 (vs : (List Int)) (v : Int) : Int → Option (Ctl (Ctl Int Unit) Int)
 | t85 => (if (decide (t85 < (vs.length : Int))) then ((idx vs t85).bind fun x => (if (v == x) then (early (early (some t85))) else (some (.go (IntKind.wrap .i64 (t85 + 1)))))) else (early (some (.go ()))))
def slices_Index_Lint_int (vs : (List Int)) (v : Int) : Option Int :=
 (kont (loopN (slices_Index_Lint_int_L1 vs v) fuel 0) fun () => (some (-1)))
def slices_Contains_Lint_int (vs : (List Int)) (v : Int) : Option Bool :=
 ((slices_Index_Lint_int vs v).bind fun y => (some (decide (y ≥ 0))))
def conf_Has (l : (List Int)) (n : Int) : Option Bool :=
 ((slices_Contains_Lint_int l n).bind fun y => (some y))
def elect_part (n : Int) : Option Int :=
 (some (Int.tmod (maxI n 0) 10))
def elect_Timeout (node : Int) (term : Int) : Option Int :=
 ((elect_part node).bind fun y => ((elect_part term).bind fun y1 => (some (IntKind.wrap .i64 (10 + (Int.tmod (IntKind.wrap .i64 ((IntKind.wrap .i64 (7 * y)) + (IntKind.wrap .i64 (3 * y1)))) 10))))))
def conf_Most_L1 (yes : (List Int)) (y : (List Int)) : (Int × Int) → Option (Ctl Int (Int × Int))
 | (n6, t137) => (if (decide (t137 < (y.length : Int))) then (((idx y t137).bind fun x => ((conf_Has yes x).bind fun y15 => (if y15 then (some (IntKind.wrap .i64 (n6 + 1))) else (some n6)))).bind fun n11 => (some (.go (n11, (IntKind.wrap .i64 (t137 + 1)))))) else (early (some n6)))
def conf_Most (l : (List Int)) (yes : (List Int)) : Option Bool :=
 ((conf_Of l).bind fun y => ((loopN (conf_Most_L1 yes y) fuel (0, 0)).bind fun n => (some (decide ((IntKind.wrap .i64 (2 * n)) > (y.length : Int))))))
def raft_core_most (vc : Raft_core) : Option Bool :=
 ((raft_core_Conf vc).bind fun y => ((conf_Most y vc.yes).bind fun y1 => (some y1)))
def raft_Raft_save (vr : Raft_Raft) (o : Raft_Out) : Option Raft_Out :=
 ((app 144 o.Recs ([(Api_Rec.mk vr.core.group 1 vr.core.hard (Api_Entry.mk 0 0 0 ([] : (List Int))) (Api_Base.mk 0 0 ([] : (List Int)) ([] : (List Int))))] : (List Api_Rec))).bind fun m => (some (Raft_Out.mk o.Msgs m o.Restore)))
def rlog_Log_Add (vg : Rlog_Log) (term : Int) (kind : Int) (data : (List Int)) : Option (Api_Entry × Rlog_Log) :=
 ((rlog_tail_Last vg.tail).bind fun y => ((slices_Clone_Lbyte_byte data).bind fun y2 => ((app 48 vg.tail.l ([(Api_Entry.mk (IntKind.wrap .i64 (y + 1)) term kind y2)] : (List Api_Entry))).bind fun m => ((rlog_copied (Api_Entry.mk (IntKind.wrap .i64 (y + 1)) term kind y2)).bind fun y58 => (some (y58, (Rlog_Log.mk (Rlog_tail.mk vg.tail.base m))))))))
def raft_Raft_keep (vr : Raft_Raft) (o : Raft_Out) (e : Api_Entry) : Option Raft_Out :=
 ((app 144 o.Recs ([(Api_Rec.mk vr.core.group 2 (Api_Hard.mk 0 0) e (Api_Base.mk 0 0 ([] : (List Int)) ([] : (List Int))))] : (List Api_Rec))).bind fun m => (some (Raft_Out.mk o.Msgs m o.Restore)))
def raft_Raft_counting_L1 (a0 : Raft_Raft) (y : Int) (y1 : (List Int)) : ((List Int) × Int) → Option (Ctl (List Int) ((List Int) × Int))
 | (t217, t2119) => (if (decide (t2119 < (y1.length : Int))) then (((idx y1 t2119).bind fun x => (if (x == a0.core.id) then ((app 8 t217 ([y] : (List Int))).bind fun m => (some m)) else ((idx [a0.core.match_.f0, a0.core.match_.f1, a0.core.match_.f2, a0.core.match_.f3, a0.core.match_.f4, a0.core.match_.f5, a0.core.match_.f6] x).bind fun x44 => ((app 8 t217 ([x44] : (List Int))).bind fun m45 => (some m45))))).bind fun t227 => (some (.go (t227, (IntKind.wrap .i64 (t2119 + 1)))))) else (early (some t217)))
def raft_Raft_counting_L2 (a0 : Raft_Raft) (y : Int) : ((List Int) × Int) → Option (Ctl (List Int) ((List Int) × Int))
 | (t382, t784) => (if (decide (t784 ≤ y)) then ((rlog_tail_Term a0.core.log.tail t784).bind fun y97 => ((app 8 t382 ([y97] : (List Int))).bind fun m99 => (some (.go (m99, (IntKind.wrap .i64 (t784 + 1))))))) else (early (some t382)))
def raft_Raft_counting (a0 : Raft_Raft) : Option Raft_Raft :=
 ((rlog_tail_Last a0.core.log.tail).bind fun y => ((raft_core_Conf a0.core).bind fun y1 => ((loopN (raft_Raft_counting_L1 a0 y y1) fuel (([] : (List Int)), 0)).bind fun t2 => ((loopN (raft_Raft_counting_L2 a0 y) fuel (([] : (List Int)), (IntKind.wrap .i64 (a0.core.commit + 1)))).bind fun t3 => ((elect_Commit a0.core.hard.Term a0.core.commit t2 t3).bind fun y111 => (some (Raft_Raft.mk (Raft_core.mk a0.core.id a0.core.group a0.core.log a0.core.hard a0.core.role a0.core.lead y111 a0.core.applied a0.core.silence a0.core.beat a0.core.yes a0.core.next_ a0.core.match_))))))))
def raft_Raft_leading_L1 (a0 : Raft_Raft) : (Int × A7_int × A7_int) → Option (Ctl (A7_int × A7_int) (Int × A7_int × A7_int))
 | (t2236, mpa0_core_next37, mpa0_core_match38) => (if (decide (t2236 < 7)) then ((rlog_tail_Last a0.core.log.tail).bind fun y => ((idx [mpa0_core_next37.f0, mpa0_core_next37.f1, mpa0_core_next37.f2, mpa0_core_next37.f3, mpa0_core_next37.f4, mpa0_core_next37.f5, mpa0_core_next37.f6] t2236).bind fun x => ((idx [mpa0_core_match38.f0, mpa0_core_match38.f1, mpa0_core_match38.f2, mpa0_core_match38.f3, mpa0_core_match38.f4, mpa0_core_match38.f5, mpa0_core_match38.f6] t2236).bind fun x51 => (some (.go ((IntKind.wrap .i64 (t2236 + 1)), (A7_int.mk ((mpa0_core_next37.put t2236 (IntKind.wrap .i64 (y + 1))).f0) ((mpa0_core_next37.put t2236 (IntKind.wrap .i64 (y + 1))).f1) ((mpa0_core_next37.put t2236 (IntKind.wrap .i64 (y + 1))).f2) ((mpa0_core_next37.put t2236 (IntKind.wrap .i64 (y + 1))).f3) ((mpa0_core_next37.put t2236 (IntKind.wrap .i64 (y + 1))).f4) ((mpa0_core_next37.put t2236 (IntKind.wrap .i64 (y + 1))).f5) ((mpa0_core_next37.put t2236 (IntKind.wrap .i64 (y + 1))).f6)), (A7_int.mk ((mpa0_core_match38.put t2236 0).f0) ((mpa0_core_match38.put t2236 0).f1) ((mpa0_core_match38.put t2236 0).f2) ((mpa0_core_match38.put t2236 0).f3) ((mpa0_core_match38.put t2236 0).f4) ((mpa0_core_match38.put t2236 0).f5) ((mpa0_core_match38.put t2236 0).f6)))))))) else (early (some (mpa0_core_next37, mpa0_core_match38))))
def raft_Raft_leading (a0 : Raft_Raft) (a1 : Raft_Out) : Option (Raft_Raft × Raft_Out) :=
 ((loopN (raft_Raft_leading_L1 a0) fuel (0, a0.core.next_, a0.core.match_)).bind fun (mpa0_core_next, mpa0_core_match) => ((rlog_Log_Add a0.core.log a0.core.hard.Term 0 ([] : (List Int))).bind fun (y57, y58) => ((raft_Raft_keep (Raft_Raft.mk (Raft_core.mk a0.core.id a0.core.group y58 a0.core.hard 3 a0.core.id a0.core.commit a0.core.applied a0.core.silence 0 a0.core.yes mpa0_core_next mpa0_core_match)) a1 y57).bind fun y65 => ((raft_Raft_counting (Raft_Raft.mk (Raft_core.mk a0.core.id a0.core.group y58 a0.core.hard 3 a0.core.id a0.core.commit a0.core.applied a0.core.silence 0 a0.core.yes mpa0_core_next mpa0_core_match))).bind fun y72 => ((raft_Raft_words (Raft_Raft.mk (Raft_core.mk y72.core.id y72.core.group y58 y72.core.hard y72.core.role y72.core.lead y72.core.commit y72.core.applied y72.core.silence y72.core.beat y72.core.yes y72.core.next_ y72.core.match_)) y65).bind fun y79 => (some ((Raft_Raft.mk (Raft_core.mk y72.core.id y72.core.group y58 y72.core.hard y72.core.role y72.core.lead y72.core.commit y72.core.applied y72.core.silence y72.core.beat y72.core.yes y72.core.next_ y72.core.match_)), y79)))))))
def raft_Raft_ask_L1 (vr : Raft_Raft) (kind : Int) (term : Int) (y : Int) (y1 : (List Int)) : (Int × Raft_Out) → Option (Ctl Raft_Out (Int × Raft_Out))
 | (t2416, mpo17) => (if (decide (t2416 < (y1.length : Int))) then ((idx y1 t2416).bind fun x => ((rlog_tail_Term vr.core.log.tail y).bind fun y24 => ((raft_Raft_send vr mpo17 x (Api_Msg.mk kind 0 0 0 term y y24 0 false ([] : (List Api_Entry)) (Api_Base.mk 0 0 ([] : (List Int)) ([] : (List Int))) ([] : (List Int)) 0 0 0 0)).bind fun y26 => (some (.go ((IntKind.wrap .i64 (t2416 + 1)), y26)))))) else (early (some mpo17)))
def raft_Raft_ask (vr : Raft_Raft) (o : Raft_Out) (kind : Int) (term : Int) : Option Raft_Out :=
 ((rlog_tail_Last vr.core.log.tail).bind fun y => ((raft_core_others vr.core).bind fun y1 => ((loopN (raft_Raft_ask_L1 vr kind term y y1) fuel (0, o)).bind fun mpo => (some mpo))))
def raft_Raft_standing (vr : Raft_Raft) (o : Raft_Out) : Option (Raft_Raft × Raft_Out) :=
 ((raft_Raft_save (Raft_Raft.mk (Raft_core.mk vr.core.id vr.core.group vr.core.log (Api_Hard.mk (IntKind.wrap .i64 (vr.core.hard.Term + 1)) vr.core.id) vr.core.role vr.core.lead vr.core.commit vr.core.applied vr.core.silence vr.core.beat vr.core.yes vr.core.next_ vr.core.match_)) o).bind fun y => ((raft_core_most (Raft_core.mk vr.core.id vr.core.group vr.core.log (Api_Hard.mk (IntKind.wrap .i64 (vr.core.hard.Term + 1)) vr.core.id) 2 (-1) vr.core.commit vr.core.applied vr.core.silence vr.core.beat ([vr.core.id] : (List Int)) vr.core.next_ vr.core.match_)).bind fun y60 => (if y60 then ((raft_Raft_leading (Raft_Raft.mk (Raft_core.mk vr.core.id vr.core.group vr.core.log (Api_Hard.mk (IntKind.wrap .i64 (vr.core.hard.Term + 1)) vr.core.id) 2 (-1) vr.core.commit vr.core.applied vr.core.silence vr.core.beat ([vr.core.id] : (List Int)) vr.core.next_ vr.core.match_)) y).bind fun (y62, y63) => (some (y62, y63))) else ((raft_Raft_ask (Raft_Raft.mk (Raft_core.mk vr.core.id vr.core.group vr.core.log (Api_Hard.mk (IntKind.wrap .i64 (vr.core.hard.Term + 1)) vr.core.id) 2 (-1) vr.core.commit vr.core.applied vr.core.silence vr.core.beat ([vr.core.id] : (List Int)) vr.core.next_ vr.core.match_)) y 3 (IntKind.wrap .i64 (vr.core.hard.Term + 1))).bind fun y83 => (some ((Raft_Raft.mk (Raft_core.mk vr.core.id vr.core.group vr.core.log (Api_Hard.mk (IntKind.wrap .i64 (vr.core.hard.Term + 1)) vr.core.id) 2 (-1) vr.core.commit vr.core.applied vr.core.silence vr.core.beat ([vr.core.id] : (List Int)) vr.core.next_ vr.core.match_)), y83))))))
def raft_Raft_asking (vr : Raft_Raft) (o : Raft_Out) : Option (Raft_Raft × Raft_Out) :=
 ((raft_core_most (Raft_core.mk vr.core.id vr.core.group vr.core.log vr.core.hard 1 (-1) vr.core.commit vr.core.applied vr.core.silence vr.core.beat ([vr.core.id] : (List Int)) vr.core.next_ vr.core.match_)).bind fun y => (if y then ((raft_Raft_standing (Raft_Raft.mk (Raft_core.mk vr.core.id vr.core.group vr.core.log vr.core.hard 1 (-1) vr.core.commit vr.core.applied vr.core.silence vr.core.beat ([vr.core.id] : (List Int)) vr.core.next_ vr.core.match_)) o).bind fun (y50, y51) => (some (y50, y51))) else ((raft_Raft_ask (Raft_Raft.mk (Raft_core.mk vr.core.id vr.core.group vr.core.log vr.core.hard 1 (-1) vr.core.commit vr.core.applied vr.core.silence vr.core.beat ([vr.core.id] : (List Int)) vr.core.next_ vr.core.match_)) o 1 (IntKind.wrap .i64 (vr.core.hard.Term + 1))).bind fun y71 => (some ((Raft_Raft.mk (Raft_core.mk vr.core.id vr.core.group vr.core.log vr.core.hard 1 (-1) vr.core.commit vr.core.applied vr.core.silence vr.core.beat ([vr.core.id] : (List Int)) vr.core.next_ vr.core.match_)), y71)))))
def raft_Raft_Tick (a0 : Raft_Raft) : Option (Raft_Out × Raft_Raft) :=
 (if (a0.core.role == 3) then ((if ((Int.tmod (IntKind.wrap .i64 (a0.core.beat + 1)) 2) == 0) then ((raft_Raft_words (Raft_Raft.mk (Raft_core.mk a0.core.id a0.core.group a0.core.log a0.core.hard a0.core.role a0.core.lead a0.core.commit a0.core.applied a0.core.silence (IntKind.wrap .i64 (a0.core.beat + 1)) a0.core.yes a0.core.next_ a0.core.match_)) (Raft_Out.mk ([] : (List Api_Msg)) ([] : (List Api_Rec)) false)).bind fun y => (some y)) else (some (Raft_Out.mk ([] : (List Api_Msg)) ([] : (List Api_Rec)) false))).bind fun me5 => (some (me5, (Raft_Raft.mk (Raft_core.mk a0.core.id a0.core.group a0.core.log a0.core.hard a0.core.role a0.core.lead a0.core.commit a0.core.applied a0.core.silence (IntKind.wrap .i64 (a0.core.beat + 1)) a0.core.yes a0.core.next_ a0.core.match_))))) else (((raft_core_Conf (Raft_core.mk a0.core.id a0.core.group a0.core.log a0.core.hard a0.core.role a0.core.lead a0.core.commit a0.core.applied (IntKind.wrap .i64 (a0.core.silence + 1)) a0.core.beat a0.core.yes a0.core.next_ a0.core.match_)).bind fun y94 => ((conf_Has y94 a0.core.id).bind fun y96 => (if y96 then ((elect_Timeout a0.core.id a0.core.hard.Term).bind fun y98 => (some (decide ((IntKind.wrap .i64 (a0.core.silence + 1)) ≥ y98)))) else (some false)))).bind fun t67 => ((if t67 then ((raft_Raft_asking (Raft_Raft.mk (Raft_core.mk a0.core.id a0.core.group a0.core.log a0.core.hard a0.core.role a0.core.lead a0.core.commit a0.core.applied 0 a0.core.beat a0.core.yes a0.core.next_ a0.core.match_)) (Raft_Out.mk ([] : (List Api_Msg)) ([] : (List Api_Rec)) false)).bind fun (y136, y137) => (some (y136.core.id, y136.core.group, y136.core.hard, y136.core.role, y136.core.lead, y136.core.commit, y136.core.applied, y136.core.silence, y136.core.beat, y136.core.yes, y136.core.next_, y136.core.match_, y136.core.log.tail.base, y136.core.log.tail.l, y137))) else (some (a0.core.id, a0.core.group, a0.core.hard, a0.core.role, a0.core.lead, a0.core.commit, a0.core.applied, (IntKind.wrap .i64 (a0.core.silence + 1)), a0.core.beat, a0.core.yes, a0.core.next_, a0.core.match_, a0.core.log.tail.base, a0.core.log.tail.l, (Raft_Out.mk ([] : (List Api_Msg)) ([] : (List Api_Rec)) false)))).bind fun (mpa0_core_id, mpa0_core_group, mpa0_core_hard, mpa0_core_role, mpa0_core_lead, mpa0_core_commit, mpa0_core_applied, mpa0_core_silence, mpa0_core_beat, mpa0_core_yes, mpa0_core_next, mpa0_core_match, mpa01_tail_base, mpa01_tail_l, me5100) => (some (me5100, (Raft_Raft.mk (Raft_core.mk mpa0_core_id mpa0_core_group (Rlog_Log.mk (Rlog_tail.mk mpa01_tail_base mpa01_tail_l)) mpa0_core_hard mpa0_core_role mpa0_core_lead mpa0_core_commit mpa0_core_applied mpa0_core_silence mpa0_core_beat mpa0_core_yes mpa0_core_next mpa0_core_match)))))))
def raft_Raft_changes_L1 (y6 : (List Api_Entry)) : Int → Option (Ctl (Ctl Bool Unit) Int)
 | t6421 => (if (decide (t6421 < (y6.length : Int))) then ((idx y6 t6421).bind fun x => (if (x.Kind == 2) then (early (early (some false))) else (some (.go (IntKind.wrap .i64 (t6421 + 1)))))) else (early (some (.go ()))))
def raft_Raft_changes (a0 : Raft_Raft) (a1 : (List Int)) : Option Bool :=
 (((rlog_tail_Term a0.core.log.tail a0.core.commit).bind fun y => (if (y != a0.core.hard.Term) then (some true) else ((entry_Right (Api_Entry.mk 1 0 2 a1)).bind fun y2 => (some (!y2))))).bind fun t34 => (if t34 then (some false) else ((rlog_tail_Last a0.core.log.tail).bind fun y4 => ((rlog_tail_From a0.core.log.tail (IntKind.wrap .i64 (a0.core.commit + 1)) (IntKind.wrap .i64 (y4 - a0.core.commit))).bind fun y6 => (kont (loopN (raft_Raft_changes_L1 y6) fuel 0) fun () => ((raft_core_Conf a0.core).bind fun y41 => ((idx a1 0).bind fun x43 => ((idx a1 1).bind fun x44 => (if (x44 == 1) then ((conf_Has y41 (IntKind.wrap .i64 x43)).bind fun y46 => (some (!y46))) else (((conf_Has y41 (IntKind.wrap .i64 x43)).bind fun y53 => (if y53 then (if ((IntKind.wrap .i64 x43) != a0.core.id) then (some (decide ((y41.length : Int) > 1))) else (some false)) else (some false))).bind fun t4 => (some t4)))))))))))
def raft_Raft_Propose (vr : Raft_Raft) (kind : Int) (data : (List Int)) : Option (Raft_Out × Int × Bool × Raft_Raft) :=
 ((if (vr.core.role != 3) then (some true) else (if (kind == 2) then ((raft_Raft_changes vr data).bind fun y => (some (!y))) else (some false))).bind fun t26 => (if t26 then (some ((Raft_Out.mk ([] : (List Api_Msg)) ([] : (List Api_Rec)) false), 0, false, vr)) else ((rlog_Log_Add vr.core.log vr.core.hard.Term kind data).bind fun (y41, y42) => ((raft_Raft_keep (Raft_Raft.mk (Raft_core.mk vr.core.id vr.core.group y42 vr.core.hard vr.core.role vr.core.lead vr.core.commit vr.core.applied vr.core.silence vr.core.beat vr.core.yes vr.core.next_ vr.core.match_)) (Raft_Out.mk ([] : (List Api_Msg)) ([] : (List Api_Rec)) false) y41).bind fun y81 => ((raft_Raft_counting (Raft_Raft.mk (Raft_core.mk vr.core.id vr.core.group y42 vr.core.hard vr.core.role vr.core.lead vr.core.commit vr.core.applied vr.core.silence vr.core.beat vr.core.yes vr.core.next_ vr.core.match_))).bind fun y90 => ((raft_Raft_words (Raft_Raft.mk (Raft_core.mk y90.core.id y90.core.group y42 y90.core.hard y90.core.role y90.core.lead y90.core.commit y90.core.applied y90.core.silence y90.core.beat y90.core.yes y90.core.next_ y90.core.match_)) y81).bind fun y99 => (some (y99, y41.Index, true, (Raft_Raft.mk (Raft_core.mk y90.core.id y90.core.group y42 y90.core.hard y90.core.role y90.core.lead y90.core.commit y90.core.applied y90.core.silence y90.core.beat y90.core.yes y90.core.next_ y90.core.match_))))))))))
def raft_Raft_Ready (vr : Raft_Raft) : Option ((List Api_Entry) × Raft_Raft) :=
 ((rlog_tail_From vr.core.log.tail (IntKind.wrap .i64 (vr.core.applied + 1)) (IntKind.wrap .i64 (vr.core.commit - vr.core.applied))).bind fun y => (some (y, (Raft_Raft.mk (Raft_core.mk vr.core.id vr.core.group vr.core.log vr.core.hard vr.core.role vr.core.lead vr.core.commit (maxI vr.core.applied vr.core.commit) vr.core.silence vr.core.beat vr.core.yes vr.core.next_ vr.core.match_)))))
def raft_core_tail (vc : Raft_core) : Option (List Api_Entry) :=
 ((rlog_tail_Base vc.log.tail).bind fun y => ((rlog_tail_Last vc.log.tail).bind fun y1 => ((rlog_tail_From vc.log.tail (IntKind.wrap .i64 (y.Index + 1)) (IntKind.wrap .i64 (y1 - y.Index))).bind fun y3 => (some y3))))
def raft_Raft_Clone (vr : Raft_Raft) : Option Raft_Raft :=
 ((rlog_tail_Base vr.core.log.tail).bind fun y => ((raft_core_tail vr.core).bind fun y9 => ((rlog_New y y9).bind fun y11 => ((slices_Clone_Lint_int vr.core.yes).bind fun y24 => (some (Raft_Raft.mk (Raft_core.mk vr.core.id vr.core.group y11 vr.core.hard vr.core.role vr.core.lead vr.core.commit vr.core.applied vr.core.silence vr.core.beat y24 vr.core.next_ vr.core.match_)))))))
def slices_Clone_Lapi_Entry_api_Entry (vs : (List Api_Entry)) : Option (List Api_Entry) :=
 ((app 48 ([] : (List Api_Entry)) vs).bind fun m => (some m))
def rlog_Log_Compact (vg : Rlog_Log) (i : Int) (data : (List Int)) : Option (Bool × Rlog_Log) :=
 ((if (decide (i ≤ vg.tail.base.Index)) then (some true) else ((rlog_tail_Last vg.tail).bind fun y => (some (decide (i > y))))).bind fun t23 => (if t23 then (some (false, vg)) else ((rlog_tail_Term vg.tail i).bind fun y1 => ((rlog_tail_Conf vg.tail i).bind fun y3 => ((slices_Clone_Lbyte_byte data).bind fun y5 => ((slc vg.tail.l (IntKind.wrap .i64 (i - vg.tail.base.Index)) (vg.tail.l.length : Int)).bind fun m => ((slices_Clone_Lapi_Entry_api_Entry m).bind fun y34 => (some (true, (Rlog_Log.mk (Rlog_tail.mk (Api_Base.mk i y1 y3 y5) y34)))))))))))
def raft_Raft_Compact (vr : Raft_Raft) (data : (List Int)) : Option (Raft_Out × Raft_Raft) :=
 ((rlog_Log_Compact vr.core.log vr.core.applied data).bind fun (y, y15) => ((if y then ((rlog_tail_Base y15.tail).bind fun y28 => ((app 144 ([] : (List Api_Rec)) ([(Api_Rec.mk vr.core.group 3 (Api_Hard.mk 0 0) (Api_Entry.mk 0 0 0 ([] : (List Int))) y28)] : (List Api_Rec))).bind fun m => (some m))) else (some ([] : (List Api_Rec)))).bind fun me5_Recs => (some ((Raft_Out.mk ([] : (List Api_Msg)) me5_Recs false), (Raft_Raft.mk (Raft_core.mk vr.core.id vr.core.group y15 vr.core.hard vr.core.role vr.core.lead vr.core.commit vr.core.applied vr.core.silence vr.core.beat vr.core.yes vr.core.next_ vr.core.match_))))))
def raft_core_Role (vc : Raft_core) : Option Int :=
 (some vc.role)
def raft_core_Term (vc : Raft_core) : Option Int :=
 (some vc.hard.Term)
def raft_core_Lead (vc : Raft_core) : Option Int :=
 (some vc.lead)
def raft_core_Commit (vc : Raft_core) : Option Int :=
 (some vc.commit)
def raft_core_Image (vc : Raft_core) : Option Api_Image :=
 ((rlog_tail_Base vc.log.tail).bind fun y => ((raft_core_tail vc).bind fun y4 => (some (Api_Image.mk vc.hard y y4))))
def mementolaw12_known_L1 : (Int × Int × Int × Api_Hard × Int × Int × Int × Int × Int × Int × (List Int) × A7_int × A7_int × Api_Base × (List Api_Entry)) → Option (Ctl (Int × Int × Api_Hard × Int × Int × Int × Int × Int × Int × (List Int) × A7_int × A7_int × Api_Base × (List Api_Entry)) (Int × Int × Int × Api_Hard × Int × Int × Int × Int × Int × Int × (List Int) × A7_int × A7_int × Api_Base × (List Api_Entry)))
 | (t236, me_core_id37, me_core_group38, me_core_hard39, me_core_role40, me_core_lead41, me_core_commit42, me_core_applied43, me_core_silence44, me_core_beat45, me_core_yes46, me_core_next47, me_core_match48, me1_tail_base49, me1_tail_l50) => (if (decide (t236 < 10)) then ((raft_Raft_Tick (Raft_Raft.mk (Raft_core.mk me_core_id37 me_core_group38 (Rlog_Log.mk (Rlog_tail.mk me1_tail_base49 me1_tail_l50)) me_core_hard39 me_core_role40 me_core_lead41 me_core_commit42 me_core_applied43 me_core_silence44 me_core_beat45 me_core_yes46 me_core_next47 me_core_match48))).bind fun (y57, y58) => (some (.go ((IntKind.wrap .i64 (t236 + 1)), y58.core.id, y58.core.group, y58.core.hard, y58.core.role, y58.core.lead, y58.core.commit, y58.core.applied, y58.core.silence, y58.core.beat, y58.core.yes, y58.core.next_, y58.core.match_, y58.core.log.tail.base, y58.core.log.tail.l)))) else (early (some (me_core_id37, me_core_group38, me_core_hard39, me_core_role40, me_core_lead41, me_core_commit42, me_core_applied43, me_core_silence44, me_core_beat45, me_core_yes46, me_core_next47, me_core_match48, me1_tail_base49, me1_tail_l50))))
def mementolaw12_known : Option Bool :=
 ((raft_New 0 1 (Api_Image.mk (Api_Hard.mk 0 (-1)) (Api_Base.mk 0 0 ([0] : (List Int)) ([] : (List Int))) ([] : (List Api_Entry)))).bind fun y => ((loopN (mementolaw12_known_L1) fuel (0, y.core.id, y.core.group, y.core.hard, y.core.role, y.core.lead, y.core.commit, y.core.applied, y.core.silence, y.core.beat, y.core.yes, y.core.next_, y.core.match_, y.core.log.tail.base, y.core.log.tail.l)).bind fun (me_core_id, me_core_group, me_core_hard, me_core_role, me_core_lead, me_core_commit, me_core_applied, me_core_silence, me_core_beat, me_core_yes, me_core_next, me_core_match, me1_tail_base, me1_tail_l) => ((raft_Raft_Propose (Raft_Raft.mk (Raft_core.mk me_core_id me_core_group (Rlog_Log.mk (Rlog_tail.mk me1_tail_base me1_tail_l)) me_core_hard me_core_role me_core_lead me_core_commit me_core_applied me_core_silence me_core_beat me_core_yes me_core_next me_core_match)) 1 ([97] : (List Int))).bind fun (y81, y82, y83, y84) => ((raft_Raft_Ready y84).bind fun (y108, y109) => ((raft_Raft_Clone (Raft_Raft.mk (Raft_core.mk y109.core.id y109.core.group y84.core.log y109.core.hard y109.core.role y109.core.lead y109.core.commit y109.core.applied y109.core.silence y109.core.beat y109.core.yes y109.core.next_ y109.core.match_))).bind fun y116 => ((raft_Raft_Compact y116 ([115] : (List Int))).bind fun (y172, y173) => (((raft_core_Role (Raft_core.mk y109.core.id y109.core.group y84.core.log y109.core.hard y109.core.role y109.core.lead y109.core.commit y109.core.applied y109.core.silence y109.core.beat y109.core.yes y109.core.next_ y109.core.match_)).bind fun y190 => (if (y190 == 3) then ((raft_core_Term (Raft_core.mk y109.core.id y109.core.group y84.core.log y109.core.hard y109.core.role y109.core.lead y109.core.commit y109.core.applied y109.core.silence y109.core.beat y109.core.yes y109.core.next_ y109.core.match_)).bind fun y192 => (if (y192 == 1) then ((raft_core_Lead (Raft_core.mk y109.core.id y109.core.group y84.core.log y109.core.hard y109.core.role y109.core.lead y109.core.commit y109.core.applied y109.core.silence y109.core.beat y109.core.yes y109.core.next_ y109.core.match_)).bind fun y195 => (if (y195 == 0) then (if y83 then (if (y82 == 2) then (if ((y81.Recs.length : Int) == 1) then (if ((y108.length : Int) == 2) then ((raft_core_Commit (Raft_core.mk y109.core.id y109.core.group y84.core.log y109.core.hard y109.core.role y109.core.lead y109.core.commit y109.core.applied y109.core.silence y109.core.beat y109.core.yes y109.core.next_ y109.core.match_)).bind fun y202 => (if (y202 == 2) then ((raft_core_Image (Raft_core.mk y116.core.id y116.core.group y173.core.log y116.core.hard y116.core.role y116.core.lead y116.core.commit y116.core.applied y116.core.silence y116.core.beat y116.core.yes y116.core.next_ y116.core.match_)).bind fun y205 => (if (y205.Base.Index == 2) then ((raft_core_Image (Raft_core.mk y109.core.id y109.core.group y84.core.log y109.core.hard y109.core.role y109.core.lead y109.core.commit y109.core.applied y109.core.silence y109.core.beat y109.core.yes y109.core.next_ y109.core.match_)).bind fun y208 => (if (y208.Base.Index == 0) then ((raft_core_Conf (Raft_core.mk y109.core.id y109.core.group y84.core.log y109.core.hard y109.core.role y109.core.lead y109.core.commit y109.core.applied y109.core.silence y109.core.beat y109.core.yes y109.core.next_ y109.core.match_)).bind fun y211 => (some ((y211.length : Int) == 1))) else (some false))) else (some false))) else (some false))) else (some false)) else (some false)) else (some false)) else (some false)) else (some false))) else (some false))) else (some false))).bind fun t0 => (some t0))))))))
def elect_Newer (term : Int) (index : Int) (lastTerm : Int) (lastIndex : Int) : Option Bool :=
 ((if (decide (term > lastTerm)) then (some true) else (if (term == lastTerm) then (some (decide (index ≥ lastIndex))) else (some false))).bind fun t8 => (some t8))
def raft_Raft_preVote (a0 : Raft_Raft) (a1 : Raft_Out) (a2 : Api_Msg) : Option Raft_Out :=
 ((rlog_tail_Last a0.core.log.tail).bind fun y => ((if (decide (a2.Term > a0.core.hard.Term)) then ((rlog_tail_Term a0.core.log.tail y).bind fun y12 => ((elect_Newer a2.LogTerm a2.Index y12 y).bind fun y14 => (if y14 then (if (a0.core.role != 3) then (if (decide (a0.core.lead < 0)) then (some true) else (some (decide (a0.core.silence ≥ 10)))) else (some false)) else (some false)))) else (some false)).bind fun t7 => ((if t7 then (some a2.Term) else (some a0.core.hard.Term)).bind fun me20_Term => ((raft_Raft_send a0 a1 a2.From (Api_Msg.mk 2 0 0 0 me20_Term 0 0 0 t7 ([] : (List Api_Entry)) (Api_Base.mk 0 0 ([] : (List Int)) ([] : (List Int))) ([] : (List Int)) 0 0 0 0)).bind fun y54 => (some y54)))))
def raft_Raft_down (vr : Raft_Raft) (o : Raft_Out) (term : Int) : Option (Raft_Raft × Raft_Out) :=
 ((raft_Raft_save (Raft_Raft.mk (Raft_core.mk vr.core.id vr.core.group vr.core.log (Api_Hard.mk term (-1)) 0 (-1) vr.core.commit vr.core.applied vr.core.silence vr.core.beat vr.core.yes vr.core.next_ vr.core.match_)) o).bind fun y => (some ((Raft_Raft.mk (Raft_core.mk vr.core.id vr.core.group vr.core.log (Api_Hard.mk term (-1)) 0 (-1) vr.core.commit vr.core.applied vr.core.silence vr.core.beat vr.core.yes vr.core.next_ vr.core.match_)), y)))
def raft_Raft_preOk (a0 : Raft_Raft) (a1 : Raft_Out) (a2 : Api_Msg) : Option (Raft_Raft × Raft_Out) :=
 ((if a2.Ok then (if (a0.core.role == 1) then (some (a2.Term == (IntKind.wrap .i64 (a0.core.hard.Term + 1)))) else (some false)) else (some false)).bind fun t6 => (if t6 then ((app 8 a0.core.yes ([a2.From] : (List Int))).bind fun m => ((raft_core_most (Raft_core.mk a0.core.id a0.core.group a0.core.log a0.core.hard a0.core.role a0.core.lead a0.core.commit a0.core.applied a0.core.silence a0.core.beat m a0.core.next_ a0.core.match_)).bind fun y => (if y then ((raft_Raft_standing (Raft_Raft.mk (Raft_core.mk a0.core.id a0.core.group a0.core.log a0.core.hard a0.core.role a0.core.lead a0.core.commit a0.core.applied a0.core.silence a0.core.beat m a0.core.next_ a0.core.match_)) a1).bind fun (y83, y84) => (some (y83, y84))) else (some ((Raft_Raft.mk (Raft_core.mk a0.core.id a0.core.group a0.core.log a0.core.hard a0.core.role a0.core.lead a0.core.commit a0.core.applied a0.core.silence a0.core.beat m a0.core.next_ a0.core.match_)), a1))))) else ((if (!a2.Ok) then (some (decide (a2.Term > a0.core.hard.Term))) else (some false)).bind fun t49 => (if t49 then ((raft_Raft_down a0 a1 a2.Term).bind fun (y113, y114) => (some ((Raft_Raft.mk (Raft_core.mk y113.core.id y113.core.group a0.core.log y113.core.hard y113.core.role y113.core.lead y113.core.commit y113.core.applied y113.core.silence y113.core.beat y113.core.yes y113.core.next_ y113.core.match_)), y114))) else (some (a0, a1))))))
def raft_Raft_vote (a0 : Raft_Raft) (a1 : Raft_Out) (a2 : Api_Msg) : Option (Raft_Raft × Raft_Out) :=
 ((rlog_tail_Last a0.core.log.tail).bind fun y => ((if (decide (a0.core.hard.Vote < 0)) then ((rlog_tail_Term a0.core.log.tail y).bind fun y12 => ((elect_Newer a2.LogTerm a2.Index y12 y).bind fun y14 => (some y14))) else (if (a0.core.hard.Vote == a2.From) then ((rlog_tail_Term a0.core.log.tail y).bind fun y17 => ((elect_Newer a2.LogTerm a2.Index y17 y).bind fun y19 => (some y19))) else (some false))).bind fun t7 => ((if t7 then (if (a0.core.hard.Vote != a2.From) then ((raft_Raft_save (Raft_Raft.mk (Raft_core.mk a0.core.id a0.core.group a0.core.log (Api_Hard.mk a0.core.hard.Term a2.From) a0.core.role a0.core.lead a0.core.commit a0.core.applied 0 a0.core.beat a0.core.yes a0.core.next_ a0.core.match_)) a1).bind fun y41 => (some (a2.From, 0, y41))) else (some (a0.core.hard.Vote, 0, a1))) else (some (a0.core.hard.Vote, a0.core.silence, a1))).bind fun (mpa0_core_hard_Vote, mpa0_core_silence, mpa1) => ((raft_Raft_send (Raft_Raft.mk (Raft_core.mk a0.core.id a0.core.group a0.core.log (Api_Hard.mk a0.core.hard.Term mpa0_core_hard_Vote) a0.core.role a0.core.lead a0.core.commit a0.core.applied mpa0_core_silence a0.core.beat a0.core.yes a0.core.next_ a0.core.match_)) mpa1 a2.From (Api_Msg.mk 4 0 0 0 a0.core.hard.Term 0 0 0 t7 ([] : (List Api_Entry)) (Api_Base.mk 0 0 ([] : (List Int)) ([] : (List Int))) ([] : (List Int)) 0 0 0 0)).bind fun y49 => (some ((Raft_Raft.mk (Raft_core.mk a0.core.id a0.core.group a0.core.log (Api_Hard.mk a0.core.hard.Term mpa0_core_hard_Vote) a0.core.role a0.core.lead a0.core.commit a0.core.applied mpa0_core_silence a0.core.beat a0.core.yes a0.core.next_ a0.core.match_)), y49))))))
def raft_Raft_voteOk (vr : Raft_Raft) (o : Raft_Out) (m : Api_Msg) : Option (Raft_Raft × Raft_Out) :=
 ((if (!m.Ok) then (some true) else (some (vr.core.role != 2))).bind fun t16 => (if t16 then (some (vr, o)) else ((app 8 vr.core.yes ([m.From] : (List Int))).bind fun m39 => ((raft_core_most (Raft_core.mk vr.core.id vr.core.group vr.core.log vr.core.hard vr.core.role vr.core.lead vr.core.commit vr.core.applied vr.core.silence vr.core.beat m39 vr.core.next_ vr.core.match_)).bind fun y => (if y then ((raft_Raft_leading (Raft_Raft.mk (Raft_core.mk vr.core.id vr.core.group vr.core.log vr.core.hard vr.core.role vr.core.lead vr.core.commit vr.core.applied vr.core.silence vr.core.beat m39 vr.core.next_ vr.core.match_)) o).bind fun (y83, y84) => (some (y83, y84))) else (some ((Raft_Raft.mk (Raft_core.mk vr.core.id vr.core.group vr.core.log vr.core.hard vr.core.role vr.core.lead vr.core.commit vr.core.applied vr.core.silence vr.core.beat m39 vr.core.next_ vr.core.match_)), o)))))))
def raft_Raft_follow (vr : Raft_Raft) (m : Api_Msg) : Option Raft_Raft :=
 (some (Raft_Raft.mk (Raft_core.mk vr.core.id vr.core.group vr.core.log vr.core.hard 0 m.From vr.core.commit vr.core.applied 0 vr.core.beat vr.core.yes vr.core.next_ vr.core.match_)))
def rlog_Log_Follow_L1 (a0 : Rlog_Log) : (Int × (List Api_Entry)) → Option (Ctl (List Api_Entry) (Int × (List Api_Entry)))
 | (t114, t315) => ((if (decide ((t315.length : Int) > 0)) then (some (decide (t114 < a0.tail.base.Index))) else (some false)).bind fun t32 => (if t32 then ((slc t315 1 (t315.length : Int)).bind fun m => (some (.go ((IntKind.wrap .i64 (t114 + 1)), m)))) else (early (some t315))))
def rlog_Log_Follow_L2 (a0 : Rlog_Log) : (Int × (List Api_Entry)) → Option (Ctl (Int × (List Api_Entry)) (Int × (List Api_Entry)))
 | (t142, t343) => ((if (decide ((t343.length : Int) > 0)) then ((rlog_tail_Term a0.tail (IntKind.wrap .i64 (t142 + 1))).bind fun y54 => ((idx t343 0).bind fun x => (some (y54 == x.Term)))) else (some false)).bind fun t69 => (if t69 then ((slc t343 1 (t343.length : Int)).bind fun m57 => (some (.go ((IntKind.wrap .i64 (t142 + 1)), m57)))) else (early (some (t142, t343)))))
def rlog_Log_Follow (a0 : Rlog_Log) (a1 : Int) (a2 : Int) (a3 : (List Api_Entry)) : Option ((List Api_Entry) × Int × Bool × Rlog_Log) :=
 (kont (if (decide (a1 < a0.tail.base.Index)) then ((loopN (rlog_Log_Follow_L1 a0) fuel (a1, a3)).bind fun t31 => (some (.go (a0.tail.base.Index, t31)))) else ((rlog_tail_Term a0.tail a1).bind fun y => (if (y != a2) then (early (some (([] : (List Api_Entry)), 0, false, a0))) else (some (.go (a1, a3)))))) fun (t1, t3) => ((loopN (rlog_Log_Follow_L2 a0) fuel (t1, t3)).bind fun (t127, t328) => (if ((t328.length : Int) == 0) then (some (([] : (List Api_Entry)), (IntKind.wrap .i64 (t1 + (t3.length : Int))), true, a0)) else ((slc a0.tail.l 0 (IntKind.wrap .i64 (t127 - a0.tail.base.Index))).bind fun m71 => ((rlog_all t328).bind fun y72 => ((app 48 m71 y72).bind fun m74 => (some (y72, (IntKind.wrap .i64 (t1 + (t3.length : Int))), true, (Rlog_Log.mk (Rlog_tail.mk a0.tail.base m74))))))))))
def raft_Raft_ok (vr : Raft_Raft) (o : Raft_Out) (m : Api_Msg) (ok : Bool) (i : Int) : Option Raft_Out :=
 ((raft_Raft_send vr o m.From (Api_Msg.mk 6 0 0 0 vr.core.hard.Term i 0 0 ok ([] : (List Api_Entry)) (Api_Base.mk 0 0 ([] : (List Int)) ([] : (List Int))) ([] : (List Int)) 0 0 0 0)).bind fun y => (some y))
def raft_Raft_append_L1 (y : Raft_Raft) (y12 : (List Api_Entry)) (y15 : Rlog_Log) : (Int × Raft_Out) → Option (Ctl Raft_Out (Int × Raft_Out))
 | (t5052, mpa153) => (if (decide (t5052 < (y12.length : Int))) then ((idx y12 t5052).bind fun x => ((raft_Raft_keep (Raft_Raft.mk (Raft_core.mk y.core.id y.core.group y15 y.core.hard y.core.role y.core.lead y.core.commit y.core.applied y.core.silence y.core.beat y.core.yes y.core.next_ y.core.match_)) mpa153 x).bind fun y82 => (some (.go ((IntKind.wrap .i64 (t5052 + 1)), y82))))) else (early (some mpa153)))
def raft_Raft_append (a0 : Raft_Raft) (a1 : Raft_Out) (a2 : Api_Msg) : Option (Raft_Raft × Raft_Out) :=
 ((raft_Raft_follow a0 a2).bind fun y => ((rlog_Log_Follow a0.core.log a2.Index a2.LogTerm a2.Entries).bind fun (y12, y13, y14, y15) => (if (!y14) then ((rlog_tail_Last y15.tail).bind fun y23 => ((raft_Raft_ok (Raft_Raft.mk (Raft_core.mk y.core.id y.core.group y15 y.core.hard y.core.role y.core.lead y.core.commit y.core.applied y.core.silence y.core.beat y.core.yes y.core.next_ y.core.match_)) a1 a2 false (minI y23 (IntKind.wrap .i64 (a2.Index - 1)))).bind fun y25 => (some ((Raft_Raft.mk (Raft_core.mk y.core.id y.core.group y15 y.core.hard y.core.role y.core.lead y.core.commit y.core.applied y.core.silence y.core.beat y.core.yes y.core.next_ y.core.match_)), y25)))) else ((loopN (raft_Raft_append_L1 y y12 y15) fuel (0, a1)).bind fun mpa1 => ((raft_Raft_ok (Raft_Raft.mk (Raft_core.mk y.core.id y.core.group y15 y.core.hard y.core.role y.core.lead (maxI y.core.commit (minI a2.Commit y13)) y.core.applied y.core.silence y.core.beat y.core.yes y.core.next_ y.core.match_)) mpa1 a2 true y13).bind fun y97 => (some ((Raft_Raft.mk (Raft_core.mk y.core.id y.core.group y15 y.core.hard y.core.role y.core.lead (maxI y.core.commit (minI a2.Commit y13)) y.core.applied y.core.silence y.core.beat y.core.yes y.core.next_ y.core.match_)), y97)))))))
def rlog_Log_Reset (vg : Rlog_Log) (b : Api_Base) : Option Rlog_Log :=
 ((rlog_under b).bind fun y => (some (Rlog_Log.mk (Rlog_tail.mk y ([] : (List Api_Entry))))))
def raft_Raft_install (a0 : Raft_Raft) (a1 : Raft_Out) (a2 : Api_Msg) : Option (Raft_Raft × Raft_Out) :=
 ((raft_Raft_follow a0 a2).bind fun y => (kont (if (decide (a2.Base.Index ≤ y.core.commit)) then ((raft_Raft_ok (Raft_Raft.mk (Raft_core.mk y.core.id y.core.group a0.core.log y.core.hard y.core.role y.core.lead y.core.commit y.core.applied y.core.silence y.core.beat y.core.yes y.core.next_ y.core.match_)) a1 a2 true y.core.commit).bind fun y39 => (early (some ((Raft_Raft.mk (Raft_core.mk y.core.id y.core.group a0.core.log y.core.hard y.core.role y.core.lead y.core.commit y.core.applied y.core.silence y.core.beat y.core.yes y.core.next_ y.core.match_)), y39)))) else ((rlog_tail_Term a0.core.log.tail a2.Base.Index).bind fun y48 => (if (y48 == a2.Base.Term) then (some (.go (y.core.applied, a0.core.log.tail.base, a0.core.log.tail.l, a1.Recs, a1.Restore))) else ((rlog_Log_Reset a0.core.log a2.Base).bind fun y58 => ((rlog_tail_Base y58.tail).bind fun y125 => ((app 144 a1.Recs ([(Api_Rec.mk y.core.group 3 (Api_Hard.mk 0 0) (Api_Entry.mk 0 0 0 ([] : (List Int))) y125)] : (List Api_Rec))).bind fun m => (some (.go (a2.Base.Index, y58.tail.base, y58.tail.l, m, true))))))))) fun (mpa0_core_applied, mpa01_tail_base, mpa01_tail_l, mpa1_Recs, mpa1_Restore) => ((raft_Raft_ok (Raft_Raft.mk (Raft_core.mk y.core.id y.core.group (Rlog_Log.mk (Rlog_tail.mk mpa01_tail_base mpa01_tail_l)) y.core.hard y.core.role y.core.lead a2.Base.Index mpa0_core_applied y.core.silence y.core.beat y.core.yes y.core.next_ y.core.match_)) (Raft_Out.mk a1.Msgs mpa1_Recs mpa1_Restore) a2 true a2.Base.Index).bind fun y224 => (some ((Raft_Raft.mk (Raft_core.mk y.core.id y.core.group (Rlog_Log.mk (Rlog_tail.mk mpa01_tail_base mpa01_tail_l)) y.core.hard y.core.role y.core.lead a2.Base.Index mpa0_core_applied y.core.silence y.core.beat y.core.yes y.core.next_ y.core.match_)), y224)))))
def raft_Raft_appendOk (a0 : Raft_Raft) (a1 : Raft_Out) (a2 : Api_Msg) : Option (Raft_Raft × Raft_Out) :=
 ((if (a0.core.role != 3) then (some true) else ((raft_core_others a0.core).bind fun y => ((conf_Has y a2.From).bind fun y12 => (some (!y12))))).bind fun t24 => (if t24 then (some (a0, a1)) else (if (!a2.Ok) then ((idx [a0.core.next_.f0, a0.core.next_.f1, a0.core.next_.f2, a0.core.next_.f3, a0.core.next_.f4, a0.core.next_.f5, a0.core.next_.f6] a2.From).bind fun x => ((raft_Raft_word (Raft_Raft.mk (Raft_core.mk a0.core.id a0.core.group a0.core.log a0.core.hard a0.core.role a0.core.lead a0.core.commit a0.core.applied a0.core.silence a0.core.beat a0.core.yes (A7_int.mk ((a0.core.next_.put a2.From (maxI (minI (IntKind.wrap .i64 (x - 1)) (IntKind.wrap .i64 (a2.Index + 1))) 1)).f0) ((a0.core.next_.put a2.From (maxI (minI (IntKind.wrap .i64 (x - 1)) (IntKind.wrap .i64 (a2.Index + 1))) 1)).f1) ((a0.core.next_.put a2.From (maxI (minI (IntKind.wrap .i64 (x - 1)) (IntKind.wrap .i64 (a2.Index + 1))) 1)).f2) ((a0.core.next_.put a2.From (maxI (minI (IntKind.wrap .i64 (x - 1)) (IntKind.wrap .i64 (a2.Index + 1))) 1)).f3) ((a0.core.next_.put a2.From (maxI (minI (IntKind.wrap .i64 (x - 1)) (IntKind.wrap .i64 (a2.Index + 1))) 1)).f4) ((a0.core.next_.put a2.From (maxI (minI (IntKind.wrap .i64 (x - 1)) (IntKind.wrap .i64 (a2.Index + 1))) 1)).f5) ((a0.core.next_.put a2.From (maxI (minI (IntKind.wrap .i64 (x - 1)) (IntKind.wrap .i64 (a2.Index + 1))) 1)).f6)) a0.core.match_)) a1 a2.From).bind fun y21 => (some ((Raft_Raft.mk (Raft_core.mk a0.core.id a0.core.group a0.core.log a0.core.hard a0.core.role a0.core.lead a0.core.commit a0.core.applied a0.core.silence a0.core.beat a0.core.yes (A7_int.mk ((a0.core.next_.put a2.From (maxI (minI (IntKind.wrap .i64 (x - 1)) (IntKind.wrap .i64 (a2.Index + 1))) 1)).f0) ((a0.core.next_.put a2.From (maxI (minI (IntKind.wrap .i64 (x - 1)) (IntKind.wrap .i64 (a2.Index + 1))) 1)).f1) ((a0.core.next_.put a2.From (maxI (minI (IntKind.wrap .i64 (x - 1)) (IntKind.wrap .i64 (a2.Index + 1))) 1)).f2) ((a0.core.next_.put a2.From (maxI (minI (IntKind.wrap .i64 (x - 1)) (IntKind.wrap .i64 (a2.Index + 1))) 1)).f3) ((a0.core.next_.put a2.From (maxI (minI (IntKind.wrap .i64 (x - 1)) (IntKind.wrap .i64 (a2.Index + 1))) 1)).f4) ((a0.core.next_.put a2.From (maxI (minI (IntKind.wrap .i64 (x - 1)) (IntKind.wrap .i64 (a2.Index + 1))) 1)).f5) ((a0.core.next_.put a2.From (maxI (minI (IntKind.wrap .i64 (x - 1)) (IntKind.wrap .i64 (a2.Index + 1))) 1)).f6)) a0.core.match_)), y21)))) else ((idx [a0.core.match_.f0, a0.core.match_.f1, a0.core.match_.f2, a0.core.match_.f3, a0.core.match_.f4, a0.core.match_.f5, a0.core.match_.f6] a2.From).bind fun x29 => ((idx [((a0.core.match_.put a2.From (maxI x29 a2.Index)).f0), ((a0.core.match_.put a2.From (maxI x29 a2.Index)).f1), ((a0.core.match_.put a2.From (maxI x29 a2.Index)).f2), ((a0.core.match_.put a2.From (maxI x29 a2.Index)).f3), ((a0.core.match_.put a2.From (maxI x29 a2.Index)).f4), ((a0.core.match_.put a2.From (maxI x29 a2.Index)).f5), ((a0.core.match_.put a2.From (maxI x29 a2.Index)).f6)] a2.From).bind fun x36 => ((idx [a0.core.next_.f0, a0.core.next_.f1, a0.core.next_.f2, a0.core.next_.f3, a0.core.next_.f4, a0.core.next_.f5, a0.core.next_.f6] a2.From).bind fun x37 => (if (decide (x36 > x29)) then ((raft_Raft_counting (Raft_Raft.mk (Raft_core.mk a0.core.id a0.core.group a0.core.log a0.core.hard a0.core.role a0.core.lead a0.core.commit a0.core.applied a0.core.silence a0.core.beat a0.core.yes (A7_int.mk ((a0.core.next_.put a2.From (IntKind.wrap .i64 (x36 + 1))).f0) ((a0.core.next_.put a2.From (IntKind.wrap .i64 (x36 + 1))).f1) ((a0.core.next_.put a2.From (IntKind.wrap .i64 (x36 + 1))).f2) ((a0.core.next_.put a2.From (IntKind.wrap .i64 (x36 + 1))).f3) ((a0.core.next_.put a2.From (IntKind.wrap .i64 (x36 + 1))).f4) ((a0.core.next_.put a2.From (IntKind.wrap .i64 (x36 + 1))).f5) ((a0.core.next_.put a2.From (IntKind.wrap .i64 (x36 + 1))).f6)) (A7_int.mk ((a0.core.match_.put a2.From (maxI x29 a2.Index)).f0) ((a0.core.match_.put a2.From (maxI x29 a2.Index)).f1) ((a0.core.match_.put a2.From (maxI x29 a2.Index)).f2) ((a0.core.match_.put a2.From (maxI x29 a2.Index)).f3) ((a0.core.match_.put a2.From (maxI x29 a2.Index)).f4) ((a0.core.match_.put a2.From (maxI x29 a2.Index)).f5) ((a0.core.match_.put a2.From (maxI x29 a2.Index)).f6))))).bind fun y45 => ((idx [y45.core.next_.f0, y45.core.next_.f1, y45.core.next_.f2, y45.core.next_.f3, y45.core.next_.f4, y45.core.next_.f5, y45.core.next_.f6] a2.From).bind fun x53 => ((rlog_tail_Last a0.core.log.tail).bind fun y54 => (if (decide (x53 ≤ y54)) then ((raft_Raft_word (Raft_Raft.mk (Raft_core.mk y45.core.id y45.core.group a0.core.log y45.core.hard y45.core.role y45.core.lead y45.core.commit y45.core.applied y45.core.silence y45.core.beat y45.core.yes y45.core.next_ y45.core.match_)) a1 a2.From).bind fun y57 => (some ((Raft_Raft.mk (Raft_core.mk y45.core.id y45.core.group a0.core.log y45.core.hard y45.core.role y45.core.lead y45.core.commit y45.core.applied y45.core.silence y45.core.beat y45.core.yes y45.core.next_ y45.core.match_)), y57))) else (some ((Raft_Raft.mk (Raft_core.mk y45.core.id y45.core.group a0.core.log y45.core.hard y45.core.role y45.core.lead y45.core.commit y45.core.applied y45.core.silence y45.core.beat y45.core.yes y45.core.next_ y45.core.match_)), a1)))))) else (some ((Raft_Raft.mk (Raft_core.mk a0.core.id a0.core.group a0.core.log a0.core.hard a0.core.role a0.core.lead a0.core.commit a0.core.applied a0.core.silence a0.core.beat a0.core.yes (A7_int.mk ((a0.core.next_.put a2.From (IntKind.wrap .i64 (x36 + 1))).f0) ((a0.core.next_.put a2.From (IntKind.wrap .i64 (x36 + 1))).f1) ((a0.core.next_.put a2.From (IntKind.wrap .i64 (x36 + 1))).f2) ((a0.core.next_.put a2.From (IntKind.wrap .i64 (x36 + 1))).f3) ((a0.core.next_.put a2.From (IntKind.wrap .i64 (x36 + 1))).f4) ((a0.core.next_.put a2.From (IntKind.wrap .i64 (x36 + 1))).f5) ((a0.core.next_.put a2.From (IntKind.wrap .i64 (x36 + 1))).f6)) (A7_int.mk ((a0.core.match_.put a2.From (maxI x29 a2.Index)).f0) ((a0.core.match_.put a2.From (maxI x29 a2.Index)).f1) ((a0.core.match_.put a2.From (maxI x29 a2.Index)).f2) ((a0.core.match_.put a2.From (maxI x29 a2.Index)).f3) ((a0.core.match_.put a2.From (maxI x29 a2.Index)).f4) ((a0.core.match_.put a2.From (maxI x29 a2.Index)).f5) ((a0.core.match_.put a2.From (maxI x29 a2.Index)).f6)))), a1)))))))))
def raft_Raft_noVote (vr : Raft_Raft) (o : Raft_Out) (m : Api_Msg) : Option Raft_Out :=
 ((raft_Raft_send vr o m.From (Api_Msg.mk 4 0 0 0 vr.core.hard.Term 0 0 0 false ([] : (List Api_Entry)) (Api_Base.mk 0 0 ([] : (List Int)) ([] : (List Int))) ([] : (List Int)) 0 0 0 0)).bind fun y => (some y))
def raft_Raft_noAppend (vr : Raft_Raft) (o : Raft_Out) (m : Api_Msg) : Option Raft_Out :=
 ((raft_Raft_send vr o m.From (Api_Msg.mk 6 0 0 0 vr.core.hard.Term 0 0 0 false ([] : (List Api_Entry)) (Api_Base.mk 0 0 ([] : (List Int)) ([] : (List Int))) ([] : (List Int)) 0 0 0 0)).bind fun y => (some y))
def raft_Raft_Recv (a0 : Raft_Raft) (a1 : Api_Msg) : Option (Raft_Out × Raft_Raft) :=
 ((if (a1.Group != a0.core.group) then (some true) else (if (a1.To != a0.core.id) then (some true) else (some (a1.From == a0.core.id)))).bind fun t34 => (if t34 then (some ((Raft_Out.mk ([] : (List Api_Msg)) ([] : (List Api_Rec)) false), a0)) else (if (a1.Kind == 1) then ((raft_Raft_preVote a0 (Raft_Out.mk ([] : (List Api_Msg)) ([] : (List Api_Rec)) false) a1).bind fun y => (some (y, a0))) else (if (a1.Kind == 2) then ((raft_Raft_preOk a0 (Raft_Out.mk ([] : (List Api_Msg)) ([] : (List Api_Rec)) false) a1).bind fun (y106, y107) => (some (y107, y106))) else ((if (decide (a1.Term > a0.core.hard.Term)) then ((raft_Raft_down a0 (Raft_Out.mk ([] : (List Api_Msg)) ([] : (List Api_Rec)) false) a1.Term).bind fun (y170, y171) => (some (y170.core.id, y170.core.group, y170.core.hard, y170.core.role, y170.core.lead, y170.core.commit, y170.core.applied, y170.core.silence, y170.core.beat, y170.core.yes, y170.core.next_, y170.core.match_, y171))) else (some (a0.core.id, a0.core.group, a0.core.hard, a0.core.role, a0.core.lead, a0.core.commit, a0.core.applied, a0.core.silence, a0.core.beat, a0.core.yes, a0.core.next_, a0.core.match_, (Raft_Out.mk ([] : (List Api_Msg)) ([] : (List Api_Rec)) false)))).bind fun (mpa0_core_id, mpa0_core_group, mpa0_core_hard, mpa0_core_role, mpa0_core_lead, mpa0_core_commit, mpa0_core_applied, mpa0_core_silence, mpa0_core_beat, mpa0_core_yes, mpa0_core_next, mpa0_core_match, me16) => (if (decide (a1.Term < mpa0_core_hard.Term)) then (if (a1.Kind == 7) then ((raft_Raft_noAppend (Raft_Raft.mk (Raft_core.mk mpa0_core_id mpa0_core_group a0.core.log mpa0_core_hard mpa0_core_role mpa0_core_lead mpa0_core_commit mpa0_core_applied mpa0_core_silence mpa0_core_beat mpa0_core_yes mpa0_core_next mpa0_core_match)) me16 a1).bind fun y363 => (some (y363, (Raft_Raft.mk (Raft_core.mk mpa0_core_id mpa0_core_group a0.core.log mpa0_core_hard mpa0_core_role mpa0_core_lead mpa0_core_commit mpa0_core_applied mpa0_core_silence mpa0_core_beat mpa0_core_yes mpa0_core_next mpa0_core_match))))) else (if (a1.Kind == 5) then ((raft_Raft_noAppend (Raft_Raft.mk (Raft_core.mk mpa0_core_id mpa0_core_group a0.core.log mpa0_core_hard mpa0_core_role mpa0_core_lead mpa0_core_commit mpa0_core_applied mpa0_core_silence mpa0_core_beat mpa0_core_yes mpa0_core_next mpa0_core_match)) me16 a1).bind fun y343 => (some (y343, (Raft_Raft.mk (Raft_core.mk mpa0_core_id mpa0_core_group a0.core.log mpa0_core_hard mpa0_core_role mpa0_core_lead mpa0_core_commit mpa0_core_applied mpa0_core_silence mpa0_core_beat mpa0_core_yes mpa0_core_next mpa0_core_match))))) else (if (a1.Kind == 3) then ((raft_Raft_noVote (Raft_Raft.mk (Raft_core.mk mpa0_core_id mpa0_core_group a0.core.log mpa0_core_hard mpa0_core_role mpa0_core_lead mpa0_core_commit mpa0_core_applied mpa0_core_silence mpa0_core_beat mpa0_core_yes mpa0_core_next mpa0_core_match)) me16 a1).bind fun y323 => (some (y323, (Raft_Raft.mk (Raft_core.mk mpa0_core_id mpa0_core_group a0.core.log mpa0_core_hard mpa0_core_role mpa0_core_lead mpa0_core_commit mpa0_core_applied mpa0_core_silence mpa0_core_beat mpa0_core_yes mpa0_core_next mpa0_core_match))))) else (some (me16, (Raft_Raft.mk (Raft_core.mk mpa0_core_id mpa0_core_group a0.core.log mpa0_core_hard mpa0_core_role mpa0_core_lead mpa0_core_commit mpa0_core_applied mpa0_core_silence mpa0_core_beat mpa0_core_yes mpa0_core_next mpa0_core_match))))))) else (if (a1.Kind == 6) then ((raft_Raft_appendOk (Raft_Raft.mk (Raft_core.mk mpa0_core_id mpa0_core_group a0.core.log mpa0_core_hard mpa0_core_role mpa0_core_lead mpa0_core_commit mpa0_core_applied mpa0_core_silence mpa0_core_beat mpa0_core_yes mpa0_core_next mpa0_core_match)) me16 a1).bind fun (y528, y529) => (some (y529, (Raft_Raft.mk (Raft_core.mk y528.core.id y528.core.group a0.core.log y528.core.hard y528.core.role y528.core.lead y528.core.commit y528.core.applied y528.core.silence y528.core.beat y528.core.yes y528.core.next_ y528.core.match_))))) else (if (a1.Kind == 7) then ((raft_Raft_install (Raft_Raft.mk (Raft_core.mk mpa0_core_id mpa0_core_group a0.core.log mpa0_core_hard mpa0_core_role mpa0_core_lead mpa0_core_commit mpa0_core_applied mpa0_core_silence mpa0_core_beat mpa0_core_yes mpa0_core_next mpa0_core_match)) me16 a1).bind fun (y493, y494) => (some (y494, y493))) else (if (a1.Kind == 5) then ((raft_Raft_append (Raft_Raft.mk (Raft_core.mk mpa0_core_id mpa0_core_group a0.core.log mpa0_core_hard mpa0_core_role mpa0_core_lead mpa0_core_commit mpa0_core_applied mpa0_core_silence mpa0_core_beat mpa0_core_yes mpa0_core_next mpa0_core_match)) me16 a1).bind fun (y458, y459) => (some (y459, y458))) else (if (a1.Kind == 4) then ((raft_Raft_voteOk (Raft_Raft.mk (Raft_core.mk mpa0_core_id mpa0_core_group a0.core.log mpa0_core_hard mpa0_core_role mpa0_core_lead mpa0_core_commit mpa0_core_applied mpa0_core_silence mpa0_core_beat mpa0_core_yes mpa0_core_next mpa0_core_match)) me16 a1).bind fun (y423, y424) => (some (y424, y423))) else (if (a1.Kind == 3) then ((raft_Raft_vote (Raft_Raft.mk (Raft_core.mk mpa0_core_id mpa0_core_group a0.core.log mpa0_core_hard mpa0_core_role mpa0_core_lead mpa0_core_commit mpa0_core_applied mpa0_core_silence mpa0_core_beat mpa0_core_yes mpa0_core_next mpa0_core_match)) me16 a1).bind fun (y396, y397) => (some (y397, (Raft_Raft.mk (Raft_core.mk y396.core.id y396.core.group a0.core.log y396.core.hard y396.core.role y396.core.lead y396.core.commit y396.core.applied y396.core.silence y396.core.beat y396.core.yes y396.core.next_ y396.core.match_))))) else (some (me16, (Raft_Raft.mk (Raft_core.mk mpa0_core_id mpa0_core_group a0.core.log mpa0_core_hard mpa0_core_role mpa0_core_lead mpa0_core_commit mpa0_core_applied mpa0_core_silence mpa0_core_beat mpa0_core_yes mpa0_core_next mpa0_core_match)))))))))))))))
def mementoseat_Entries_L1 (a0 : Int) (a1 : (List Int)) : ((List Api_Entry) × Int × Int) → Option (Ctl (List Api_Entry) ((List Api_Entry) × Int × Int))
 | (t59, t611, t712) => (if (decide (t712 < (a1.length : Int))) then ((idx a1 t712).bind fun x => ((if ((Int.tmod (IntKind.wrap .i64 (IntKind.wrap .u8 (Int.tdiv x 5))) 2) == 1) then (some ([x, (IntKind.wrap .u8 t712)] : (List Int))) else (some ([] : (List Int)))).bind fun me_Data => ((if (decide (x > 230)) then (some (2, ([(Int.tmod x 5), (Int.tmod (IntKind.wrap .u8 (Int.tdiv x 5)) 2)] : (List Int)))) else (some ((Int.tmod (IntKind.wrap .i64 (IntKind.wrap .u8 (Int.tdiv x 5))) 2), me_Data))).bind fun (me_Kind, me_Data38) => ((app 48 t59 ([(Api_Entry.mk (IntKind.wrap .i64 (a0 + t712)) (IntKind.wrap .i64 (t611 + (IntKind.wrap .i64 (IntKind.wrap .u8 (Int.tdiv (Int.tmod x 5) 4))))) me_Kind me_Data38)] : (List Api_Entry))).bind fun m => (some (.go (m, (IntKind.wrap .i64 (t611 + (IntKind.wrap .i64 (IntKind.wrap .u8 (Int.tdiv (Int.tmod x 5) 4))))), (IntKind.wrap .i64 (t712 + 1))))))))) else (early (some t59)))
def mementoseat_Entries (a0 : Int) (a1 : (List Int)) : Option (List Api_Entry) :=
 ((loopN (mementoseat_Entries_L1 a0 a1) fuel (([] : (List Api_Entry)), 1, 0)).bind fun t5 => (some t5))
def mementoref6_SameEntry (a : Api_Entry) (b : Api_Entry) : Option Bool :=
 ((if (a.Index == b.Index) then (if (a.Term == b.Term) then (if (a.Kind == b.Kind) then (some ((strOf a.Data) == (strOf b.Data))) else (some false)) else (some false)) else (some false)).bind fun t4 => (some t4))
def mementoref6_SameEntries_L1 (a : (List Api_Entry)) (b : (List Api_Entry)) : Int → Option (Ctl (Ctl Bool Unit) Int)
 | i5 => (if (decide (i5 < (a.length : Int))) then ((idx a i5).bind fun x => ((idx b i5).bind fun x11 => ((mementoref6_SameEntry x x11).bind fun y => (if (!y) then (early (early (some false))) else (some (.go (IntKind.wrap .i64 (i5 + 1)))))))) else (early (some (.go ()))))
def mementoref6_SameEntries (a : (List Api_Entry)) (b : (List Api_Entry)) : Option Bool :=
 (if ((a.length : Int) != (b.length : Int)) then (some false) else (kont (loopN (mementoref6_SameEntries_L1 a b) fuel 0) fun () => (some true)))
def mementoref6_SameInts_L1 (a : (List Int)) (b : (List Int)) : Int → Option (Ctl (Ctl Bool Unit) Int)
 | i5 => (if (decide (i5 < (a.length : Int))) then ((idx a i5).bind fun x => ((idx b i5).bind fun x11 => (if (x != x11) then (early (early (some false))) else (some (.go (IntKind.wrap .i64 (i5 + 1))))))) else (early (some (.go ()))))
def mementoref6_SameInts (a : (List Int)) (b : (List Int)) : Option Bool :=
 (if ((a.length : Int) != (b.length : Int)) then (some false) else (kont (loopN (mementoref6_SameInts_L1 a b) fuel 0) fun () => (some true)))
def mementoref6_SameBase (a : Api_Base) (b : Api_Base) : Option Bool :=
 ((if (a.Index == b.Index) then (if (a.Term == b.Term) then ((mementoref6_SameInts a.Conf b.Conf).bind fun y => (if y then (some ((strOf a.Data) == (strOf b.Data))) else (some false))) else (some false)) else (some false)).bind fun t4 => (some t4))
def mementolaw12_RaftKeeps (a0 : (List Int)) (a1 : Int) (a2 : (List Int)) : Option Bool :=
 ((mementolaw12_known).bind fun y => (if (!y) then (some false) else ((if (decide ((a0.length : Int) > 12)) then (some true) else (if ((a0.length : Int) == 0) then (some true) else (some (decide ((a2.length : Int) > 20))))).bind fun t27 => (if t27 then (some true) else ((mementoseat_Entries 1 a0).bind fun y3 => ((raft_New 0 1 (Api_Image.mk (Api_Hard.mk 20 (-1)) (Api_Base.mk 0 0 ([0, 1, 2] : (List Int)) ([] : (List Int))) y3)).bind fun y10 => ((remI (IntKind.wrap .i64 a1) (a0.length : Int)).bind fun x => ((idx y3 (IntKind.wrap .i64 ((IntKind.wrap .i64 (x + 1)) - 1))).bind fun x31 => ((raft_Raft_Recv y10 (Api_Msg.mk 7 1 1 0 20 0 0 0 false ([] : (List Api_Entry)) (Api_Base.mk (IntKind.wrap .i64 (x + 1)) x31.Term ([0, 1, 2] : (List Int)) a2) ([] : (List Int)) 0 0 0 0)).bind fun (y49, y50) => ((if y49.Restore then (some true) else (if ((y49.Recs.length : Int) != 0) then (some true) else (if ((y49.Msgs.length : Int) != 1) then (some true) else ((idx y49.Msgs 0).bind fun x95 => (if (!x95.Ok) then (some true) else (if (x95.Index != (IntKind.wrap .i64 (x + 1))) then (some true) else ((raft_core_Commit y50.core).bind fun y98 => (if (y98 != (IntKind.wrap .i64 (x + 1))) then (some true) else ((raft_core_Image y50.core).bind fun y101 => ((mementoref6_SameEntries y101.Log y3).bind fun y103 => (some (!y103)))))))))))).bind fun t106 => (if t106 then (some false) else ((raft_Raft_Recv y50 (Api_Msg.mk 7 1 1 0 20 0 0 0 false ([] : (List Api_Entry)) (Api_Base.mk (IntKind.wrap .i64 ((IntKind.wrap .i64 (x + 1)) + 1)) 19 ([0, 1, 2] : (List Int)) a2) ([] : (List Int)) 0 0 0 0)).bind fun (y120, y121) => ((if y120.Restore then (if ((y120.Recs.length : Int) == 1) then ((raft_core_Image y121.core).bind fun y171 => (if ((y171.Log.length : Int) == 0) then ((raft_core_Commit y121.core).bind fun y174 => (if (y174 == (IntKind.wrap .i64 ((IntKind.wrap .i64 (x + 1)) + 1))) then ((mementoref6_SameBase y171.Base (Api_Base.mk (IntKind.wrap .i64 ((IntKind.wrap .i64 (x + 1)) + 1)) 19 ([0, 1, 2] : (List Int)) a2)).bind fun y177 => (some y177)) else (some false))) else (some false))) else (some false)) else (some false)).bind fun t6 => (some t6))))))))))))))
end Go.Proofs.YtaaamoicidfgcaaGreat.Am
