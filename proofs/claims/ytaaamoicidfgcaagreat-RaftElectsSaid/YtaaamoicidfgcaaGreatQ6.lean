/- Part 6 of the proof: values, memory, walks or the plain law. -/
import Derived.Test.YtaaamoicidfgcaaGreatQ5
import Derived.KernelRfl
namespace Go.Proofs.YtaaamoicidfgcaaGreat.Am
open Go
set_option linter.unusedVariables false
set_option linter.unusedSimpArgs false
theorem known12 : mementolaw12_known = some true := by kernel_rfl
def eAll (k : Nat) : List Int := (List.range k).map fun n => Int.ofNat n
def eLog (k : Nat) : Rlog_Log := ⟨⟨⟨0, 0, eAll k, []⟩, []⟩⟩
def z7 : A7_int := ⟨0, 0, 0, 0, 0, 0, 0⟩
def eNewR (k : Nat) : Raft_Raft := ⟨⟨0, 1, eLog k, ⟨0, -1⟩, 0, -1, 0, 0, 0, 0, [], z7, z7⟩⟩
def eAskR (k : Nat) : Raft_Raft := ⟨⟨0, 1, eLog k, ⟨0, -1⟩, 1, -1, 0, 0, 0, 0, [0], z7, z7⟩⟩
def eCand (k : Nat) (Y : List Int) : Raft_Raft := ⟨⟨0, 1, eLog k, ⟨1, 0⟩, 2, -1, 0, 0, 0, 0, Y, z7, z7⟩⟩
def eOut : Raft_Out := ⟨[], [], false⟩
def eMsg (f : Int) (ok : Bool) : Api_Msg := ⟨4, 1, f, 0, 1, 0, 0, 0, ok, [], ⟨0, 0, [], []⟩, [], 0, 0, 0, 0⟩
abbrev RTup := Int × Int × Api_Hard × Int × Int × Int × Int × Int × Int × (List Int) × A7_int × A7_int × Api_Base × (List Api_Entry)
def rTup (r : Raft_Raft) : RTup :=
 (r.core.id, r.core.group, r.core.hard, r.core.role, r.core.lead, r.core.commit, r.core.applied, r.core.silence, r.core.beat, r.core.yes, r.core.next_, r.core.match_, r.core.log.tail.base, r.core.log.tail.l)
abbrev ETup := Int × Int × Int × Api_Hard × Int × Int × Int × Int × Int × Int × (List Int) × A7_int × A7_int × Api_Base × (List Api_Entry) × (List Bool)
def eTup (i : Int) (r : Raft_Raft) (got : List Bool) : ETup :=
 (i, r.core.id, r.core.group, r.core.hard, r.core.role, r.core.lead, r.core.commit, r.core.applied, r.core.silence, r.core.beat, r.core.yes, r.core.next_, r.core.match_, r.core.log.tail.base, r.core.log.tail.l, got)
def got0 : List Bool := [true, false, false, false, false, false, false, false]
theorem elects_pre {a0 : Int} {a1 : List Int} {a2 : List Bool} {k : Nat} (h1 : loopN (mementolaw12_RaftElects_L1 a0) fuel (([] : (List Int)), 0) = some (eAll k))
  (h2 : raft_New 0 1 ⟨⟨0, -1⟩, ⟨0, 0, eAll k, []⟩, []⟩ = some (eNewR k))
  (h3 : loopN mementolaw12_RaftElects_L2 fuel (0, rTup (eNewR k)) = some (rTup (eAskR k)))
  (h4 : loopN (mementolaw12_RaftElects_L3 a0) fuel (1, rTup (eAskR k)) = some (rTup (eCand k [0])))
  (hl : a1.length ≤ 12) (hl2 : a1.length ≤ a2.length) :
  mementolaw12_RaftElects a0 a1 a2 = kont (loopN (mementolaw12_RaftElects_L4 a0 a1 a2) fuel (eTup 0 (eCand k [0]) got0)) fun _ => some true := by
 unfold mementolaw12_RaftElects
 rw [known12]
 simp only [Option.bind_some, Bool.not_true, Bool.false_eq_true, if_false]
 rw [if_neg (by simp; omega)]
 simp only [Option.bind_some]
 rw [if_neg (by simp; omega), h1]
 simp only [Option.bind_some]
 rw [h2]
 simp only [Option.bind_some]
 unfold rTup at h3 h4
 rw [h3]
 simp only [Option.bind_some, raft_core_Role, raft_core_Term]
 rw [if_neg (show ¬ ((eAskR k).core.role != 1) = true from by intro h; cases h)]
 simp only [Option.bind_some]
 rw [if_neg (show ¬ ((eAskR k).core.hard.Term != 0) = true from by intro h; cases h), h4]
 simp only [Option.bind_some, raft_core_Role, raft_core_Term]
 rw [if_neg (show ¬ ((eCand k [0]).core.role != 2) = true from by intro h; cases h)]
 simp only [Option.bind_some]
 rw [if_neg (show ¬ ((eCand k [0]).core.hard.Term != 1) = true from by intro h; cases h)]
 rfl
theorem e_pre (c : Int) (k : Nat) (hk : (c = 0 ∧ k = 2) ∨ (c = 1 ∧ k = 3) ∨ (c = 2 ∧ k = 4) ∨ (c = 3 ∧ k = 5) ∨ (c = 4 ∧ k = 6)) :
  loopN (mementolaw12_RaftElects_L1 c) fuel (([] : (List Int)), 0) = some (eAll k) ∧ raft_New 0 1 ⟨⟨0, -1⟩, ⟨0, 0, eAll k, []⟩, []⟩ = some (eNewR k) ∧
  loopN mementolaw12_RaftElects_L2 fuel (0, rTup (eNewR k)) = some (rTup (eAskR k)) ∧ loopN (mementolaw12_RaftElects_L3 c) fuel (1, rTup (eAskR k)) = some (rTup (eCand k [0])) := by
 rcases hk with ⟨rfl, rfl⟩ | ⟨rfl, rfl⟩ | ⟨rfl, rfl⟩ | ⟨rfl, rfl⟩ | ⟨rfl, rfl⟩ <;> exact ⟨by kernel_rfl, by kernel_rfl, by kernel_rfl, by kernel_rfl⟩
def eLeadP (k : Nat) (Y : List Int) : Raft_Raft × Raft_Out := (raft_Raft_leading (eCand k Y) eOut).getD default
theorem e_no (k : Nat) (hk : k = 2 ∨ k = 3 ∨ k = 4 ∨ k = 5 ∨ k = 6) (f : Nat) (hf : f < k) (Y : List Int) : raft_Raft_Recv (eCand k Y) (eMsg f false) = some (eOut, eCand k Y) := by
 have : f = 0 ∨ f = 1 ∨ f = 2 ∨ f = 3 ∨ f = 4 ∨ f = 5 := by omega
 rcases hk with rfl | rfl | rfl | rfl | rfl <;> rcases this with rfl | rfl | rfl | rfl | rfl | rfl <;> first | (clear hf; show _ = _; kernel_rfl) | (exfalso; omega)
theorem e_self (k : Nat) (hk : k = 2 ∨ k = 3 ∨ k = 4 ∨ k = 5 ∨ k = 6) (ok : Bool) (Y : List Int) : raft_Raft_Recv (eCand k Y) (eMsg 0 ok) = some (eOut, eCand k Y) := by
 rcases hk with rfl | rfl | rfl | rfl | rfl <;> kernel_rfl
theorem e_vote (k : Nat) (hk : k = 2 ∨ k = 3 ∨ k = 4 ∨ k = 5 ∨ k = 6) (f : Nat) (h0 : 0 < f) (hf : f < k) (Y : List Int) : raft_Raft_Recv (eCand k Y) (eMsg f true) = (raft_Raft_voteOk (eCand k Y) eOut (eMsg f true)).bind fun (y, o) => some (o, y) := by
 have : f = 1 ∨ f = 2 ∨ f = 3 ∨ f = 4 ∨ f = 5 := by omega
 rcases hk with rfl | rfl | rfl | rfl | rfl <;> rcases this with rfl | rfl | rfl | rfl | rfl <;> first | (exfalso; omega) | (clear hf h0; show _ = _; kernel_rfl)
theorem e_lead (k : Nat) (hk : k = 2 ∨ k = 3 ∨ k = 4 ∨ k = 5 ∨ k = 6) (Y : List Int) : raft_Raft_leading (eCand k Y) eOut = some (eLeadP k Y) ∧ (eLeadP k Y).1.core.role = 3 := by
 rcases hk with rfl | rfl | rfl | rfl | rfl <;> exact ⟨by kernel_rfl, by kernel_rfl⟩
theorem e_stay (k : Nat) (hk : k = 2 ∨ k = 3 ∨ k = 4 ∨ k = 5 ∨ k = 6) (f : Nat) (hf : f < k) (ok : Bool) (Y : List Int) : raft_Raft_Recv (eLeadP k Y).1 (eMsg f ok) = some (eOut, (eLeadP k Y).1) := by
 have : f = 0 ∨ f = 1 ∨ f = 2 ∨ f = 3 ∨ f = 4 ∨ f = 5 := by omega
 rcases hk with rfl | rfl | rfl | rfl | rfl <;> rcases this with rfl | rfl | rfl | rfl | rfl | rfl <;> first | (exfalso; omega) | (clear hf; cases ok <;> (show _ = _; kernel_rfl))
end Go.Proofs.YtaaamoicidfgcaaGreat.Am
namespace Go.Proofs.YtaaamoicidfgcaaGreat.Am
open Go
set_option linter.unusedVariables false
set_option linter.unusedSimpArgs false
def allB : Nat → List (List Bool)
 | 0 => [[]]
 | n + 1 => (allB n).map (true :: ·) ++ (allB n).map (false :: ·)
theorem mem_allB : ∀ (n : Nat) (l : List Bool), l.length = n → l ∈ allB n
 | 0, [], _ => by simp [allB]
 | n + 1, b :: l, h => by
  have := mem_allB n l (by simpa using h)
  cases b <;> simp [allB, this]
def gc (got : List Bool) (k : Nat) : Nat := ((List.range k).filter fun j => got.getD j false).length
abbrev K (k : Nat) : Prop := k = 2 ∨ k = 3 ∨ k = 4 ∨ k = 5 ∨ k = 6
theorem cnt_all : ((allB 8).all fun l => (List.range 5).all fun c => loopN (mementolaw12_RaftElects_L5 (c : Nat) l) fuel (0, 0) == some ((gc l (c + 2) : Nat) : Int)) = true := by kernel_rfl
theorem cnt_eq {c : Nat} (hc : c < 5) {got : List Bool} (h : got.length = 8) : loopN (mementolaw12_RaftElects_L5 (c : Nat) got) fuel (0, 0) = some ((gc got (c + 2) : Nat) : Int) := by
 have := List.all_eq_true.1 (List.all_eq_true.1 cnt_all got (mem_allB 8 got h)) c (List.mem_range.2 hc)
 simpa using this
theorem cnt_le (got : List Bool) (k : Nat) : gc got k ≤ k := by
 have := List.length_filter_le (fun j => got.getD j false) (List.range k)
 rw [List.length_range] at this; exact this
theorem ofS_all {k : Nat} (hk : K k) : ofS (eAll k) = eAll k := by rcases hk with rfl | rfl | rfl | rfl | rfl <;> (show _ = _; kernel_rfl)
theorem eAll_len (k : Nat) : (eAll k).length = k := by simp [eAll]
def Yes (k : Nat) (Y : List Int) (got : List Bool) : Prop := got.length = 8 ∧ ∀ j, j < k → got.getD j false = decide (((j : Nat) : Int) ∈ Y)
theorem Yes.gc {k : Nat} {Y : List Int} {got : List Bool} (h : Yes k Y got) : ((eAll k).filter fun x => decide (x ∈ Y)).length = gc got k := by
 unfold eAll Am.gc
 rw [List.filter_map, List.length_map]
 congr 1
 refine List.filter_congr fun j hj => ?_
 rw [h.2 j (List.mem_range.1 hj)]
 rfl
theorem most_cand {k : Nat} (hk : K k) {Y : List Int} (hY : Y.length ≤ 1000) {got : List Bool} (h : Yes k Y got) : raft_core_most (eCand k Y).core = some (decide (2 * gc got k > k)) := by
 have hc : raft_core_Conf (eCand k Y).core = some (eAll k) := by
  clear h
  rcases hk with rfl | rfl | rfl | rfl | rfl <;> (clear hY; show _ = _; kernel_rfl)
 unfold raft_core_most
 rw [hc]
 simp only [Option.bind_some]
 rw [show (eCand k Y).core.yes = Y from rfl, most_eq (by rw [eAll_len]; rcases hk with rfl | rfl | rfl | rfl | rfl <;> omega) (by omega), ofS_all hk, h.gc, eAll_len]
 rfl
theorem voteOk_cand {k : Nat} (hk : K k) {f : Nat} {Y : List Int} (hY : Y.length ≤ 100) {got : List Bool} (h : Yes k (Y ++ [(f : Int)]) got) :
  raft_Raft_voteOk (eCand k Y) eOut (eMsg f true) = if 2 * gc got k > k then some (eLeadP k (Y ++ [(f : Int)])) else some (eCand k (Y ++ [(f : Int)]), eOut) := by
 unfold raft_Raft_voteOk
 rw [if_neg (show ¬ (!(eMsg f true).Ok) = true from by intro h; cases h)]
 simp only [Option.bind_some]
 rw [if_neg (show ¬ ((eCand k Y).core.role != 2) = true from by intro h; cases h)]
 rw [show (eCand k Y).core.yes = Y from rfl, show (eMsg f true).From = (f : Int) from rfl, app_of (by simp; omega) (by simp; omega)]
 simp only [Option.bind_some]
 have hm := most_cand hk (Y := Y ++ [(f : Int)]) (by simp; omega) h
 have hl := e_lead k hk (Y ++ [(f : Int)])
 change (raft_core_most (eCand k (Y ++ [(f : Int)])).core).bind _ = _
 rw [hm]
 simp only [Option.bind_some]
 by_cases hc : 2 * gc got k > k
 ·rw [if_pos (by simpa using hc), if_pos hc]
  change (raft_Raft_leading (eCand k (Y ++ [(f : Int)])) eOut).bind _ = _
  rw [hl.1]; rfl
 ·rw [if_neg (by simpa using hc), if_neg hc]; rfl
def EGood (k : Nat) (i : Nat) (r : Raft_Raft) (got : List Bool) : Prop :=
 ∃ Y, Yes k Y got ∧ (0 : Int) ∈ Y ∧ Y.length ≤ i + 1 ∧ ((r = eCand k Y ∧ 2 * gc got k ≤ k) ∨ (∃ Y', r = (eLeadP k Y').1 ∧ 2 * gc got k > k))
def gotN (got : List Bool) (f : Nat) (ok : Bool) : List Bool := got.set f (got.getD f false || ok)
theorem gotN_len (got : List Bool) (f : Nat) (ok : Bool) : (gotN got f ok).length = got.length := by simp [gotN]
theorem gotN_at {got : List Bool} {f : Nat} {ok : Bool} (hf : f < got.length) (j : Nat) : (gotN got f ok).getD j false = if j = f then (got.getD f false || ok) else got.getD j false := by
 unfold gotN
 simp only [List.getD_eq_getElem?_getD]
 by_cases h : j = f
 ·subst h; rw [if_pos rfl, List.getElem?_set_self hf]; rfl
 ·rw [if_neg h, List.getElem?_set_ne (Ne.symm h)]
theorem Yes.more {k : Nat} {Y : List Int} {got : List Bool} (h : Yes k Y got) {f : Nat} (hf : f < k) (hk : k ≤ 8) : Yes k (Y ++ [(f : Int)]) (gotN got f true) := by
 refine ⟨by rw [gotN_len]; exact h.1, fun j hj => ?_⟩
 rw [gotN_at (by rw [h.1]; omega)]
 by_cases e : j = f
 ·subst e; rw [if_pos rfl]; simp
 ·rw [if_neg e, h.2 j hj]
  have : ((j : Nat) : Int) ≠ (f : Int) := by omega
  simp [this]
theorem Yes.same {k : Nat} {Y : List Int} {got : List Bool} (h : Yes k Y got) {f : Nat} (hf : f < k) (hk : k ≤ 8) {ok : Bool} (hok : ok = true → ((f : Nat) : Int) ∈ Y) : Yes k Y (gotN got f ok) := by
 refine ⟨by rw [gotN_len]; exact h.1, fun j hj => ?_⟩
 rw [gotN_at (by rw [h.1]; omega)]
 by_cases e : j = f
 ·subst e
  rw [if_pos rfl, h.2 j hj]
  cases ok with
  | false => simp
  | true => simp [hok rfl]
 ·rw [if_neg e, h.2 j hj]
theorem cnt_mono {got : List Bool} {f k : Nat} {ok : Bool} (hf : f < got.length) : gc got k ≤ gc (gotN got f ok) k := by
 unfold gc
 rw [← List.countP_eq_length_filter, ← List.countP_eq_length_filter]
 refine List.countP_mono_left fun j _ h => ?_
 rw [gotN_at hf]
 by_cases e : j = f
 ·rw [if_pos e, ← e, h]; rfl
 ·rw [if_neg e]; exact h
theorem e_go {k : Nat} (hk : K k) {i f : Nat} (hf : f < k) {ok : Bool} {r : Raft_Raft} {got : List Bool} (h : EGood k i r got) (hi : i ≤ 12) :
  ∃ o r', raft_Raft_Recv r (eMsg f ok) = some (o, r') ∧ EGood k (i + 1) r' (gotN got f ok) ∧ (r'.core.role == 3) = decide (2 * gc (gotN got f ok) k > k) := by
 obtain ⟨Y, hy, h0, hl, h⟩ := h
 have hk8 : k ≤ 8 := by rcases hk with rfl | rfl | rfl | rfl | rfl <;> omega
 have hfl : f < got.length := by rw [hy.1]; omega
 rcases h with ⟨rfl, hc⟩ | ⟨Y', rfl, hc⟩
 ·
  by_cases hq : f = 0 ∨ ok = false
  ·have hs : Yes k Y (gotN got f ok) := hy.same hf hk8 fun e => by
    rcases hq with rfl | rfl
    ·exact h0
    ·cases e
   refine ⟨eOut, eCand k Y, ?_, ⟨Y, hs, h0, by omega, .inl ⟨rfl, ?_⟩⟩, ?_⟩
   ·rcases hq with rfl | rfl
    ·exact e_self k hk ok Y
    ·exact e_no k hk f hf Y
   ·rw [← hs.gc, hy.gc]; exact hc
   ·rw [← hs.gc, hy.gc, show (eCand k Y).core.role = 2 from rfl]; simp; omega
  ·have hf0 : 0 < f := by omega
   have hok : ok = true := by cases ok with | true => rfl | false => exact absurd (.inr rfl) hq
   subst hok
   have hs := hy.more hf hk8
   have hv := voteOk_cand hk (f := f) (Y := Y) (by omega) hs
   rw [e_vote k hk f hf0 hf Y, hv]
   by_cases hc2 : 2 * gc (gotN got f true) k > k
   ·rw [if_pos hc2]
    refine ⟨(eLeadP k (Y ++ [(f : Int)])).2, (eLeadP k (Y ++ [(f : Int)])).1, rfl, ⟨Y ++ [(f : Int)], hs, by simp [h0], by simp; omega, .inr ⟨Y ++ [(f : Int)], rfl, hc2⟩⟩, ?_⟩
    rw [(e_lead k hk _).2]; simpa using hc2
   ·rw [if_neg hc2]
    refine ⟨_, _, rfl, ⟨Y ++ [(f : Int)], hs, by simp [h0], by simp; omega, .inl ⟨rfl, by omega⟩⟩, ?_⟩
    rw [show (eCand k (Y ++ [(f : Int)])).core.role = 2 from rfl]; simp; omega
 ·
  have hm := cnt_mono (f := f) (k := k) (ok := ok) hfl
  have hy2 : ∃ Y2, Yes k Y2 (gotN got f ok) ∧ (0 : Int) ∈ Y2 ∧ Y2.length ≤ i + 1 + 1 := by
   cases ok with
   | true => exact ⟨Y ++ [(f : Int)], hy.more hf hk8, by simp [h0], by simp; omega⟩
   | false => exact ⟨Y, hy.same hf hk8 (fun e => by cases e), h0, by omega⟩
  obtain ⟨Y2, q1, q2, q3⟩ := hy2
  refine ⟨eOut, _, e_stay k hk f hf ok Y', ⟨Y2, q1, q2, q3, .inr ⟨Y', rfl, by omega⟩⟩, ?_⟩
  rw [(e_lead k hk Y').2]; simp; omega
theorem mod_K {a0 : Int} {c : Nat} (hc : a0.tmod 5 = (c : Nat)) (h5 : c < 5) : IntKind.wrap .i64 ((IntKind.wrap .i64 (Int.tmod a0 5)) + 2) = ((c + 2 : Nat) : Int) := by
 rw [hc, wrap64 (n := ((c : Nat) : Int)) (by omega) (by omega), wrap64 (by omega) (by omega)]; omega
theorem e_L4 {a0 : Int} {a1 : List Int} {a2 : List Bool} {c : Nat} (hc : a0.tmod 5 = (c : Nat)) (h5 : c < 5) (hu : ∀ x ∈ a1, 0 ≤ x ∧ x < 256) (hl : a1.length ≤ 12) (hl2 : a1.length ≤ a2.length) {i : Nat} (hi : i < a1.length) {r : Raft_Raft} {got : List Bool}
  (h : EGood (c + 2) i r got) : ∃ r' got', mementolaw12_RaftElects_L4 a0 a1 a2 (eTup i r got) = some (.go (eTup ((i + 1 : Nat) : Int) r' got')) ∧ EGood (c + 2) (i + 1) r' got' := by
 have hk : K (c + 2) := by omega
 have hx := hu a1[i] (List.getElem_mem _)
 obtain ⟨x, hxn⟩ : ∃ x : Nat, a1[i] = x := ⟨a1[i].toNat, by omega⟩
 have hf : x % (c + 2) < c + 2 := Nat.mod_lt _ (by omega)
 have hlen : got.length = 8 := by obtain ⟨Y, hy, _⟩ := h; exact hy.1
 obtain ⟨o, r', q1, q2, q3⟩ := e_go hk hf (ok := a2[i]'(by omega)) h (by omega)
 refine ⟨r', gotN got (x % (c + 2)) (a2[i]'(by omega)), ?_, q2⟩
 unfold eTup
 dsimp only [mementolaw12_RaftElects_L4]
 rw [if_pos (by simpa using hi), idx_at hi, mod_K hc h5]
 simp only [Option.bind_some]
 rw [hxn, wrap64 (n := (x : Int)) (by omega) (by omega)]
 rw [show remI (x : Int) ((c + 2 : Nat) : Int) = some ((x % (c + 2) : Nat) : Int) from by
  unfold remI; rw [if_neg (by omega), Int.tmod_eq_emod_of_nonneg (by omega)]; rfl]
 simp only [Option.bind_some]
 rw [idx_at (show i < a2.length by omega)]
 simp only [Option.bind_some]
 change (raft_Raft_Recv r (eMsg _ _)).bind _ = _
 rw [q1]
 simp only [Option.bind_some]
 have hfl : x % (c + 2) < got.length := by omega
 have hup : ((idx got ((x % (c + 2) : Nat) : Int)).bind fun x320 => (if x320 then ((updL got ((x % (c + 2) : Nat) : Int) true).bind fun m322 => (some m322)) else ((updL got ((x % (c + 2) : Nat) : Int) (a2[i]'(by omega))).bind fun m329 => (some m329)))) = some (gotN got (x % (c + 2)) (a2[i]'(by omega))) := by
  rw [idx_at hfl]
  simp only [Option.bind_some]
  rw [updL_nat hfl, updL_nat hfl]
  unfold gotN
  have hd : got.getD (x % (c + 2)) false = got[x % (c + 2)] := by rw [List.getD_eq_getElem?_getD, List.getElem?_eq_getElem hfl]; rfl
  rw [hd]
  cases got[x % (c + 2)] <;> simp
 rw [hup]
 simp only [Option.bind_some]
 have hcl : loopN (mementolaw12_RaftElects_L5 a0 (gotN got (x % (c + 2)) (a2[i]'(by omega)))) fuel (0, 0) = some ((gc (gotN got (x % (c + 2)) (a2[i]'(by omega))) (c + 2) : Nat) : Int) := by
  have e5 : mementolaw12_RaftElects_L5 a0 = mementolaw12_RaftElects_L5 (c : Nat) := by
   funext g s
   have : ((c : Nat) : Int).tmod 5 = (c : Nat) := by rw [Int.tmod_eq_emod_of_nonneg (by omega)]; omega
   simp only [mementolaw12_RaftElects_L5, hc, this]
  rw [e5]
  exact cnt_eq h5 (by rw [gotN_len, hlen])
 rw [hcl]
 simp only [Option.bind_some, raft_core_Role]
 have hle := cnt_le (gotN got (x % (c + 2)) (a2[i]'(by omega))) (c + 2)
 have hw : IntKind.wrap .i64 (2 * ((gc (gotN got (x % (c + 2)) (a2[i]'(by omega))) (c + 2) : Nat) : Int)) = ((2 * gc (gotN got (x % (c + 2)) (a2[i]'(by omega))) (c + 2) : Nat) : Int) := by
  rw [wrap64 (by omega) (by omega)]; omega
 rw [hw, q3]
 rw [if_neg (by
  have : decide (2 * gc (gotN got (x % (c + 2)) (a2[i]'(by omega))) (c + 2) > c + 2) = decide (((2 * gc (gotN got (x % (c + 2)) (a2[i]'(by omega))) (c + 2) : Nat) : Int) > ((c + 2 : Nat) : Int)) := by
   congr 1; exact propext ⟨fun h => by omega, fun h => by omega⟩
  rw [this]; simp)]
 rw [wrap64 (n := ((i : Nat) : Int) + 1) (by omega) (by omega)]
 rfl
theorem raftElects_eq {a0 : Int} {a1 : List Int} {a2 : List Bool} (h0 : Ik .u8 a0) (h1 : ∀ x ∈ a1, Ik .u8 x) : mementolaw12_RaftElects a0 a1 a2 = some true := by
 have u8 : ∀ {x : Int}, Ik .u8 x → 0 ≤ x ∧ x < 256 := fun {x} h => by
  obtain ⟨p, q⟩ := h
  simp [IntKind.min, IntKind.max, IntKind.signed, IntKind.bits] at p q
  omega
 by_cases hs : a1.length ≤ 12 ∧ a1.length ≤ a2.length
 ·obtain ⟨hl, hl2⟩ := hs
  have ha := u8 h0
  obtain ⟨n, rfl⟩ : ∃ n : Nat, a0 = n := ⟨a0.toNat, by omega⟩
  have hc : ((n : Nat) : Int).tmod 5 = ((n % 5 : Nat) : Int) := by rw [Int.tmod_eq_emod_of_nonneg (by omega)]; omega
  have hc' : (((n % 5 : Nat)) : Int).tmod 5 = ((n % 5 : Nat) : Int) := by rw [Int.tmod_eq_emod_of_nonneg (by omega)]; omega
  have h5 : n % 5 < 5 := Nat.mod_lt _ (by decide)
  obtain ⟨c, hcd⟩ : ∃ c, n % 5 = c := ⟨_, rfl⟩
  rw [hcd] at hc hc' h5
  obtain ⟨p1, p2, p3, p4⟩ := e_pre (c : Nat) (c + 2) (by omega)
  have l1 : mementolaw12_RaftElects_L1 (n : Int) = mementolaw12_RaftElects_L1 (c : Nat) := by funext s; obtain ⟨_, _⟩ := s; simp only [mementolaw12_RaftElects_L1, hc, hc']
  have l3 : mementolaw12_RaftElects_L3 (n : Int) = mementolaw12_RaftElects_L3 (c : Nat) := by funext s; simp only [mementolaw12_RaftElects_L3, hc, hc']
  rw [← l1] at p1
  rw [← l3] at p4
  rw [elects_pre p1 p2 p3 p4 hl hl2]
  have hu : ∀ x ∈ a1, 0 ≤ x ∧ x < 256 := fun x hx => u8 (h1 x hx)
  obtain ⟨t, e, q⟩ := loop_QF (b := mementolaw12_RaftElects_L4 (n : Int) a1 a2) (s := eTup 0 (eCand (c + 2) [0]) got0) (fun s => ∃ (i : Nat) (r : Raft_Raft) (got : List Bool), s = eTup i r got ∧ i ≤ a1.length ∧ EGood (c + 2) i r got) (fun s => a1.length - s.1.toNat) (fun t => ∃ s, t = .go s)
   ⟨0, _, _, rfl, Nat.zero_le _, [0], ⟨rfl, fun j hj => by
    have hj6 : j < 6 := by omega
    rcases (by omega : j = 0 ∨ j = 1 ∨ j = 2 ∨ j = 3 ∨ j = 4 ∨ j = 5) with rfl | rfl | rfl | rfl | rfl | rfl <;> rfl⟩, by simp, by simp, .inl ⟨rfl, by
     have : gc got0 (c + 2) = 1 := by
      rcases (by omega : c = 0 ∨ c = 1 ∨ c = 2 ∨ c = 3 ∨ c = 4) with rfl | rfl | rfl | rfl | rfl <;> rfl
     omega⟩⟩ (by omega) (by
    rintro _ ⟨i, r, got, rfl, hi, hg⟩
    rcases Nat.lt_or_ge i a1.length with h | h
    ·right
     obtain ⟨r', got', e, g⟩ := e_L4 hc h5 hu hl hl2 h hg
     refine ⟨_, e, ⟨i + 1, r', got', rfl, h, g⟩, ?_⟩
     simp only [eTup, Int.toNat_natCast]; omega
    ·left
     refine ⟨.go (r.core.id, r.core.group, r.core.hard, r.core.role, r.core.lead, r.core.commit, r.core.applied, r.core.silence, r.core.beat, r.core.yes, r.core.next_, r.core.match_, r.core.log.tail.base, r.core.log.tail.l, got), ?_, _, rfl⟩
     unfold eTup
     dsimp only [mementolaw12_RaftElects_L4]
     rw [if_neg (by simp; omega)]; rfl)
  rw [e]
  obtain ⟨s, rfl⟩ := q
  rfl
 ·unfold mementolaw12_RaftElects
  rw [known12]
  simp only [Option.bind_some, Bool.not_true, Bool.false_eq_true, if_false]
  have : ((if (decide ((a1.length : Int) > 12)) then (some true) else (some (decide ((a2.length : Int) < (a1.length : Int))))) : Option Bool) = some true := by
   split
   ·rfl
   ·rename_i h; simp at h; simp; omega
  rw [this]
  rfl
end Go.Proofs.YtaaamoicidfgcaaGreat.Am
