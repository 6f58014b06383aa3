/- Part 6 of the proof: values, memory, walks or the plain law. -/
import Derived.Test.YtaaamoicidfgcaaGreatQ5
import Derived.KernelRfl
namespace Go.Proofs.YtaaamoicidfgcaaGreat.Am
open Go
set_option linter.unusedVariables false
set_option linter.unusedSimpArgs false
theorem base_eq {b : Api_Base} {l : List En} (g : GOk b l) : rlog_tail_Base ⟨b, l⟩ = some b := by
 unfold rlog_tail_Base
 rw [under_eq g.dt (by have := g.cf; omega)]; rfl
end Go.Proofs.YtaaamoicidfgcaaGreat.Am
namespace Go.Proofs.YtaaamoicidfgcaaGreat.Am
open Go
set_option linter.unusedVariables false
end Go.Proofs.YtaaamoicidfgcaaGreat.Am
namespace Go.Proofs.YtaaamoicidfgcaaGreat.Am
open Go
set_option linter.unusedVariables false
set_option linter.unusedSimpArgs false
theorem known12 : mementolaw12_known = some true := by kernel_rfl
def z7 : A7_int := ⟨0, 0, 0, 0, 0, 0, 0⟩
def eOut : Raft_Out := ⟨[], [], false⟩
end Go.Proofs.YtaaamoicidfgcaaGreat.Am
namespace Go.Proofs.YtaaamoicidfgcaaGreat.Am
open Go
set_option linter.unusedVariables false
set_option linter.unusedSimpArgs false
theorem entries_tm {fr : Int} {l : List Int} (h0 : 0 ≤ fr) (h1 : fr ≤ 20000) (hl : l.length ≤ 100) (hb : ∀ x ∈ l, Ik .u8 x) :
  ∃ es, mementoseat_Entries fr l = some es ∧ es.length = l.length ∧ (∀ x ∈ es, EOk x ∧ x.Term ≤ 1 + l.length) ∧ ∀ k (h : k < es.length), es[k].Index = fr + k := by
 unfold mementoseat_Entries
 obtain ⟨r, hr, hp⟩ := loop_exF (b := mementoseat_Entries_L1 fr l) (s := (([] : List En), 1, 0)) (fun s => ∃ (j : Nat) (t : Int) (out : List En), s = (out, t, (j : Int)) ∧ j ≤ l.length ∧ out.length = j ∧ 1 ≤ t ∧ t ≤ 1 + j ∧ (∀ x ∈ out, EOk x ∧ x.Term ≤ 1 + l.length) ∧ ∀ k (h : k < out.length), out[k].Index = fr + k) (fun s => (l.length - s.2.2).toNat)
  (fun es => es.length = l.length ∧ (∀ x ∈ es, EOk x ∧ x.Term ≤ 1 + l.length) ∧ ∀ k (h : k < es.length), es[k].Index = fr + k) ⟨0, 1, [], rfl, by omega, rfl, by omega, by omega, by simp, by simp⟩ (by simp only; omega) (by
  rintro _ ⟨j, t, out, rfl, hj, ho, ht0, ht1, hok, hix⟩
  dsimp only [mementoseat_Entries_L1]
  by_cases h : j < l.length
  ·right
   rw [if_pos (by simpa using h), idx_at h, Option.bind_some]
   generalize hx : l[j] = x
   have hxb : 0 ≤ x ∧ x < 256 := (hx ▸ hb _ (List.getElem_mem h) : Ik .u8 x).u8
   have fin : ∀ kd dt, EOk ⟨fr + j, t + (x % 5) / 4, kd, dt⟩ → ∃ s', ((app 48 out ([(Api_Entry.mk (fr + j) (t + (x % 5) / 4) kd dt)] : (List Api_Entry))).bind fun m => (some (.go (m, t + (x % 5) / 4, ((j : Int) + 1))) : Option (Ctl (List En) (List En × Int × Int)))) = some (.go s') ∧ (∃ (j : Nat) (t : Int) (out : List En), s' = (out, t, (j : Int)) ∧ j ≤ l.length ∧ out.length = j ∧ 1 ≤ t ∧ t ≤ 1 + j ∧ (∀ x ∈ out, EOk x ∧ x.Term ≤ 1 + l.length) ∧ ∀ k (h : k < out.length), out[k].Index = fr + k) ∧ ((l.length : Int) - s'.2.2).toNat < ((l.length : Int) - j).toNat := by
    intro kd dt hk
    rw [app_of (by simp; omega) (by simp; omega), Option.bind_some]
    refine ⟨_, rfl, ⟨j + 1, _, _, rfl, h, by simp; omega, by omega, by omega, ?_, ?_⟩, by simp only; omega⟩
    ·intro y hy
     rcases List.mem_append.1 hy with hy | hy
     ·exact hok y hy
     ·simp at hy; subst hy; exact ⟨hk, by simp only; omega⟩
    ·intro k hk2
     by_cases hkj : k < out.length
     ·rw [List.getElem_append_left hkj]; exact hix k hkj
     ·rw [List.getElem_append_right (by omega)]
      simp only [List.length_append, List.length_cons, List.length_nil] at hk2
      simp only [List.getElem_singleton]
      omega
   simp only [Int.tdiv_eq_ediv_of_nonneg hxb.1, Int.tmod_eq_emod_of_nonneg hxb.1]
   rw [Int.tdiv_eq_ediv_of_nonneg (show 0 ≤ x % 5 by omega)]
   simp only [wrap8u (show 0 ≤ x / 5 by omega) (show x / 5 < 256 by omega), wrap8u (show 0 ≤ x % 5 / 4 by omega) (show x % 5 / 4 < 256 by omega), wrap64 (show -9223372036854775808 ≤ x / 5 by omega) (show x / 5 ≤ 9223372036854775807 by omega), wrap64 (show -9223372036854775808 ≤ x % 5 / 4 by omega) (show x % 5 / 4 ≤ 9223372036854775807 by omega), wrap64 (show -9223372036854775808 ≤ t + x % 5 / 4 by omega) (show t + x % 5 / 4 ≤ 9223372036854775807 by omega), wrap64 (show -9223372036854775808 ≤ fr + (j : Int) by omega) (show fr + (j : Int) ≤ 9223372036854775807 by omega), wrap64 (show -9223372036854775808 ≤ (j : Int) + 1 by omega) (show (j : Int) + 1 ≤ 9223372036854775807 by omega), wrap8u (show 0 ≤ (j : Int) by omega) (show (j : Int) < 256 by omega), Int.tmod_eq_emod_of_nonneg (show 0 ≤ x / 5 by omega)]
   by_cases e2 : x > 230
   ·simp only [e2, decide_true, if_true]
    by_cases e1 : x / 5 % 2 = 1
    ·simp only [e1, beq_self_eq_true, if_true, Option.bind_some]
     exact fin _ _ ⟨by simp only; omega, by simp only; omega, by simp, fun _ => ⟨_, _, rfl, by omega, by omega, by omega, by omega⟩⟩
    ·rw [if_neg (by simpa using e1)]
     simp only [Option.bind_some]
     exact fin _ _ ⟨by simp only; omega, by simp only; omega, by simp, fun _ => ⟨_, _, rfl, by omega, by omega, by omega, by omega⟩⟩
   ·simp only [e2, decide_false, Bool.false_eq_true, if_false]
    by_cases e1 : x / 5 % 2 = 1
    ·simp only [e1, beq_self_eq_true, if_true, Option.bind_some]
     exact fin _ _ ⟨by simp only; omega, by simp only; omega, by simp, fun k => by simp only at k; omega⟩
    ·rw [if_neg (by simpa using e1)]
     simp only [Option.bind_some]
     exact fin _ _ ⟨by simp only; omega, by simp only; omega, by simp, fun k => by simp only at k; omega⟩
  ·left
   rw [if_neg (by simpa using h)]
   exact ⟨_, rfl, by omega, hok, hix⟩)
 rw [hr]
 exact ⟨r, rfl, hp⟩
theorem keep_same {a : List En} (hl : a.length ≤ 100000) : mementoref6_SameEntries a a = some true := sameEntries_eq hl
def kR (es : List En) (b : Api_Base) (l : List En) (role lead c ap : Int) : Raft_Raft := ⟨⟨0, 1, ⟨⟨b, l⟩⟩, ⟨20, -1⟩, role, lead, c, ap, 0, 0, [], z7, z7⟩⟩
def kMsg (i t : Int) (d : List Int) : Api_Msg := ⟨7, 1, 1, 0, 20, 0, 0, 0, false, [], ⟨i, t, [0, 1, 2], d⟩, [], 0, 0, 0, 0⟩
def kAns (i : Int) : Api_Msg := ⟨6, 1, 0, 1, 20, i, 0, 0, true, [], ⟨0, 0, [], []⟩, [], 0, 0, 0, 0⟩
theorem keeps_recv {r : Raft_Raft} (h1 : r.core.group = 1) (h2 : r.core.id = 0) (h3 : r.core.hard = ⟨20, -1⟩) (i t : Int) (d : List Int) :
  raft_Raft_Recv r (kMsg i t d) = (raft_Raft_install r eOut (kMsg i t d)).bind fun (y, o) => some (o, y) := by
 obtain ⟨⟨id, gr, ⟨⟨b, l⟩⟩, ⟨hT, hV⟩, role, lead, c, ap, si, be, ye, ne, ma⟩⟩ := r
 simp only at h1 h2 h3
 cases h3
 subst h1 h2
 show _ = _
 kernel_rfl
theorem same012 : mementoref6_SameInts [0, 1, 2] [0, 1, 2] = some true := by kernel_rfl
theorem sameB {i t : Int} {d : List Int} : mementoref6_SameBase ⟨i, t, [0, 1, 2], d⟩ ⟨i, t, [0, 1, 2], d⟩ = some true := by
 unfold mementoref6_SameBase; simp only [same012]; simp
theorem k_ok {r : Raft_Raft} {o : Raft_Out} {i t n : Int} {d : List Int} (h1 : r.core.group = 1) (h2 : r.core.id = 0) (h3 : r.core.hard = ⟨20, -1⟩) (ho : o.Msgs = []) :
  raft_Raft_ok r o (kMsg i t d) true n = some ⟨[kAns n], o.Recs, o.Restore⟩ := by
 unfold raft_Raft_ok raft_Raft_send
 simp only [h1, h2, h3, ho, kMsg]
 rw [app_of (by simp) (by simp)]
 rfl
theorem k_inst1 {b : Api_Base} {es : List En} (g : GOk b es) {role lead c ap i t : Int} {d : List Int} (hi : c < i) (ht : termS b es i = t) :
  raft_Raft_install (kR es b es role lead c ap) eOut (kMsg i t d) = some (kR es b es 0 1 i ap, ⟨[kAns i], [], false⟩) := by
 unfold raft_Raft_install raft_Raft_follow
 simp only [Option.bind_some]
 rw [if_neg (show ¬ decide ((kMsg i t d).Base.Index ≤ (kR es b es role lead c ap).core.commit) = true from by show ¬ decide (i ≤ c) = true; simpa using hi)]
 rw [show (kR es b es role lead c ap).core.log.tail = ⟨b, es⟩ from rfl, show (kMsg i t d).Base.Index = i from rfl, show (kMsg i t d).Base.Term = t from rfl, rterm_eq g.i0 (by have := g.i1; omega), ht]
 simp only [Option.bind_some, beq_self_eq_true, if_true, kont_go']
 rw [k_ok rfl rfl rfl rfl]
 rfl
theorem k_inst2 {b : Api_Base} {es : List En} (g : GOk b es) {role lead c ap i t : Int} {d : List Int} (hd : d.length ≤ 20) (hi : c < i) (ht : termS b es i ≠ t) :
  raft_Raft_install (kR es b es role lead c ap) eOut (kMsg i t d) = some (kR es ⟨i, t, [0, 1, 2], d⟩ [] 0 1 i i, ⟨[kAns i], [⟨1, 3, ⟨0, 0⟩, ⟨0, 0, 0, []⟩, ⟨i, t, [0, 1, 2], d⟩⟩], true⟩) := by
 unfold raft_Raft_install raft_Raft_follow
 simp only [Option.bind_some]
 rw [if_neg (show ¬ decide ((kMsg i t d).Base.Index ≤ (kR es b es role lead c ap).core.commit) = true from by show ¬ decide (i ≤ c) = true; simpa using hi)]
 rw [show (kR es b es role lead c ap).core.log.tail = ⟨b, es⟩ from rfl, show (kMsg i t d).Base = ⟨i, t, [0, 1, 2], d⟩ from rfl, rterm_eq g.i0 (by have := g.i1; omega)]
 simp only [Option.bind_some]
 rw [if_neg (by simpa using ht)]
 have hu : rlog_under ⟨i, t, [0, 1, 2], d⟩ = some ⟨i, t, [0, 1, 2], d⟩ := under_eq (by simp only; omega) (by simp)
 unfold rlog_Log_Reset rlog_tail_Base
 rw [hu]
 simp only [Option.bind_some]
 rw [hu]
 simp only [Option.bind_some]
 rw [show eOut.Recs = [] from rfl, app_of (by simp) (by simp)]
 simp only [Option.bind_some, kont_go']
 rw [k_ok rfl rfl rfl rfl]
 rfl
theorem k_image {b : Api_Base} {es xs : List En} (g : GOk b es) {role lead c ap : Int} (hs : b.Index + es.length ≤ 1000) :
  raft_core_Image (kR xs b es role lead c ap).core = some ⟨⟨20, -1⟩, b, es⟩ := by
 have hb : rlog_tail_Base ⟨b, es⟩ = some b := base_eq g
 unfold raft_core_Image raft_core_tail
 rw [show (kR xs b es role lead c ap).core.log.tail = ⟨b, es⟩ from rfl, hb]
 simp only [Option.bind_some]
 have h0 := g.i0
 rw [rlast_eq g.i0 (by omega)]
 simp only [Option.bind_some]
 rw [wrap64 (n := b.Index + 1) (by omega) (by omega), wrap64 (n := b.Index + es.length - b.Index) (by omega) (by omega), rfrom_eq g (by omega) (by omega)]
 simp only [Option.bind_some]
 unfold fromS
 rw [show (b.Index + 1 - b.Index - 1).toNat = 0 by omega, show (b.Index + (es.length : Int) - b.Index).toNat = es.length by omega]
 simp only [List.drop_zero, List.take_length]
 rfl
theorem raftKeeps_eq {a0 : List Int} {a1 : Int} {a2 : List Int} (h0 : ∀ x ∈ a0, Ik .u8 x) (h1 : Ik .u8 a1) : mementolaw12_RaftKeeps a0 a1 a2 = some true := by
 unfold mementolaw12_RaftKeeps
 rw [known12]
 simp only [Option.bind_some, Bool.not_true, Bool.false_eq_true, if_false]
 by_cases hs : a0.length ≤ 12 ∧ 0 < a0.length ∧ a2.length ≤ 20
 ·obtain ⟨hl, hp, hd⟩ := hs
  rw [if_neg (by simp; omega), if_neg (by simp; intro h; rw [h] at hp; simp at hp)]
  simp only [Option.bind_some]
  rw [if_neg (by simp; omega)]
  obtain ⟨es, e1, e2, e3, e4⟩ := entries_tm (fr := 1) (by omega) (by omega) (show a0.length ≤ 100 by omega) h0
  rw [e1]
  simp only [Option.bind_some]
  have hn : raft_New 0 1 ⟨⟨20, -1⟩, ⟨0, 0, [0, 1, 2], []⟩, es⟩ = some (kR es ⟨0, 0, [0, 1, 2], []⟩ es 0 (-1) 0 0) := by
   unfold raft_New
   rw [rnew_eq (by simp) (by simp) (by simp) (by simp) (by omega) fun x hx => (e3 x hx).1]
   rw [show cn (0 : Int) es = es.length from cn_all fun k h => by rw [e4 k h]; omega, List.take_length]
   rfl
  rw [hn]
  simp only [Option.bind_some]
  have hu : 0 ≤ a1 ∧ a1 < 256 := by
   obtain ⟨p, q⟩ := h1
   simp [IntKind.min, IntKind.max, IntKind.signed, IntKind.bits] at p q
   omega
  obtain ⟨n, rfl⟩ : ∃ n : Nat, a1 = n := ⟨a1.toNat, by omega⟩
  rw [wrap64 (n := (n : Int)) (by omega) (by omega), show remI (n : Int) (a0.length : Int) = some ((n % a0.length : Nat) : Int) from by
   unfold remI; rw [if_neg (by omega), Int.tmod_eq_emod_of_nonneg (by omega)]; rfl]
  simp only [Option.bind_some]
  have hlt : n % a0.length < a0.length := Nat.mod_lt _ hp
  generalize n % a0.length = m at hlt
  rw [wrap64 (n := (m : Int) + 1) (by omega) (by omega), wrap64 (n := (m : Int) + 1 - 1) (by omega) (by omega), show (m : Int) + 1 - 1 = (m : Int) by omega, idx_at (show m < es.length by omega)]
  simp only [Option.bind_some]
  have g : GOk ⟨0, 0, [0, 1, 2], []⟩ es := ⟨by simp, by simp only; omega, by simp, by simp, fun x hx => (e3 x hx).1, fun k h => by rw [e4 k h]; simp only; omega⟩
  have t1 : termS ⟨0, 0, [0, 1, 2], []⟩ es ((m : Int) + 1) = es[m].Term := by
   have := termS_at (b := ⟨0, 0, [0, 1, 2], []⟩) (l := es) (k := m) (by omega)
   simpa using this
  have q1 := keeps_recv (r := kR es ⟨0, 0, [0, 1, 2], []⟩ es 0 (-1) 0 0) rfl rfl rfl ((m : Int) + 1) es[m].Term a2
  rw [k_inst1 g (by omega) t1] at q1
  change (raft_Raft_Recv _ (kMsg _ _ _)).bind _ = _
  rw [q1]
  simp only [Option.bind_some, Bool.false_eq_true, if_false, List.length_nil, List.length_cons]
  rw [if_neg (by simp), if_neg (by simp)]
  rw [show idx [kAns ((m : Int) + 1)] 0 = some (kAns ((m : Int) + 1)) from rfl]
  simp only [Option.bind_some]
  rw [if_neg (by simp [kAns]), if_neg (by simp [kAns])]
  unfold raft_core_Commit
  simp only [Option.bind_some]
  rw [if_neg (by simp [kR]), k_image g (by simp only; omega)]
  simp only [Option.bind_some]
  rw [keep_same (by omega)]
  simp only [Option.bind_some, Bool.not_true, Bool.false_eq_true, if_false]
  rw [wrap64 (n := (m : Int) + 1 + 1) (by omega) (by omega)]
  have t2 : termS ⟨0, 0, [0, 1, 2], []⟩ es ((m : Int) + 1 + 1) ≠ 19 := by
   rcases termS_ge (b := ⟨0, 0, [0, 1, 2], []⟩) (l := es) (fun x hx => (e3 x hx).1) (i := (m : Int) + 1 + 1) (by simp only; omega) with ⟨_, _, h, e⟩ | ⟨_, e⟩
   ·rw [e]
    have := (e3 _ (List.getElem_mem h)).2
    omega
   ·rw [e]; omega
  have q2 := keeps_recv (r := kR es ⟨0, 0, [0, 1, 2], []⟩ es 0 1 ((m : Int) + 1) 0) rfl rfl rfl ((m : Int) + 1 + 1) 19 a2
  rw [k_inst2 g hd (by omega) t2] at q2
  change (raft_Raft_Recv _ (kMsg _ _ _)).bind _ = _
  rw [q2]
  simp only [Option.bind_some, if_true, List.length_nil, List.length_cons]
  rw [if_pos (by simp)]
  have g2 : GOk ⟨(m : Int) + 1 + 1, 19, [0, 1, 2], a2⟩ [] := ⟨by simp only; omega, by simp only [List.length_nil]; omega, by simp, by simp only; omega, by simp, by simp⟩
  rw [k_image g2 (by simp only [List.length_nil]; omega)]
  simp only [Option.bind_some, List.length_nil]
  rw [if_pos (by simp), if_pos (by simp [kR]), sameB]
  rfl
 ·have : ((if (decide ((a0.length : Int) > 12)) then (some true) else (if ((a0.length : Int) == 0) then (some true) else (some (decide ((a2.length : Int) > 20))))) : Option Bool) = some true := by
   split
   ·rfl
   ·rename_i h; simp at h
    split
    ·rfl
    ·rename_i h'; simp at h'
     have : 0 < a0.length := List.length_pos_iff.2 h'
     simp; omega
  rw [this]
  rfl
end Go.Proofs.YtaaamoicidfgcaaGreat.Am
