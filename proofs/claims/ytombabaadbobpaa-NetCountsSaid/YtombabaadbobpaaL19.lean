/- Words under way: the pool's functions and the document's, as functions over lists. -/
import Derived.Test.YtombabaadbobpaaS19
import Derived.Test.YtombabaadbobpaaO0
namespace Go.Proofs.Ytombabaadbobpaa.Am
open Go
set_option linter.unusedVariables false

abbrev Fls := List Api_Flight
/-- Words whose bytes a machine may hold. -/
def FlOk (l : Fls) : Prop := ∀ f ∈ l, f.Bytes.length ≤ 140737488351232

theorem FlOk.nil : FlOk [] := fun f h => by cases h
theorem FlOk.app {a b : Fls} (ha : FlOk a) (hb : FlOk b) : FlOk (a ++ b) := fun f h => by
  rcases List.mem_append.1 h with h | h
  · exact ha f h
  · exact hb f h
theorem FlOk.erase {a : Fls} (ha : FlOk a) (i : Nat) : FlOk (a.eraseIdx i) := fun f h => ha f (List.mem_of_mem_eraseIdx h)
theorem FlOk.one {a : Fls} (ha : FlOk a) {i : Nat} (h : i < a.length) : FlOk [a[i]] := fun f hf => by
  simp at hf; subst hf; exact ha _ (List.getElem_mem h)

theorem nextI {i : Nat} (h : i < 1000000) : IntKind.wrap .i64 ((i : Int) + 1) = ((i + 1 : Nat) : Int) := by rw [wrap64 (by omega) (by omega)]; omega

theorem copied19_eq {f : Api_Flight} (h : f.Bytes.length ≤ 140737488351232) : net_copied f = some f := by
  have : app 1 [] f.Bytes = some f.Bytes := by unfold app; rw [if_pos ⟨by simp; omega, by simp; omega⟩]; rfl
  simp [net_copied, slices_Clone_Lbyte_byte, this]

theorem send19_eq {p : Net_Pool} {l : Fls} (hl : FlOk l) (hn : p.l.length + l.length ≤ 10000) : net_Pool_Send p l = some ⟨p.l ++ l⟩ := by
  unfold net_Pool_Send
  rw [loop_eqF (s := (0, p)) (fun s => ∃ i : Nat, i ≤ l.length ∧ s = ((i : Int), ⟨p.l ++ l.take i⟩)) (fun s => l.length - s.1.toNat) (fun _ => ⟨p.l ++ l⟩) ⟨0, by omega, by simp⟩ (by simp; omega)]
  · rfl
  rintro _ ⟨i, hi, rfl⟩
  simp only [net_Pool_Send_L1]
  by_cases hil : i < l.length
  · right
    rw [if_pos (by simpa using hil), idx_at hil, Option.bind_some, copied19_eq (hl _ (List.getElem_mem hil)), Option.bind_some, app_of (by simp; omega) (by simp; omega), Option.bind_some, nextI (by omega)]
    refine ⟨_, rfl, ⟨i + 1, hil, ?_⟩, by simp only [Int.toNat_natCast]; omega, trivial⟩
    rw [List.take_succ_eq_append_getElem hil, List.append_assoc]
  · left
    have : i = l.length := by omega
    subst this
    rw [if_neg (by simp)]
    simp [early]

theorem has19_eq (p : Net_Pool) (n : Int) : net_Pool_has p n = some (decide (0 ≤ n ∧ n < p.l.length)) := by
  unfold net_Pool_has
  by_cases h : 0 ≤ n
  · rw [if_pos (by simpa using h)]; simp [h]
  · rw [if_neg (by simpa using h)]; simp [h]

theorem delete19_eq {l : Fls} {i : Nat} (h : i < l.length) (hn : l.length ≤ 10000) : slices_Delete_Lapi_Flight_api_Flight l (i : Int) ((i + 1 : Nat) : Int) = some (l.eraseIdx i) := by
  unfold slices_Delete_Lapi_Flight_api_Flight
  have s1 : slcH l.length (i : Int) ((i + 1 : Nat) : Int) = some (i, 1) := by unfold slcH; rw [if_pos ⟨by omega, by omega, by omega⟩]; simp only [Int.toNat_natCast]; congr 2; omega
  have s2 : chkI2 ((i + 1 : Nat) : Int) (l.length : Int) l.length = some () := by unfold chkI2; rw [if_pos ⟨by omega, by omega⟩]
  have s3 : slcH l.length 0 (i : Int) = some (0, i) := by unfold slcH; rw [if_pos ⟨by omega, by omega, by omega⟩]; simp
  have s4 : slcH l.length ((i + 1 : Nat) : Int) ((l.length : Nat) : Int) = some (i + 1, l.length - (i + 1)) := by unfold slcH; rw [if_pos ⟨by omega, by omega, by omega⟩]; simp only [Int.toNat_natCast]
  have e1 : ((l.drop (i + 1)).take (l.length - (i + 1))).length = l.length - (i + 1) := by rw [List.length_take, List.length_drop]; omega
  have s5 : chkI (i + (l.length - (i + 1))) l.length = some () := by unfold chkI; rw [if_pos (by omega)]
  have s6 : slcH l.length ((i : Int) + ((l.length - (i + 1) : Nat) : Int)) ((l.length : Nat) : Int) = some (l.length - 1, 1) := by unfold slcH; rw [if_pos ⟨by omega, by omega, by omega⟩]; congr 2 <;> omega
  have hne : (((i : Nat) : Int) == ((i + 1 : Nat) : Int)) = false := by simp; omega
  rw [s1, Option.bind_some]
  simp only [s2, Option.bind_some, hne, Bool.false_eq_true, if_false, s3, s4, e1, s5, s6]
  congr 1
  unfold fillL
  have e2 : i + (l.length - (i + 1)) = l.length - 1 := by omega
  rw [e2, List.take_of_length_le (l := l.drop (i + 1)) (by rw [List.length_drop]; omega), List.eraseIdx_eq_take_drop_succ]
  have e3 : (l.take i ++ l.drop (i + 1)).length = l.length - 1 := by simp; omega
  rw [List.append_assoc, List.take_append_of_le_length (by rw [List.length_take, List.length_append, e3, List.length_drop]; omega), List.take_take, Nat.min_self, List.take_append_of_le_length (by omega), List.take_of_length_le (by omega)]

theorem take19_in {p : Net_Pool} {i : Nat} (h : i < p.l.length) (hn : p.l.length ≤ 10000) : net_Pool_Take p (i : Int) = some (p.l[i], true, ⟨p.l.eraseIdx i⟩) := by
  unfold net_Pool_Take
  have hd : decide (0 ≤ (i : Int) ∧ (i : Int) < p.l.length) = true := decide_eq_true ⟨by omega, by omega⟩
  rw [has19_eq, Option.bind_some, hd, Bool.not_true, if_neg (by simp), idx_at h, Option.bind_some, nextI (by omega), delete19_eq h hn]
  rfl
theorem take19_out {p : Net_Pool} {n : Int} (h : ¬ (0 ≤ n ∧ n < p.l.length)) : net_Pool_Take p n = some (⟨0, 0, []⟩, false, p) := by
  unfold net_Pool_Take
  rw [has19_eq, Option.bind_some, decide_eq_false h]
  rfl
theorem twice19_in {p : Net_Pool} {i : Nat} (h : i < p.l.length) (hok : FlOk p.l) (hn : p.l.length ≤ 9000) : net_Pool_Twice p (i : Int) = some (true, ⟨p.l ++ [p.l[i]]⟩) := by
  unfold net_Pool_Twice
  have hd : decide (0 ≤ (i : Int) ∧ (i : Int) < p.l.length) = true := decide_eq_true ⟨by omega, by omega⟩
  rw [has19_eq, Option.bind_some, hd, Bool.not_true, if_neg (by simp), idx_at h, Option.bind_some, send19_eq (hok.one h) (by simp; omega)]
  rfl
theorem twice19_out {p : Net_Pool} {n : Int} (h : ¬ (0 ≤ n ∧ n < p.l.length)) : net_Pool_Twice p n = some (false, p) := by
  unfold net_Pool_Twice
  rw [has19_eq, Option.bind_some, decide_eq_false h]
  rfl
theorem all19_eq {p : Net_Pool} (hok : FlOk p.l) (hn : p.l.length ≤ 10000) : net_Pool_All p = some p.l := by
  unfold net_Pool_All
  rw [loop_eqF (s := ([], 0)) (fun s => ∃ i : Nat, i ≤ p.l.length ∧ s = (p.l.take i, (i : Int))) (fun s => p.l.length - s.2.toNat) (fun _ => p.l) ⟨0, by omega, by simp⟩ (by simp; omega)]
  · rfl
  rintro _ ⟨i, hi, rfl⟩
  simp only [net_Pool_All_L1]
  by_cases hil : i < p.l.length
  · right
    rw [if_pos (by simpa using hil), idx_at hil, Option.bind_some, copied19_eq (hok _ (List.getElem_mem hil)), Option.bind_some, app_of (by simp; omega) (by simp; omega), Option.bind_some, nextI (by omega)]
    refine ⟨_, rfl, ⟨i + 1, hil, ?_⟩, by simp only [Int.toNat_natCast]; omega, trivial⟩
    rw [List.take_succ_eq_append_getElem hil]
  · left
    have : i = p.l.length := by omega
    subst this
    rw [if_neg (by simp)]
    simp [early]

/-! the document's -/

theorem rsend19_eq {p : Mementoref20_Pool} {l : Fls} (hn : p.L.length + l.length ≤ 10000) : mementoref20_Pool_Send p l = some ⟨p.L ++ l⟩ := by
  unfold mementoref20_Pool_Send
  rw [app_of (by simp; omega) (by simp; omega), Option.bind_some, List.nil_append, app_of (by omega) (by omega)]
  rfl
theorem out19 {L : Fls} {n : Int} : ((if decide (n < 0) = true then some true else some (decide (n ≥ (L.length : Int)))) : Option Bool) = some (!decide (0 ≤ n ∧ n < L.length)) := by
  by_cases h : n < 0
  · rw [if_pos (by simpa using h)]; congr 1; symm; simp; omega
  · rw [if_neg (by simpa using h)]; congr 1
    by_cases h2 : n < L.length
    · rw [decide_eq_true (p := 0 ≤ n ∧ n < L.length) ⟨by omega, h2⟩]; simp; omega
    · rw [decide_eq_false (p := 0 ≤ n ∧ n < L.length) (fun e => h2 e.2)]; simp; omega
theorem rtake19_in {p : Mementoref20_Pool} {i : Nat} (h : i < p.L.length) (hn : p.L.length ≤ 10000) : mementoref20_Pool_Take p (i : Int) = some (p.L[i], true, ⟨p.L.eraseIdx i⟩) := by
  unfold mementoref20_Pool_Take
  have hd : decide (0 ≤ (i : Int) ∧ (i : Int) < p.L.length) = true := decide_eq_true ⟨by omega, by omega⟩
  have z0 : ((0 : Nat) : Int) = 0 := rfl
  rw [out19, Option.bind_some, hd, Bool.not_true, if_neg (by simp), idx_at h, Option.bind_some, ← z0, slc_nat _ (by omega) (by omega), Option.bind_some, app_of (by simp; omega) (by simp; omega), Option.bind_some, nextI (by omega), slc_nat _ (by omega) (by omega), Option.bind_some, app_of (by simp; omega) (by simp; omega)]
  simp [List.eraseIdx_eq_take_drop_succ]
theorem rtake19_out {p : Mementoref20_Pool} {n : Int} (h : ¬ (0 ≤ n ∧ n < p.L.length)) : mementoref20_Pool_Take p n = some (⟨0, 0, []⟩, false, p) := by
  unfold mementoref20_Pool_Take
  rw [out19, Option.bind_some, decide_eq_false h]
  rfl
theorem rtwice19_in {p : Mementoref20_Pool} {i : Nat} (h : i < p.L.length) (hn : p.L.length ≤ 9000) : mementoref20_Pool_Twice p (i : Int) = some (true, ⟨p.L ++ [p.L[i]]⟩) := by
  unfold mementoref20_Pool_Twice
  have hd : decide (0 ≤ (i : Int) ∧ (i : Int) < p.L.length) = true := decide_eq_true ⟨by omega, by omega⟩
  rw [out19, Option.bind_some, hd, Bool.not_true, if_neg (by simp), idx_at h, Option.bind_some, rsend19_eq (by simp; omega)]
  rfl
theorem rtwice19_out {p : Mementoref20_Pool} {n : Int} (h : ¬ (0 ≤ n ∧ n < p.L.length)) : mementoref20_Pool_Twice p n = some (false, p) := by
  unfold mementoref20_Pool_Twice
  rw [out19, Option.bind_some, decide_eq_false h]
  rfl
theorem same19 {l : Fls} (hn : l.length ≤ 10000) : mementoref20_SameFlights l l = some true := by
  unfold mementoref20_SameFlights
  rw [if_neg (by simp)]
  rw [loop_eqF (s := 0) (fun s => ∃ i : Nat, i ≤ l.length ∧ s = (i : Int)) (fun s => l.length - s.toNat) (fun _ => .go ()) ⟨0, by omega, rfl⟩ (by simp; omega)]
  · rfl
  rintro _ ⟨i, hi, rfl⟩
  simp only [mementoref20_SameFlights_L1]
  by_cases hil : i < l.length
  · right
    rw [if_pos (by simpa using hil), idx_at hil]
    simp only [Option.bind_some, bne_self_eq_false, Bool.false_eq_true, if_false]
    rw [nextI (by omega)]
    exact ⟨_, rfl, ⟨i + 1, hil, rfl⟩, by simp only [Int.toNat_natCast]; omega, trivial⟩
  · left
    have : i = l.length := by omega
    subst this
    rw [if_neg (by simp)]
    rfl

theorem known19_eq : mementolaw19_known = some true := by
  have a1 : FlOk [⟨1, 2, [97]⟩, ⟨2, 1, []⟩] := fun f hf => by
    simp at hf; rcases hf with rfl | rfl <;> simp
  unfold mementolaw19_known
  have e0 : net_New = some ⟨[]⟩ := rfl
  have e1 := send19_eq (p := ⟨[]⟩) a1 (by simp)
  have e2 := twice19_in (p := ⟨[⟨1, 2, [97]⟩, ⟨2, 1, []⟩]⟩) (i := 0) (by simp) a1 (by simp)
  have e3 := take19_in (p := ⟨[⟨1, 2, [97]⟩, ⟨2, 1, []⟩, ⟨1, 2, [97]⟩]⟩) (i := 0) (by simp) (by simp)
  have e4 := take19_out (p := ⟨[⟨2, 1, []⟩, ⟨1, 2, [97]⟩]⟩) (n := 9) (by simp)
  have e5 := twice19_out (p := ⟨[⟨2, 1, []⟩, ⟨1, 2, [97]⟩]⟩) (n := -1) (by simp)
  have e6 := all19_eq (p := ⟨[⟨2, 1, []⟩, ⟨1, 2, [97]⟩]⟩) (fun f hf => by simp at hf; rcases hf with rfl | rfl <;> simp) (by simp)
  simp only [List.nil_append, List.cons_append, List.getElem_cons_zero, List.eraseIdx_cons_zero, Int.natCast_zero] at e1 e2 e3 e4 e5 e6
  simp only [e0, e1, e2, e3, e4, e5, e6, Option.bind_some]
  rfl

/-- A step of the pool is the document's. -/
theorem netPlays_eq {l : List Mementolaw19_Act} (hok : ∀ x ∈ l, FlOk x.F) : mementolaw19_NetPlays l = some true := by
  unfold mementolaw19_NetPlays
  rw [known19_eq, Option.bind_some, Bool.not_true, if_neg (by simp)]
  by_cases hl : l.length > 60
  · rw [if_pos (by simp; omega)]
  rw [if_neg (by simp; omega)]
  have e0 : net_New = some ⟨[]⟩ := rfl
  rw [e0, Option.bind_some]
  suffices key : ∃ t, loopN (mementolaw19_NetPlays_L1 l) fuel (0, ⟨[]⟩, ⟨[]⟩) = some t ∧ (t = .ret true ∨ ∃ s, t = .go s) by
    obtain ⟨t, ht, hq⟩ := key
    rw [ht]
    rcases hq with rfl | ⟨s, rfl⟩
    · rfl
    · rfl
  refine loop_QF (fun s => ∃ (i : Nat) (q : Fls), i ≤ l.length ∧ s = ((i : Int), ⟨q⟩, ⟨q⟩) ∧ FlOk q ∧ q.length ≤ 5 * i) (fun s => l.length - s.1.toNat) _ ⟨0, [], by omega, rfl, .nil, by simp⟩ (by simp; omega) ?_
  rintro _ ⟨i, q, hi, rfl, hq, hlen⟩
  simp only [mementolaw19_NetPlays_L1]
  by_cases hil : i < l.length
  · have hF := hok _ (List.getElem_mem hil)
    rw [if_pos (by simpa using hil), idx_at hil, Option.bind_some]
    generalize l[i] = x at *
    by_cases h5 : x.F.length > 5
    · left
      rw [if_pos (by simp; omega)]
      exact ⟨_, rfl, .inl rfl⟩
    right
    rw [if_neg (by simp; omega)]
    have fin : ∀ q' : Fls, FlOk q' → q'.length ≤ 5 * (i + 1) → ∃ s', (((net_Pool_Len ⟨q'⟩).bind fun y191 => (if (y191 != ((⟨q'⟩ : Mementoref20_Pool).L.length : Int)) then (some true) else ((net_Pool_All ⟨q'⟩).bind fun y194 => ((mementoref20_SameFlights y194 (⟨q'⟩ : Mementoref20_Pool).L).bind fun y196 => (some (!y196)))))).bind fun t109 => (if t109 then (early (early (some false))) else (some (.go ((IntKind.wrap .i64 ((i : Int) + 1)), (⟨q'⟩ : Net_Pool), (⟨q'⟩ : Mementoref20_Pool))))) : Option (Ctl (Ctl Bool (Net_Pool × Mementoref20_Pool)) (Int × Net_Pool × Mementoref20_Pool))) = some (.go s') ∧
        (∃ (i : Nat) (q : Fls), i ≤ l.length ∧ s' = ((i : Int), ⟨q⟩, ⟨q⟩) ∧ FlOk q ∧ q.length ≤ 5 * i) ∧ l.length - s'.1.toNat < l.length - ((i : Int)).toNat := fun q' h1 h2 => by
      refine ⟨(((i + 1 : Nat) : Int), ⟨q'⟩, ⟨q'⟩), ?_, ⟨i + 1, q', hil, rfl, h1, h2⟩, by simp only [Int.toNat_natCast]; omega⟩
      have hA := all19_eq (p := ⟨q'⟩) h1 (by simp only; omega)
      have hS := same19 (l := q') (by omega)
      simp only [net_Pool_Len, Option.bind_some, bne_self_eq_false, Bool.false_eq_true, if_false, hA, hS, Bool.not_true]
      rw [nextI (by omega)]
    have hN : ∃ N : Int, (if decide (Int.tmod (i : Int) 4 > 0) = true then some (Go.bits .and .i64 x.N 7) else some x.N) = some N := by split <;> exact ⟨_, rfl⟩
    obtain ⟨N, hN⟩ := hN
    rw [hN, Option.bind_some]
    have h012 : ∃ c : Bool, (if (Int.tmod x.What 6 == 0) = true then some (Int.tmod x.What 6 == 0) else if (Int.tmod x.What 6 == 1) = true then some (Int.tmod x.What 6 == 1) else some (Int.tmod x.What 6 == 2)) = some c := by
      split
      · exact ⟨_, rfl⟩
      · split <;> exact ⟨_, rfl⟩
    obtain ⟨c, hc⟩ := h012
    rw [hc, Option.bind_some]
    cases c with
    | true =>
      rw [if_pos rfl]
      have hS := send19_eq (p := ⟨q⟩) hF (by simp only; omega)
      have hR := rsend19_eq (p := ⟨q⟩) (l := x.F) (by simp only; omega)
      simp only [hS, hR, Option.bind_some, kont_go']
      exact fin (q ++ x.F) (hq.app hF) (by rw [List.length_append]; omega)
    | false =>
      rw [if_neg (by simp)]
      have h34 : ∃ c : Bool, (if (Int.tmod x.What 6 == 3) = true then some (Int.tmod x.What 6 == 3) else some (Int.tmod x.What 6 == 4)) = some c := by split <;> exact ⟨_, rfl⟩
      obtain ⟨c2, hc2⟩ := h34
      rw [hc2, Option.bind_some]
      by_cases hin : 0 ≤ N ∧ N < q.length
      · obtain ⟨k, rfl⟩ : ∃ k : Nat, N = k := ⟨N.toNat, by omega⟩
        have hk : k < q.length := by omega
        have hT := take19_in (p := ⟨q⟩) (i := k) hk (by simp only; omega)
        have hR := rtake19_in (p := ⟨q⟩) (i := k) hk (by simp only; omega)
        have hW := twice19_in (p := ⟨q⟩) (i := k) hk hq (by simp only; omega)
        have hX := rtwice19_in (p := ⟨q⟩) (i := k) hk (by simp only; omega)
        cases c2 with
        | true =>
          rw [if_pos rfl]
          simp only [hT, hR, Option.bind_some, bne_self_eq_false, Bool.false_eq_true, if_false, same19 (l := [q[k]]) (by simp), Bool.not_true, kont_go']
          exact fin (q.eraseIdx k) (hq.erase k) (by rw [List.length_eraseIdx]; split <;> omega)
        | false =>
          rw [if_neg (by simp)]
          simp only [hW, hX, Option.bind_some, bne_self_eq_false, Bool.false_eq_true, if_false, kont_go']
          exact fin (q ++ [q[k]]) (hq.app (hq.one hk)) (by simp; omega)
      · have hT := take19_out (p := ⟨q⟩) (n := N) hin
        have hR := rtake19_out (p := ⟨q⟩) (n := N) hin
        have hW := twice19_out (p := ⟨q⟩) (n := N) hin
        have hX := rtwice19_out (p := ⟨q⟩) (n := N) hin
        cases c2 with
        | true =>
          rw [if_pos rfl]
          simp only [hT, hR, Option.bind_some, bne_self_eq_false, Bool.false_eq_true, if_false, same19 (l := [(⟨0, 0, []⟩ : Api_Flight)]) (by simp), Bool.not_true, kont_go']
          exact fin q hq (by omega)
        | false =>
          rw [if_neg (by simp)]
          simp only [hW, hX, Option.bind_some, bne_self_eq_false, Bool.false_eq_true, if_false, kont_go']
          exact fin q hq (by omega)
  · left
    rw [if_neg (by simp; omega)]
    exact ⟨_, rfl, .inr ⟨_, rfl⟩⟩

end Go.Proofs.Ytombabaadbobpaa.Am
