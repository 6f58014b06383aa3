/- A log: what follows, what is made of it, and what is alike. -/
import Derived.Test.YtbjleolchcajkaaL9e
namespace Go.Proofs.Ytbjleolchcajkaa.Am
open Go
set_option linter.unusedVariables false
set_option linter.unusedSimpArgs false

theorem kont_to {E S : Type} {c : Option (Ctl E S)} {f : S → Option E} {e : E} {s : S} (h : c = some (.go s)) (h2 : f s = some e) : kont c f = some e := by subst h; exact h2
theorem kont_re {E S : Type} {c : Option (Ctl E S)} {f : S → Option E} {e : E} (h : c = some (.ret e)) : kont c f = some e := by subst h; rfl
theorem wrap8u {n : Int} (h0 : 0 ≤ n) (h1 : n < 256) : IntKind.u8.wrap n = n := wrapU rfl h0 (by
  have : (2 : Int) ^ IntKind.u8.bits = 256 := by decide
  omega)

/-- How many of them are there already. -/
def nm (b : Api_Base) (l : List En) : Int → List En → Nat
  | _, [] => 0
  | p, e :: es => if termS b l (p + 1) = e.Term then nm b l (p + 1) es + 1 else 0
theorem nm_le {b : Api_Base} {l : List En} : ∀ {p : Int} {es : List En}, nm b l p es ≤ es.length
  | _, [] => Nat.le_refl _
  | p, e :: es => by
    unfold nm
    split
    · have := nm_le (b := b) (l := l) (p := p + 1) (es := es); simp; omega
    · omega
theorem nm_fits {b : Api_Base} {l : List En} (hl : ∀ x ∈ l, EOk x) : ∀ {p : Int} {es : List En}, (∀ x ∈ es, EOk x) → b.Index ≤ p → p ≤ b.Index + l.length → p + nm b l p es ≤ b.Index + l.length
  | _, [], _, _, h => by unfold nm; omega
  | p, e :: es, he, h1, h2 => by
    unfold nm
    split
    · rename_i ht
      have e0 := (he e (by simp)).t0
      rcases termS_ge (b := b) (l := l) hl (i := p + 1) (by omega) with h | h
      · have := nm_fits hl (p := p + 1) (es := es) (fun x hx => he x (by simp [hx])) (by omega) h.1
        omega
      · rw [h.2] at ht; omega
    · omega
/-- A log behind what it follows. -/
def foL (b : Api_Base) (l : List En) (p : Int) (es : List En) : List En := if nm b l p es = es.length then l else l.take (p + nm b l p es - b.Index).toNat ++ es.drop (nm b l p es)

theorem rl1_eq {b : Api_Base} {l : List En} (h0 : 0 ≤ b.Index) (h1 : b.Index ≤ 10000) {p : Int} {es : List En} (hp : 0 ≤ p) (hp2 : p ≤ b.Index) (hes : es.length ≤ 10000) :
    loopN (rlog_Log_Follow_L1 ⟨⟨b, l⟩⟩) fuel (p, es) = some (es.drop (b.Index - p).toNat) := by
  rw [loop_eqF (s := (p, es)) (fun s => 0 ≤ s.1 ∧ s.1 ≤ b.Index) (fun s => s.2.length) (fun s => s.2.drop (b.Index - s.1).toNat) ⟨hp, hp2⟩ (by simp only; omega)]
  rintro ⟨p, es⟩ ⟨g0, g1⟩
  simp only at g0 g1
  simp only [rlog_Log_Follow_L1]
  cases es with
  | nil => left; simp [early]
  | cons e es =>
    rw [if_pos (by simp), Option.bind_some]
    by_cases h : p < b.Index
    · right
      rw [if_pos (by simpa using h)]
      have := slc_nat (e :: es) (a := 1) (b := (e :: es).length) (by simp) (by omega)
      rw [show (1 : Int) = ((1 : Nat) : Int) by rfl, this, Option.bind_some]
      rw [wrap64 (by omega) (by omega)]
      refine ⟨_, rfl, ⟨by simp only; omega, by simp only; omega⟩, by simp, ?_⟩
      have e1 : (b.Index - p).toNat = (b.Index - (p + 1)).toNat + 1 := by omega
      simp only [List.take_length, List.drop_succ_cons, List.drop_zero, e1]
      rfl
    · left
      rw [if_neg (by simpa using h)]
      have : (b.Index - p).toNat = 0 := by omega
      rw [this]
      rfl

theorem rl2_eq {b : Api_Base} {l : List En} (h0 : 0 ≤ b.Index) (h1 : b.Index + l.length ≤ 10000) {p : Int} {es : List En} (hp : 0 ≤ p) (hp2 : p + es.length ≤ 100000) :
    loopN (rlog_Log_Follow_L2 ⟨⟨b, l⟩⟩) fuel (p, es) = some (p + nm b l p es, es.drop (nm b l p es)) := by
  rw [loop_eqF (s := (p, es)) (fun s : Int × List En => 0 ≤ s.1 ∧ s.1 + (s.2.length : Int) ≤ 100000) (fun s => s.2.length) (fun s => (s.1 + (nm b l s.1 s.2 : Int), s.2.drop (nm b l s.1 s.2))) ⟨hp, hp2⟩ (by simp only; omega)]
  rintro ⟨p, es⟩ ⟨g0, g1⟩
  simp only at g0 g1
  simp only [rlog_Log_Follow_L2]
  cases es with
  | nil => left; simp [early, nm]
  | cons e es =>
    have i0 : idx (e :: es) 0 = some e := rfl
    simp only [List.length_cons] at g1
    rw [if_pos (by simp), wrap64 (by omega) (by omega), rterm_eq h0 (by omega), i0]
    simp only [Option.bind_some, beq_iff_eq]
    by_cases h : termS b l (p + 1) = e.Term
    · right
      rw [if_pos h]
      have := slc_nat (e :: es) (a := 1) (b := (e :: es).length) (by simp) (by omega)
      rw [show (1 : Int) = ((1 : Nat) : Int) by rfl, this, Option.bind_some]
      have e1 : nm b l p (e :: es) = nm b l (p + 1) es + 1 := by rw [nm, if_pos h]
      refine ⟨_, rfl, ⟨by simp only [Int.natCast_one]; omega, by simp only [List.take_length, List.drop_succ_cons, List.drop_zero, Int.natCast_one]; omega⟩, by simp, ?_⟩
      simp only [List.take_length, List.drop_succ_cons, List.drop_zero, e1, Int.natCast_one]
      rw [show p + 1 + ((nm b l (p + 1) es : Nat) : Int) = p + ((nm b l (p + 1) es + 1 : Nat) : Int) by omega]
    · left
      rw [if_neg h]
      have e1 : nm b l p (e :: es) = 0 := by rw [nm, if_neg h]
      simp [early, e1]

theorem rfollow_eq {b : Api_Base} {l : List En} (g : GOk b l) {prev term : Int} {es : List En} (he : ∀ x ∈ es, EOk x) (hes : es.length ≤ 1000) (h0 : 0 ≤ prev)
    (hok : prev < b.Index ∨ b.Index ≤ prev ∧ prev ≤ b.Index + l.length ∧ termS b l prev = term) {p : Int} {es' : List En} (hp : p = if prev < b.Index then b.Index else prev) (he' : es' = es.drop (b.Index - prev).toNat) :
    rlog_Log_Follow ⟨⟨b, l⟩⟩ prev term es = some (es'.drop (nm b l p es'), p + es'.length, true, ⟨⟨b, foL b l p es'⟩⟩) := by
  obtain ⟨i0, i1, cf, dt, ge, ix⟩ := g
  have hl' : es'.length ≤ 1000 := by rw [he', List.length_drop]; omega
  have hep : ∀ x ∈ es', EOk x := fun x hx => he x (by rw [he'] at hx; exact List.mem_of_mem_drop hx)
  have hp0 : b.Index ≤ p ∧ p ≤ b.Index + l.length := by rw [hp]; split <;> omega
  unfold rlog_Log_Follow
  refine kont_to (s := (p, es')) ?_ ?_
  · by_cases h : prev < b.Index
    · rw [if_pos (by simpa using h), rl1_eq i0 (by omega) h0 (by omega) (by omega), Option.bind_some, hp, if_pos h, he']
    · rw [if_neg (by simpa using h), rterm_eq i0 (by omega), Option.bind_some]
      obtain ⟨h1, h2, h3⟩ : b.Index ≤ prev ∧ prev ≤ b.Index + l.length ∧ termS b l prev = term := by
        rcases hok with h' | h'
        · exact absurd h' h
        · exact h'
      rw [if_neg (by simp [h3]), hp, if_neg h, he', show (b.Index - prev).toNat = 0 by omega]
      rfl
  · simp only
    rw [rl2_eq i0 i1 (by omega) (by omega), Option.bind_some]
    simp only
    have hn := nm_le (b := b) (l := l) (p := p) (es := es')
    have hf := nm_fits ge hep hp0.1 hp0.2
    rw [wrap64 (n := p + es'.length) (by omega) (by omega)]
    unfold foL
    by_cases h : nm b l p es' = es'.length
    · rw [if_pos (by simp [h]), if_pos h, h, List.drop_length]
    · rw [if_neg (by simp only [List.length_drop, beq_iff_eq]; omega), if_neg h]
      rw [wrap64 (by omega) (by omega)]
      obtain ⟨q, hq⟩ : ∃ q : Nat, p + (nm b l p es' : Nat) - b.Index = q := ⟨(p + (nm b l p es' : Nat) - b.Index).toNat, by omega⟩
      have := slc_nat l (a := 0) (b := q) (by omega) (by omega)
      rw [hq, show (0 : Int) = ((0 : Nat) : Int) by rfl, this, Option.bind_some, List.drop_zero, all_eq (by rw [List.length_drop]; omega) (fun x hx => (hep x (List.mem_of_mem_drop hx)).d), Option.bind_some, app_of (by rw [List.length_take, List.length_drop]; omega) (by rw [List.length_take, List.length_drop]; omega), Option.bind_some, Int.toNat_natCast]

theorem rfollow_no {b : Api_Base} {l : List En} (g : GOk b l) {prev term : Int} {es : List En} (h : b.Index ≤ prev) (ht : termS b l prev ≠ term) : rlog_Log_Follow ⟨⟨b, l⟩⟩ prev term es = some ([], 0, false, ⟨⟨b, l⟩⟩) := by
  unfold rlog_Log_Follow
  apply kont_re
  have := g.i1
  rw [if_neg (by simpa using h), rterm_eq g.i0 (by omega), Option.bind_some, if_pos (by simpa using ht)]
  rfl
theorem wfollow_no {b : Api_Base} {l : List En} (g : GOk b l) {prev term : Int} {es : List En} (h : b.Index ≤ prev) (ht : termS b l prev ≠ term) : mementoref6_Log_Follow ⟨b, l⟩ prev term es = some ([], 0, false, ⟨b, l⟩) := by
  unfold mementoref6_Log_Follow
  apply kont_re
  have := g.i1
  rw [if_neg (by simpa using h), wterm_eq g.i0 (by omega), Option.bind_some, if_pos (by simpa using ht)]
  rfl

theorem wl1_eq {b : Api_Base} {l : List En} (i0 : 0 ≤ b.Index) (i1 : b.Index + l.length ≤ 10000) (ge : ∀ x ∈ l, EOk x) {p : Int} {es : List En} (he : ∀ x ∈ es, EOk x) (hes : es.length ≤ 1000) (hp0 : b.Index ≤ p) (hp1 : p ≤ b.Index + l.length) :
    loopN (mementoref6_Log_Follow_L1 ⟨b, l⟩ p es) fuel 0 = some (if nm b l p es = es.length then .go () else .ret (es.drop (nm b l p es), p + es.length, true, ⟨b, l.take (p + nm b l p es - b.Index).toNat ++ es.drop (nm b l p es)⟩)) := by
  have hf := nm_fits ge he hp0 hp1
  have hn := nm_le (b := b) (l := l) (p := p) (es := es)
  rw [loop_eqF (s := 0) (fun s => ∃ j : Nat, s = (j : Int) ∧ j ≤ nm b l p es ∧ nm b l p es = j + nm b l (p + j) (es.drop j)) (fun s => es.length - s.toNat) (fun _ => if nm b l p es = es.length then .go () else .ret (es.drop (nm b l p es), p + es.length, true, ⟨b, l.take (p + nm b l p es - b.Index).toNat ++ es.drop (nm b l p es)⟩)) ⟨0, rfl, by omega, by simp⟩ (by simp; omega)]
  rintro _ ⟨j, rfl, hj, hnj⟩
  simp only [mementoref6_Log_Follow_L1]
  by_cases h : j < es.length
  · have hd : es.drop j = es[j] :: es.drop (j + 1) := List.drop_eq_getElem_cons h
    rw [if_pos (by simpa using h), wrap64 (n := p + 1) (by omega) (by omega), wrap64 (by omega) (by omega), wterm_eq i0 (by omega), Option.bind_some, idx_at h, Option.bind_some, show p + 1 + (j : Int) = p + j + 1 by omega]
    rw [hd, nm] at hnj
    by_cases e : termS b l (p + j + 1) = es[j].Term
    · right
      rw [if_pos e] at hnj
      rw [if_neg (by simp [e]), wrap_nat (by omega)]
      exact ⟨_, rfl, ⟨j + 1, rfl, by omega, by rw [show p + ((j + 1 : Nat) : Int) = p + j + 1 by omega]; omega⟩, by simp only [Int.toNat_natCast]; omega, by first | trivial | rfl⟩
    · left
      rw [if_neg e] at hnj
      have hnj' : nm b l p es = j := by omega
      rw [if_pos (by simp [e]), if_neg (by omega), hnj', wrap64 (n := p + j) (by omega) (by omega), wrap64 (n := p + j - b.Index) (by omega) (by omega), wrap64 (n := p + es.length) (by omega) (by omega)]
      obtain ⟨q, hq⟩ : ∃ q : Nat, p + (j : Int) - b.Index = q := ⟨(p + (j : Int) - b.Index).toNat, by omega⟩
      have s1 := slc_nat l (a := 0) (b := q) (by omega) (by omega)
      rw [hq, show (0 : Int) = ((0 : Nat) : Int) by rfl, s1, Option.bind_some, List.drop_zero, app_of (by simp; omega) (by simp; omega), Option.bind_some, slc_nat _ (by omega) (by omega), Option.bind_some, List.take_length, List.nil_append, app_of (by rw [List.length_take, List.length_drop]; omega) (by rw [List.length_take, List.length_drop]; omega), Option.bind_some, app_of (by simp; omega) (by simp; omega), Option.bind_some, List.nil_append]
      rfl
  · left
    have : nm b l p es = es.length := by omega
    rw [if_neg (by simpa using h), if_pos this]
    rfl

theorem wfollow_eq {b : Api_Base} {l : List En} (g : GOk b l) {prev term : Int} {es : List En} (he : ∀ x ∈ es, EOk x) (hes : es.length ≤ 1000) (h0 : 0 ≤ prev)
    (hok : prev < b.Index ∨ b.Index ≤ prev ∧ prev ≤ b.Index + l.length ∧ termS b l prev = term) {p : Int} {es' : List En} (hp : p = if prev < b.Index then b.Index else prev) (he' : es' = es.drop (b.Index - prev).toNat) :
    mementoref6_Log_Follow ⟨b, l⟩ prev term es = some (es'.drop (nm b l p es'), p + es'.length, true, ⟨b, foL b l p es'⟩) := by
  obtain ⟨i0, i1, cf, dt, ge, ix⟩ := g
  have hl' : es'.length ≤ 1000 := by rw [he', List.length_drop]; omega
  have hep : ∀ x ∈ es', EOk x := fun x hx => he x (by rw [he'] at hx; exact List.mem_of_mem_drop hx)
  have hp0 : b.Index ≤ p ∧ p ≤ b.Index + l.length := by rw [hp]; split <;> omega
  unfold mementoref6_Log_Follow
  by_cases hsk : prev < b.Index ∧ b.Index - prev ≥ es.length
  · apply kont_re
    have : es' = [] := by rw [he', List.drop_of_length_le (by omega)]
    rw [if_pos (by simpa using hsk.1), show maxI prev (-1) = prev by unfold maxI; split <;> omega, wrap64 (by simp only; omega) (by simp only; omega), if_pos (by simpa using hsk.2), this, hp, if_pos hsk.1]
    simp [early, nm, foL]
  refine kont_to (s := (p, es')) ?_ ?_
  · by_cases h : prev < b.Index
    · have hsk' : b.Index - prev < es.length := by omega
      obtain ⟨q, hq⟩ : ∃ q : Nat, b.Index - prev = q := ⟨(b.Index - prev).toNat, by omega⟩
      rw [if_pos (by simpa using h), show maxI prev (-1) = prev by unfold maxI; split <;> omega, wrap64 (by simp only; omega) (by simp only; omega), if_neg (by simpa using hsk')]
      simp only
      rw [hq, slc_nat _ (by omega) (by omega), Option.bind_some, List.take_length, hp, if_pos h, he', hq, Int.toNat_natCast]
    · rw [if_neg (by simpa using h), wterm_eq i0 (by omega), Option.bind_some]
      obtain ⟨h1, h2, h3⟩ : b.Index ≤ prev ∧ prev ≤ b.Index + l.length ∧ termS b l prev = term := by
        rcases hok with h' | h'
        · exact absurd h' h
        · exact h'
      rw [if_neg (by simp [h3]), hp, if_neg h, he', show (b.Index - prev).toNat = 0 by omega]
      rfl
  · simp only
    rw [wl1_eq i0 i1 ge hep hl' hp0.1 hp0.2]
    unfold foL
    by_cases h : nm b l p es' = es'.length
    · rw [if_pos h, if_pos h, h, List.drop_length, kont_go', wrap64 (by omega) (by omega)]
    · rw [if_neg h, if_neg h, kont_ret]

/-- How many of them go on from there. -/
def cn : Int → List En → Nat
  | _, [] => 0
  | i, e :: es => if e.Index = i + 1 then cn (i + 1) es + 1 else 0
theorem cn_le : ∀ {i : Int} {es : List En}, cn i es ≤ es.length
  | _, [] => Nat.le_refl _
  | i, e :: es => by
    unfold cn
    split
    · have := cn_le (i := i + 1) (es := es); simp; omega
    · omega
theorem cn_ix : ∀ {i : Int} {es : List En} {k : Nat} (h : k < cn i es) (h2 : k < es.length), es[k].Index = i + k + 1
  | _, [], _, _, h => by simp at h
  | i, e :: es, k, h, h2 => by
    unfold cn at h
    split at h
    · rename_i ht
      cases k with
      | zero => simpa using ht
      | succ k =>
        have := cn_ix (i := i + 1) (es := es) (k := k) (by omega) (by simpa using h2)
        simp only [List.getElem_cons_succ, this]
        omega
    · omega
theorem cn_drop {i : Int} {es : List En} {j : Nat} (h : j < es.length) : cn (i + j) (es.drop j) = if es[j].Index = i + j + 1 then cn (i + ((j + 1 : Nat) : Int)) (es.drop (j + 1)) + 1 else 0 := by
  rw [List.drop_eq_getElem_cons h, cn, show i + (j : Int) + 1 = i + ((j + 1 : Nat) : Int) by omega]

theorem rnew_eq {b : Api_Base} {es : List En} (h0 : 0 ≤ b.Index) (h1 : b.Index ≤ 10000) (hd : b.Data.length ≤ 100000) (hc : b.Conf.length ≤ 100000) (hes : es.length ≤ 1000) (he : ∀ x ∈ es, EOk x) : rlog_New b es = some ⟨⟨b, es.take (cn b.Index es)⟩⟩ := by
  unfold rlog_New
  have hn := cn_le (i := b.Index) (es := es)
  rw [loop_eqF (s := 0) (fun s => ∃ j : Nat, s = (j : Int) ∧ j ≤ es.length ∧ cn b.Index es = j + cn (b.Index + j) (es.drop j)) (fun s => es.length - s.toNat) (fun _ => (cn b.Index es : Int)) ⟨0, rfl, by omega, by simp⟩ (by simp; omega)]
  · rw [Option.bind_some, under_eq hd hc, Option.bind_some, show (0 : Int) = ((0 : Nat) : Int) by rfl, slc_nat _ (by omega) (by omega), Option.bind_some, List.drop_zero, all_eq (by simp; omega) (fun x hx => (he x (List.mem_of_mem_take hx)).d)]
    rfl
  rintro _ ⟨j, rfl, hj, hnj⟩
  simp only [rlog_New_L1]
  by_cases h : j < es.length
  · rw [cn_drop h] at hnj
    rw [if_pos (by simpa using h), idx_at h, Option.bind_some, wrap64 (n := b.Index + j) (by omega) (by omega), wrap64 (n := b.Index + j + 1) (by omega) (by omega), Option.bind_some, wrap_nat (by omega)]
    by_cases e : es[j].Index = b.Index + j + 1
    · right
      rw [if_pos e] at hnj
      rw [if_pos (by simpa using e)]
      exact ⟨_, rfl, ⟨j + 1, rfl, h, by omega⟩, by simp only [Int.toNat_natCast]; omega, trivial⟩
    · left
      rw [if_neg e] at hnj
      rw [if_neg (by simpa using e), hnj]
      rfl
  · left
    have : j = es.length := by omega
    subst this
    rw [if_neg (by simp), Option.bind_some, if_neg (by simp)]
    rw [hnj, List.drop_length]
    rfl

theorem wnew_eq {b : Api_Base} {es : List En} (h0 : 0 ≤ b.Index) (h1 : b.Index ≤ 10000) (hes : es.length ≤ 1000) : mementoref6_NewLog b es = some ⟨b, es.take (cn b.Index es)⟩ := by
  unfold mementoref6_NewLog
  have hn := cn_le (i := b.Index) (es := es)
  rw [loop_eqF (s := (0, ([] : List En))) (fun s => ∃ j : Nat, s = ((j : Int), es.take j) ∧ j ≤ es.length ∧ cn b.Index es = j + cn (b.Index + j) (es.drop j)) (fun s => es.length - s.1.toNat) (fun _ => es.take (cn b.Index es)) ⟨0, rfl, by omega, by simp⟩ (by simp; omega)]
  · rfl
  rintro _ ⟨j, rfl, hj, hnj⟩
  simp only [mementoref6_NewLog_L1]
  by_cases h : j < es.length
  · rw [cn_drop h] at hnj
    rw [if_pos (by simpa using h), idx_at h, Option.bind_some, wrap64 (n := b.Index + 1) (by omega) (by omega), wrap64 (n := b.Index + 1 + j) (by omega) (by omega), Option.bind_some, wrap_nat (by omega)]
    by_cases e : es[j].Index = b.Index + j + 1
    · right
      rw [if_pos e] at hnj
      rw [if_pos (by simp; omega), Option.bind_some, app_of (by simp; omega) (by simp; omega), Option.bind_some]
      exact ⟨_, rfl, ⟨j + 1, by rw [List.take_succ_eq_append_getElem h], h, by omega⟩, by simp only [Int.toNat_natCast]; omega, trivial⟩
    · left
      rw [if_neg e] at hnj
      rw [if_neg (by simp; omega), hnj]
      rfl
  · left
    have : j = es.length := by omega
    subst this
    rw [if_neg (by simp), Option.bind_some, if_neg (by simp)]
    rw [hnj, List.drop_length]
    rfl

theorem sameInts_eq {a : List Int} (hl : a.length ≤ 1000) : mementoref6_SameInts a a = some true := by
  have := same_refl hl
  unfold mementohelp_Ints at this
  cases h : mementoref6_SameInts a a with
  | none => rw [h] at this; cases this
  | some x => rw [h] at this; exact this
theorem sameEntry_eq (e : En) : mementoref6_SameEntry e e = some true := by
  unfold mementoref6_SameEntry; simp
theorem sameEntries_eq {a : List En} (hl : a.length ≤ 100000) : mementoref6_SameEntries a a = some true := by
  unfold mementoref6_SameEntries
  rw [if_neg (by simp)]
  rw [loop_eqF (s := 0) (fun t => ∃ j : Nat, t = (j : Int) ∧ j ≤ a.length) (fun t => (a.length - t).toNat) (fun _ => (Ctl.go () : Ctl Bool Unit)) ⟨0, rfl, by omega⟩ (by simp; omega)]
  · rfl
  rintro _ ⟨j, rfl, hj⟩
  dsimp only [mementoref6_SameEntries_L1]
  by_cases h : j < a.length
  · right
    rw [if_pos (by simpa using h), idx_at h]
    simp only [Option.bind_some, sameEntry_eq, Bool.not_true, Bool.false_eq_true, if_false, wrap_nat (show j ≤ 1000000 by omega)]
    exact ⟨_, rfl, ⟨j + 1, rfl, h⟩, by omega, by first | trivial | rfl⟩
  · left
    rw [if_neg (by simpa using h)]; rfl
theorem sameBase_eq {b : Api_Base} (h : b.Conf.length ≤ 1000) : mementoref6_SameBase b b = some true := by
  unfold mementoref6_SameBase; rw [sameInts_eq h]; simp

/-- Made short. -/
theorem rcompact_no {b : Api_Base} {l : List En} (g : GOk b l) {i : Int} {d : List Int} (h : i ≤ b.Index ∨ b.Index + l.length < i) : rlog_Log_Compact ⟨⟨b, l⟩⟩ i d = some (false, ⟨⟨b, l⟩⟩) := by
  have := g.i1
  unfold rlog_Log_Compact
  rw [rlast_eq g.i0 (by omega)]
  by_cases e : i ≤ b.Index
  · rw [if_pos (by simpa using e)]; rfl
  · rw [if_neg (by simpa using e)]
    have h' : b.Index + l.length < i := by omega
    simp [h']
theorem wcompact_no {b : Api_Base} {l : List En} (g : GOk b l) {i : Int} {d : List Int} (h : i ≤ b.Index ∨ b.Index + l.length < i) : mementoref6_Log_Compact ⟨b, l⟩ i d = some (false, ⟨b, l⟩) := by
  have := g.i1
  unfold mementoref6_Log_Compact
  rw [wlast_eq g.i0 (by omega)]
  by_cases e : i ≤ b.Index
  · rw [if_pos (by simpa using e)]; rfl
  · rw [if_neg (by simpa using e)]
    have h' : b.Index + l.length < i := by omega
    simp [h']
/-- The base that it has then. -/
def cmB (b : Api_Base) (l : List En) (i : Int) (d : List Int) : Api_Base := ⟨i, termS b l i, confS b l i, d⟩
theorem rcompact_eq {b : Api_Base} {l : List En} (g : GOk b l) {i : Int} {d : List Int} (hd : d.length ≤ 100000) (h : b.Index < i) (h2 : i ≤ b.Index + l.length) : rlog_Log_Compact ⟨⟨b, l⟩⟩ i d = some (true, ⟨⟨cmB b l i d, l.drop (i - b.Index).toNat⟩⟩) := by
  have := g.i1
  have := g.i0
  unfold rlog_Log_Compact
  obtain ⟨q, hq⟩ : ∃ q : Nat, i - b.Index = q := ⟨(i - b.Index).toNat, by omega⟩
  rw [rlast_eq g.i0 (by omega), if_neg (by simpa using h), Option.bind_some, Option.bind_some, if_neg (by simpa using h2)]
  simp only
  rw [rterm_eq g.i0 (by omega), Option.bind_some, rconf_eq g, Option.bind_some, cloneB hd, Option.bind_some, wrap64 (by omega) (by omega), hq, slc_nat _ (by omega) (by omega), Option.bind_some, cloneE (by simp; omega), List.take_length]
  rfl
theorem wcompact_eq {b : Api_Base} {l : List En} (g : GOk b l) {i : Int} {d : List Int} (hd : d.length ≤ 100000) (h : b.Index < i) (h2 : i ≤ b.Index + l.length) : mementoref6_Log_Compact ⟨b, l⟩ i d = some (true, ⟨cmB b l i d, l.drop (i - b.Index).toNat⟩) := by
  have := g.i1
  have := g.i0
  unfold mementoref6_Log_Compact
  obtain ⟨q, hq⟩ : ∃ q : Nat, i - b.Index = q := ⟨(i - b.Index).toNat, by omega⟩
  rw [wlast_eq g.i0 (by omega), if_neg (by simpa using h), Option.bind_some, Option.bind_some, if_neg (by simpa using h2)]
  simp only
  rw [wterm_eq g.i0 (by omega), Option.bind_some, wconf_eq g, Option.bind_some, app_of (by simp; omega) (by simp; omega), Option.bind_some, wrap64 (by omega) (by omega), hq, slc_nat _ (by omega) (by omega), Option.bind_some, app_of (by simp; omega) (by simp; omega), List.take_length]
  rfl
theorem compact_ok {b : Api_Base} {l : List En} (g : GOk b l) {i : Int} {d : List Int} (hd : d.length ≤ 100000) (h : b.Index < i) (h2 : i ≤ b.Index + l.length) : GOk (cmB b l i d) (l.drop (i - b.Index).toNat) where
  i0 := by have := g.i0; unfold cmB; simp only; omega
  i1 := by have := g.i1; unfold cmB; simp only [List.length_drop]; omega
  cf := chgs_len g.cf _
  dt := hd
  e x hx := g.e x (List.mem_of_mem_drop hx)
  ix k hk := by
    simp only [List.length_drop] at hk
    rw [List.getElem_drop, g.ix _ (by omega)]
    unfold cmB
    simp only
    omega

end Go.Proofs.Ytbjleolchcajkaa.Am
