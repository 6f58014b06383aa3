/- Maps of one's own: made, looked up, written to, counted; ranges over them. -/
import Derived.Test.YteclchefihcjkaaM24
import Derived.Maps.RangeRun
import Derived.Maps.Range
namespace Go.Proofs.Yteclchefihcjkaa.Am
open Go
open Go.MapKept (Stamped IsKey)
set_option linter.unusedVariables false

/-- An entry's block holds another object. -/
theorem MR.putO {g : Gh} {H : Mem} {w w1 : World} {id : Nat} {e' : Ent} {o : Obj} (hm : MR g H w) (hlt : id < H.length) (h1 : g.ow (g.mu id).b = some id) (h4 : ∀ o, g.ro (g.mu id).b o = none)
    (hu : Upd w w1 (g.mu id).b o) (he : EntR g H.length w1 id e') : MR g (H.set id e') w1 ∧ Ev H.length g w g w1 := by
  refine ⟨⟨fun b o v hro => ?_, fun id' x hx => ?_, fun b id' ho => ?_⟩, ⟨.refl _ _, fun b hb' ho => ⟨ho, hu.other fun hbb => ?_⟩, by rw [hu.size]; omega, hu.os, hu.tape, hu.output⟩⟩
  · have := hm.ro b o v hro
    rw [hu.cell_other]
    · exact this
    · intro hbb; simp only at hbb; rw [hbb, h4] at hro; cases hro
  · rw [List.length_set]
    rcases get_set hx with ⟨hne, hx⟩ | ⟨rfl, rfl, _⟩
    · refine (hm.ent id' x hx).keep (lt_of_get hx) (.refl _ _) (Nat.le_refl _) fun b hown => ⟨hown, fun _ => rfl, hu.other fun hbb => ?_⟩
      rw [hbb, h1] at hown; cases hown; exact hne rfl
    · exact he
  · have := hm.ow b id' ho
    rw [hu.size]; exact ⟨this.1, by simpa using this.2⟩
  · rw [hbb, h1] at ho; cases ho

/-- A new object, that a new entry tells of. -/
theorem MR.pushO {g : Gh} {H : Mem} {w w1 : World} {o : Obj} {e : Ent} (hm : MR g H w) (hh : w1.heap = w.heap.push o) (hos : w1.os = w.os) (htp : w1.tape = w.tape) (hout : w1.output = w.output)
    (he : ∀ g' : Gh, Gle H.length g g' → g'.mu H.length = ⟨w.heap.size, 0, 0⟩ → g'.ow w.heap.size = some H.length → (∀ o, g'.ro w.heap.size o = none) → w1.heap[w.heap.size]? = some o → EntR g' (H.length + 1) w1 H.length e) :
    MR (g.addE H.length ⟨w.heap.size, 0, 0⟩) (H ++ [e]) w1 ∧ Ev H.length g w (g.addE H.length ⟨w.heap.size, 0, 0⟩) w1 := by
  have old : ∀ {b : Nat}, b < w.heap.size → w1.heap[b]? = w.heap[b]? := fun {b} h => by rw [hh, Array.getElem?_push, if_neg (by omega)]
  have hsz : w1.heap.size = w.heap.size + 1 := by rw [hh, Array.size_push]
  have hgle : Gle H.length g (g.addE H.length ⟨w.heap.size, 0, 0⟩) := ⟨fun _ _ _ h => h, fun id hid => by simp only [Gh.addE]; rw [if_neg (by omega)]⟩
  refine ⟨⟨fun b o v hro => ?_, fun id x hx => ?_, fun b id ho => ?_⟩, ⟨hgle, fun b hb ho => ⟨?_, old hb⟩, by rw [hsz]; omega, hos, htp, hout⟩⟩
  · have := hm.ro b o v hro
    rw [cell_of (old (block_lt this))]; exact this
  · rw [List.length_append, List.length_singleton]
    rcases get_snoc hx with hx | ⟨rfl, rfl⟩
    · refine (hm.ent id x hx).keep (lt_of_get hx) hgle (by omega) fun b hown => ?_
      have hb := (hm.ow _ _ hown).1
      refine ⟨?_, fun _ => rfl, old hb⟩
      simp only [Gh.addE]; rw [if_neg (by omega)]; exact hown
    · refine he _ hgle (by simp [Gh.addE]) (by simp [Gh.addE]) (fun o => ?_) (by rw [hh, Array.getElem?_push, if_pos rfl])
      cases hro : g.ro w.heap.size o with
      | none => exact hro
      | some v => have := hm.ro_lt hro; omega
  · simp only [Gh.addE] at ho
    by_cases hb : b = w.heap.size
    · rw [if_pos hb] at ho; cases ho; exact ⟨by rw [hsz]; omega, by simp⟩
    · rw [if_neg hb] at ho
      have := hm.ow b id ho
      exact ⟨by rw [hsz]; omega, by simp; omega⟩
  · simp only [Gh.addE]; rw [if_neg (by omega)]; exact ho

/-! ## lists of keys and values -/

section
variable {β : Type} {kd : IntKind} {v : β → AV}
/-- Entries, told by whole numbers as keys. -/
abbrev ent (kd : IntKind) (v : β → AV) (l : List (Int × β)) : List (Value × AV) := l.map fun y => (.int kd y.1, v y.2)

theorem ent_keys {l : List (Int × β)} : (ent kd v l).Pairwise (fun x y => x.1 ≠ y.1) ↔ l.Pairwise fun x y => x.1 ≠ y.1 := by
  rw [List.pairwise_map]
  constructor <;> intro h <;> refine h.imp fun hab e => hab ?_
  · rw [e]
  · injection e
theorem mget_some {l : List (Int × β)} {k : Int} {b : β} (h : mget l k = some b) : (k, b) ∈ l := by
  unfold mget at h
  cases hf : l.find? fun y => y.1 == k with
  | none => rw [hf] at h; cases h
  | some y =>
    rw [hf] at h
    obtain ⟨y1, y2⟩ := y
    simp only [Option.map_some, Option.some.injEq] at h
    have := List.find?_some hf
    simp at this
    subst this h
    exact List.mem_of_find?_eq_some hf
theorem mget_none {l : List (Int × β)} {k : Int} (h : mget l k = none) : ∀ b, (k, b) ∉ l := fun b hb => by
  unfold mget at h
  rw [Option.map_eq_none_iff, List.find?_eq_none] at h
  exact h _ hb (by simp)
theorem mget_of_mem {l : List (Int × β)} (hk : l.Pairwise fun x y => x.1 ≠ y.1) {k : Int} {b : β} (h : (k, b) ∈ l) : mget l k = some b := by
  cases hg : mget l k with
  | none => exact absurd h (mget_none hg b)
  | some c =>
    have hc := mget_some hg
    have : ∀ {l : List (Int × β)}, l.Pairwise (fun x y => x.1 ≠ y.1) → (k, b) ∈ l → (k, c) ∈ l → b = c := fun {l} hp => by
      induction l with
      | nil => intro h; cases h
      | cons y l ih =>
        intro h1 h2
        rw [List.pairwise_cons] at hp
        rcases List.mem_cons.1 h1 with e1 | q1
        · rcases List.mem_cons.1 h2 with e2 | q2
          · rw [← e1] at e2; cases e2; rfl
          · exact absurd (by rw [← e1]) (hp.1 _ q2)
        · rcases List.mem_cons.1 h2 with e2 | q2
          · exact absurd (by rw [← e2]) (hp.1 _ q1)
          · exact ih hp.2 q1 q2
    rw [this hk h hc]
theorem mset_mem {l : List (Int × β)} {k : Int} {b : β} {y : Int × β} : y ∈ mset l k b ↔ y = (k, b) ∨ (y ∈ l ∧ y.1 ≠ k) := by
  unfold mset
  split
  · rename_i ha
    rw [List.any_eq_true] at ha
    obtain ⟨z, hz, hzk⟩ := ha
    rw [List.mem_map]
    constructor
    · rintro ⟨x, hx, rfl⟩
      split
      · exact .inl rfl
      · rename_i hne; exact .inr ⟨hx, by simpa using hne⟩
    · rintro (rfl | ⟨h1, h2⟩)
      · exact ⟨z, hz, by rw [if_pos hzk]⟩
      · exact ⟨y, h1, by rw [if_neg (by simpa using h2)]⟩
  · rename_i ha
    rw [List.mem_append, List.mem_singleton]
    constructor
    · rintro (h | h)
      · refine .inr ⟨h, fun e => ha ?_⟩
        rw [List.any_eq_true]; exact ⟨y, h, by simpa using e⟩
      · exact .inl h
    · rintro (h | h)
      · exact .inr h
      · exact .inl h.1
theorem mset_keys {l : List (Int × β)} (hk : l.Pairwise fun x y => x.1 ≠ y.1) (k : Int) (b : β) : (mset l k b).Pairwise fun x y => x.1 ≠ y.1 := by
  unfold mset
  split
  · rw [List.pairwise_map]
    refine hk.imp fun {x y} h => ?_
    by_cases hx : x.1 = k <;> by_cases hy : y.1 = k
    · exact absurd (hx.trans hy.symm) h
    · simp [hx, hy]; exact Ne.symm hy
    · simp [hx, hy]
    · simp [hx, hy]; exact h
  · rename_i ha
    rw [List.pairwise_append]
    refine ⟨hk, List.pairwise_singleton _ _, fun x hx y hy => ?_⟩
    rw [List.mem_singleton] at hy; subst hy
    intro e
    refine ha ?_
    rw [List.any_eq_true]; exact ⟨x, hx, by simpa using e⟩
theorem mset_length_in {l : List (Int × β)} {k : Int} {b c : β} (h : (k, c) ∈ l) : (mset l k b).length = l.length := by
  unfold mset
  rw [if_pos (by rw [List.any_eq_true]; exact ⟨_, h, by simp⟩), List.length_map]
theorem mset_length_out {l : List (Int × β)} {k : Int} {b : β} (h : mget l k = none) : (mset l k b).length = l.length + 1 := by
  unfold mset
  rw [if_neg, List.length_append, List.length_singleton]
  rw [List.any_eq_true]
  rintro ⟨y, hy, e⟩
  have : y.1 = k := by simpa using e
  exact mget_none h y.2 (by rw [← this]; exact hy)

theorem MapR.isKey {g : Gh} {n : Nat} {l : List (Int × β)} {ents : Array MapEntry} {clock : Nat} (hm : MapR g n (ent kd v l) ents clock) : ∀ x ∈ ents.toList, IsKey (.int kd) x.key := fun x hx => by
  obtain ⟨a, ha⟩ := hm.all x hx
  obtain ⟨y, _, hy⟩ := List.mem_map.1 ha
  have : x.key = .int kd y.1 := (congrArg Prod.fst hy).symm
  rw [this]; rfl

/-- Which entry a key has. -/
theorem MapR.find {g : Gh} {n : Nat} {l : List (Int × β)} {ents : Array MapEntry} {clock : Nat} (hm : MapR g n (ent kd v l) ents clock) (k : Int) :
    (Instr.findNow (.int kd) (.int kd k) ents.toList 0 = some none ∧ mget l k = none ∧ ∀ x ∈ ents.toList, x.key ≠ .int kd k) ∨
    ∃ j e b, Instr.findNow (.int kd) (.int kd k) ents.toList 0 = some (some (j, e.val)) ∧ ents[j]? = some e ∧ e.key = .int kd k ∧ mget l k = some b ∧ VR g n (v b) e.val := by
  have hkey : IsKey (.int kd) (.int kd k) := rfl
  have hlk := ent_keys.1 hm.keys
  rcases MapKept.findNow_spec hkey ents.toList 0 hm.isKey with ⟨h1, h2⟩ | ⟨j, e, h1, h2, h3⟩
  · refine .inl ⟨h1, ?_, h2⟩
    cases hg : mget l k with
    | none => rfl
    | some b =>
      obtain ⟨x, x1, x2, _⟩ := hm.get (.int kd k) (v b) (List.mem_map.2 ⟨(k, b), mget_some hg, rfl⟩)
      exact absurd x2 (h2 x x1)
  · right
    rw [Nat.zero_add] at h1
    have he : e ∈ ents.toList := List.mem_of_getElem? h2
    obtain ⟨a, ha⟩ := hm.all e he
    obtain ⟨y, hy, hya⟩ := List.mem_map.1 ha
    obtain ⟨y1, b⟩ := y
    have e1 : y1 = k := by have := congrArg Prod.fst hya; rw [h3] at this; injection this
    subst e1
    obtain ⟨x, x1, x2, x3⟩ := hm.get (.int kd y1) (v b) (List.mem_map.2 ⟨(y1, b), hy, rfl⟩)
    have hx : x = e := by
      have hn := (MapKept.stamped_iff _ _).1 hm.st
      exact entry_eq_of_key hn.2.2 x1 he (x2.trans h3.symm)
    subst hx
    exact ⟨j, x, b, h1, by simpa using h2, h3, mget_of_mem hlk hy, x3⟩

theorem push_toList {ents : Array MapEntry} {x y : MapEntry} : y ∈ (ents.push x).toList ↔ y ∈ ents.toList ∨ y = x := by simp

/-- A new key. -/
theorem MapR.push {g : Gh} {n : Nat} {l : List (Int × β)} {ents : Array MapEntry} {clock : Nat} (hm : MapR g n (ent kd v l) ents clock) {k : Int} (hk : ∀ x ∈ ents.toList, x.key ≠ .int kd k) (hg : mget l k = none) {b : β} {u : Value} (hv : VR g n (v b) u) :
    MapR g n (ent kd v (mset l k b)) (ents.push ⟨.int kd k, u, clock⟩) (clock + 1) := by
  refine ⟨MapKept.stamped_push hm.st hk, ?_, ent_keys.2 (mset_keys (ent_keys.1 hm.keys) k b), fun k' a ha => ?_, fun x hx => ?_⟩
  · rw [Array.size_push, List.length_map, mset_length_out hg, hm.size, List.length_map]
  · obtain ⟨y, hy, hya⟩ := List.mem_map.1 ha
    cases hya
    rcases mset_mem.1 hy with rfl | ⟨h1, h2⟩
    · exact ⟨_, push_toList.2 (.inr rfl), rfl, hv⟩
    · obtain ⟨x, x1, x2, x3⟩ := hm.get _ _ (List.mem_map.2 ⟨y, h1, rfl⟩)
      exact ⟨x, push_toList.2 (.inl x1), x2, x3⟩
  · rcases push_toList.1 hx with hx | rfl
    · obtain ⟨a, ha⟩ := hm.all x hx
      obtain ⟨y, hy, hya⟩ := List.mem_map.1 ha
      refine ⟨a, List.mem_map.2 ⟨y, mset_mem.2 (.inr ⟨hy, fun e => hk x hx ?_⟩), hya⟩⟩
      have := (congrArg Prod.fst hya).symm
      simp only at this
      rw [this, e]
    · exact ⟨v b, List.mem_map.2 ⟨(k, b), mset_mem.2 (.inl rfl), rfl⟩⟩

/-- Another value for a key that is there. -/
theorem MapR.modify {g : Gh} {n : Nat} {l : List (Int × β)} {ents : Array MapEntry} {clock : Nat} (hm : MapR g n (ent kd v l) ents clock) {k : Int} {j : Nat} {e : MapEntry} (hj : ents[j]? = some e) (he : e.key = .int kd k) {b c : β} (hg : mget l k = some c) {u : Value} (hv : VR g n (v b) u) :
    MapR g n (ent kd v (mset l k b)) (ents.modify j fun e' => { e' with key := .int kd k, val := u }) clock := by
  have hkeyf : ∀ e', ents[j]? = some e' → ({ e' with key := .int kd k, val := u } : MapEntry).key = e'.key := fun e' h => by rw [hj] at h; cases h; exact he.symm
  have hn := (MapKept.stamped_iff _ _).1 hm.st
  have hej : e ∈ ents.toList := Array.mem_toList_iff.2 (Array.mem_of_getElem? hj)
  have hmem : ∀ x, x ∈ (ents.modify j fun e' => { e' with key := .int kd k, val := u }).toList ↔ x = { e with key := .int kd k, val := u } ∨ (x ∈ ents.toList ∧ x.key ≠ .int kd k) := fun x => by
    rw [Array.mem_toList_iff, Array.mem_iff_getElem?]
    constructor
    · rintro ⟨i, hi⟩
      rw [Array.getElem?_modify] at hi
      by_cases hij : j = i
      · subst hij
        rw [if_pos rfl, hj] at hi
        simp only [Option.map_some, Option.some.injEq] at hi
        exact .inl hi.symm
      · rw [if_neg hij] at hi
        refine .inr ⟨Array.mem_toList_iff.2 (Array.mem_of_getElem? hi), fun e2 => hij ?_⟩
        have h1 : ents.toList[j]? = some e := by simpa using hj
        have h2 : ents.toList[i]? = some x := by simpa using hi
        have hp := List.pairwise_iff_getElem.1 hn.2.2
        have l1 := lt_of_get h1
        have l2 := lt_of_get h2
        rw [List.getElem?_eq_getElem l1] at h1
        rw [List.getElem?_eq_getElem l2] at h2
        have k1 := congrArg MapEntry.key (Option.some.inj h1)
        have k2 := congrArg MapEntry.key (Option.some.inj h2)
        rcases Nat.lt_trichotomy j i with h3 | h3 | h3
        · exact absurd (k1.trans (he.trans (e2.symm.trans k2.symm))) (hp _ _ l1 l2 h3)
        · exact h3
        · exact absurd (k2.trans (e2.trans (he.symm.trans k1.symm))) (hp _ _ l2 l1 h3)
    · rintro (rfl | ⟨h1, h2⟩)
      · exact ⟨j, by rw [Array.getElem?_modify, if_pos rfl, hj]; rfl⟩
      · obtain ⟨i, hi⟩ := Array.mem_iff_getElem?.1 (Array.mem_toList_iff.1 h1)
        refine ⟨i, ?_⟩
        rw [Array.getElem?_modify, if_neg]
        · exact hi
        · intro e2; subst e2; rw [hj] at hi; cases hi; exact h2 he
  refine ⟨MapKept.stamped_modify hm.st _ _ (fun _ _ => rfl) (fun e' _ h => hkeyf e' h), ?_, ent_keys.2 (mset_keys (ent_keys.1 hm.keys) k b), fun k' a ha => ?_, fun x hx => ?_⟩
  · rw [Array.size_modify, List.length_map, mset_length_in (mget_some hg), hm.size, List.length_map]
  · obtain ⟨y, hy, hya⟩ := List.mem_map.1 ha
    cases hya
    rcases mset_mem.1 hy with rfl | ⟨h1, h2⟩
    · exact ⟨_, (hmem _).2 (.inl rfl), rfl, hv⟩
    · obtain ⟨x, x1, x2, x3⟩ := hm.get _ _ (List.mem_map.2 ⟨y, h1, rfl⟩)
      exact ⟨x, (hmem _).2 (.inr ⟨x1, fun e2 => h2 (by rw [x2] at e2; injection e2)⟩), x2, x3⟩
  · rcases (hmem x).1 hx with rfl | ⟨h1, h2⟩
    · exact ⟨v b, List.mem_map.2 ⟨(k, b), mset_mem.2 (.inl rfl), rfl⟩⟩
    · obtain ⟨a, ha⟩ := hm.all x h1
      obtain ⟨y, hy, hya⟩ := List.mem_map.1 ha
      refine ⟨a, List.mem_map.2 ⟨y, mset_mem.2 (.inr ⟨hy, fun e => h2 ?_⟩), hya⟩⟩
      have := (congrArg Prod.fst hya).symm
      simp only at this
      rw [this, e]

theorem MapR.nil (g : Gh) (n : Nat) : MapR g n [] #[] 0 := ⟨MapKept.stamped_empty 0, rfl, .nil, (fun k a h => by cases h), (fun x h => by simp at h)⟩
end

section
variable {P : Program} {fr : Frm} {H : Mem} {dst : Option Nat} {ty : TypeId} {pos : String} {after : Array Edge} {guard : Option (Nat × Bool)}

theorem o_makeMap {t : TypeId} {H1 : Mem} (hM : H1 = H ++ [.map []]) : OpS P ⟨dst, .makeMap t none, ty, pos, after, guard⟩ fr H (Det (.mp H.length) H1) := fun g w ev hop hm => by
  have : (execOp ev ⟨dst, .makeMap t none, ty, pos, after, guard⟩).run P w = .ok (.value (.map (some w.heap.size))) (w.alloc (.map #[] 0)) := by
    simp only [execOp, Instr.makeMap, Option.map_none, Sem.run_bind, run_newObj]; rfl
  rw [this]
  obtain ⟨m1, m2⟩ := hm.pushO (w1 := w.alloc (.map #[] 0)) (e := .map []) rfl rfl rfl rfl fun g' hg hmu how hro hb => by
    simp only [EntR, hmu]
    exact ⟨how, hro, #[], 0, hb, .nil _ _⟩
  refine ⟨_, _, _, ⟨.refl _, hM.symm⟩, ?_, m1, m2, by simp⟩
  have := VR.mp (g := g.addE H.length ⟨w.heap.size, 0, 0⟩) (n := (H ++ [Ent.map []]).length) H.length (by simp)
  simpa [Gh.addE] using this

variable {β : Type} {kd : IntKind} {v : β → AV}

theorem opS_lookup {t kt e : TypeId} {x y : Operand} {ok : Bool} {K : AV → Mem → Prop} {id : Nat} {l : List (Int × β)} {n : Int} {sz by_ : Nat} {z : Value} (ht : P.underlying t = some (.map kt e)) (hk : P.underlying kt = some (.int kd)) (hti : tinf P e = some (sz, by_, some z))
    (hx : aev fr x = .mp id) (hid : H[id]? = some (.map (ent kd v l))) (hy : aev fr y = .sc (.int kd n))
    (h : match mget l n, ok with | some b, false => K (v b) H | some b, true => K (.tp [v b, .sc (.bool true)]) H | none, false => K (.sc z) H | none, true => K (.tp [.sc z, .sc (.bool false)]) H) :
    OpS P ⟨dst, .lookup t x y ok, ty, pos, after, guard⟩ fr H K := fun g w ev hop hm => by
  have h1 := hop x (by simp [Op.operands])
  have h2 := hop y (by simp [Op.operands])
  rw [hx] at h1
  rw [hy] at h2
  have e2 := VR_sc h2
  obtain ⟨e1, hlt⟩ : ev x = .map (some (g.mu id).b) ∧ id < H.length := by
    generalize ev x = u at h1
    cases h1 with
    | mp _ hid => exact ⟨rfl, hid⟩
  obtain ⟨q1, q2, ents, clock, hb, hmr⟩ := hm.ent id _ hid
  have hkey : IsKey (.int kd) (.int kd n) := rfl
  rcases hmr.find n with ⟨f1, f2, _⟩ | ⟨j, en, b, f1, f2, f3, f4, f5⟩
  · have hr : (execOp ev ⟨dst, .lookup t x y ok, ty, pos, after, guard⟩).run P w = .ok (.value (if ok then .tuple #[z, .bool false] else z)) w := by
      simp only [execOp, Instr.lookup, Sem.run_bind, e1, e2, run_underlying ht, Result.andThen_ok, MapKept.run_getObj_map hb, Sem.run_pure, MapKept.run_checkKey hk hkey, MapKept.run_findKey hk f1, run_zeroValue hti]
    rw [hr]
    rw [f2] at h
    cases ok with
    | false => exact sr_here hm (.sc z) h
    | true => exact sr_here hm (.tp _ _ rfl fun i c hc => by
        match i with
        | 0 => simp at hc; subst hc; exact .sc _
        | 1 => simp at hc; subst hc; exact .sc _
        | i + 2 => simp at hc) h
  · have hr : (execOp ev ⟨dst, .lookup t x y ok, ty, pos, after, guard⟩).run P w = .ok (.value (if ok then .tuple #[en.val, .bool true] else en.val)) w := by
      simp only [execOp, Instr.lookup, Sem.run_bind, e1, e2, run_underlying ht, Result.andThen_ok, MapKept.run_getObj_map hb, Sem.run_pure, MapKept.run_checkKey hk hkey, MapKept.run_findKey hk f1]
    rw [hr]
    rw [f4] at h
    cases ok with
    | false => exact sr_here hm f5 h
    | true => exact sr_here hm (.tp _ _ rfl fun i c hc => by
        match i with
        | 0 => simp at hc; subst hc; exact f5
        | 1 => simp at hc; subst hc; exact .sc _
        | i + 2 => simp at hc) h

theorem o_lookupS {t kt e : TypeId} {x y : Operand} {id : Nat} {l : List (Int × β)} {n : Int} {sz by_ : Nat} {z : Value} {b : β} (ht : P.underlying t = some (.map kt e)) (hk : P.underlying kt = some (.int kd)) (hti : tinf P e = some (sz, by_, some z))
    (hx : aev fr x = .mp id) (hid : H[id]? = some (.map (ent kd v l))) (hy : aev fr y = .sc (.int kd n)) (hg : mget l n = some b) : OpS P ⟨dst, .lookup t x y false, ty, pos, after, guard⟩ fr H (Det (v b) H) :=
  opS_lookup ht hk hti hx hid hy (by rw [hg]; exact ⟨.refl _, rfl⟩)
theorem o_lookupN {t kt e : TypeId} {x y : Operand} {id : Nat} {l : List (Int × β)} {n : Int} {sz by_ : Nat} {z : Value} {r : AV} (ht : P.underlying t = some (.map kt e)) (hk : P.underlying kt = some (.int kd)) (hti : tinf P e = some (sz, by_, some z))
    (hx : aev fr x = .mp id) (hid : H[id]? = some (.map (ent kd v l))) (hy : aev fr y = .sc (.int kd n)) (hg : mget l n = none) (hr : AVLe (.sc z) r) : OpS P ⟨dst, .lookup t x y false, ty, pos, after, guard⟩ fr H (Det r H) :=
  opS_lookup ht hk hti hx hid hy (by rw [hg]; exact ⟨hr, rfl⟩)
theorem o_mapUpdate {t kt e : TypeId} {x y u : Operand} {id : Nat} {l : List (Int × β)} {n : Int} {b : β} {H1 : Mem} (ht : P.underlying t = some (.map kt e)) (hk : P.underlying kt = some (.int kd))
    (hx : aev fr x = .mp id) (hid : H[id]? = some (.map (ent kd v l))) (hy : aev fr y = .sc (.int kd n)) (hu : AVLe (aev fr u) (v b)) (hM : H1 = H.set id (.map (ent kd v (mset l n b)))) :
    OpS P ⟨dst, .mapUpdate t x y u, ty, pos, after, guard⟩ fr H (Det undefA H1) := fun g w ev hop hm => by
  have h1 := hop x (by simp [Op.operands])
  have h2 := hop y (by simp [Op.operands])
  have h3 := hu _ _ _ (hop u (by simp [Op.operands]))
  rw [hx] at h1
  rw [hy] at h2
  have e2 := VR_sc h2
  obtain ⟨e1, hlt⟩ : ev x = .map (some (g.mu id).b) ∧ id < H.length := by
    generalize ev x = u at h1
    cases h1 with
    | mp _ hid => exact ⟨rfl, hid⟩
  obtain ⟨q1, q2, ents, clock, hb, hmr⟩ := hm.ent id _ hid
  have hkey : IsKey (.int kd) (.int kd n) := rfl
  have hbl := (hm.ow _ _ q1).1
  have fin : ∀ ents' clock', MapR g H.length (ent kd v (mset l n b)) ents' clock' → SR H.length g w (Det undefA H1) undef { w with heap := w.heap.setIfInBounds (g.mu id).b (.map ents' clock') } := fun ents' clock' hmr' => by
    have hupd : Upd w { w with heap := w.heap.setIfInBounds (g.mu id).b (.map ents' clock') } (g.mu id).b (.map ents' clock') := ⟨rfl, rfl, rfl, rfl⟩
    obtain ⟨m1, m2⟩ := hm.putO (e' := .map (ent kd v (mset l n b))) hlt q1 q2 hupd ⟨q1, q2, ents', clock', hupd.same hbl, hmr'⟩
    exact ⟨undefA, _, g, ⟨.refl _, hM.symm⟩, .sc _, m1, m2, by simp⟩
  rcases hmr.find n with ⟨f1, f2, f3⟩ | ⟨j, en, c, f1, f2, f3, f4, f5⟩
  · have hr : (execOp ev ⟨dst, .mapUpdate t x y u, ty, pos, after, guard⟩).run P w = .ok .skip { w with heap := w.heap.setIfInBounds (g.mu id).b (.map (ents.push ⟨.int kd n, ev u, clock⟩) (clock + 1)) } := by
      simp only [execOp, Instr.mapUpdate, Sem.run_bind, e1, e2, run_underlying ht, Result.andThen_ok, MapKept.run_getObj_map hb, MapKept.run_checkKey hk hkey, MapKept.run_findKey hk f1, MapKept.run_setObj_map _ hb, Sem.run_pure]
    rw [hr]
    exact fin _ _ (hmr.push f3 f2 h3)
  · have hr : (execOp ev ⟨dst, .mapUpdate t x y u, ty, pos, after, guard⟩).run P w = .ok .skip { w with heap := w.heap.setIfInBounds (g.mu id).b (.map (ents.modify j fun e' => { e' with key := .int kd n, val := ev u }) clock) } := by
      simp only [execOp, Instr.mapUpdate, Sem.run_bind, e1, e2, run_underlying ht, Result.andThen_ok, MapKept.run_getObj_map hb, MapKept.run_checkKey hk hkey, MapKept.run_findKey hk f1, f2, f3, Option.map_some, Option.getD_some, MapKept.run_keyThatStays hkey, MapKept.run_setObj_map _ hb, Sem.run_pure]
    rw [hr]
    exact fin _ _ (hmr.modify f2 f3 f4 h3)

/-- A row by value that has elements is not nil. -/
theorem o_notNil {op : BinOp} {t t' e : TypeId} {x y : Operand} {z : Nat} {es : List (List PV)} {k : Tk} {b : Bool} (ht : P.underlying t = some (.slice e)) (hop : op = .eql ∧ b = false ∨ op = .neq ∧ b = true) (hx : aev fr x = .sl z es k) (hy : aev fr y = .sc (.slice none 0 0)) (hne : es ≠ []) :
    OpS P ⟨dst, .binOp op t x y t', ty, pos, after, guard⟩ fr H (Det (.sc (.bool b)) H) := opS_isNil hx hy (by
  rcases hop with ⟨rfl, rfl⟩ | ⟨rfl, rfl⟩
  · simp only [aNil, ht]
    intro b hb
    cases b with
    | true => exact absurd (hb rfl) hne
    | false => exact ⟨.refl _, rfl⟩
  · simp only [aNil, ht]
    intro b hb
    cases b with
    | true => exact absurd (hb rfl) hne
    | false => exact ⟨.refl _, rfl⟩)
end
end Go.Proofs.Yteclchefihcjkaa.Am
