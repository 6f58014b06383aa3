/- Ranges over maps of one's own: each entry once, in whatever order. -/
import Derived.Test.YteclchefihcjkaaM25
namespace Go.Proofs.Yteclchefihcjkaa.Am
open Go
open Go.ChangeMaps (setBlock)
open Go.MapKept (Stamped IsKey)
set_option linter.unusedVariables false

/-- What is known of a map's entries, but for what their values are. -/
structure MapP (es : List (Value × AV)) (ents : Array MapEntry) (clock : Nat) : Prop where
  st : Stamped ents clock
  keys : es.Pairwise fun x y => x.1 ≠ y.1
  key : ∀ x, x ∈ ents.toList → ∃ a, (x.key, a) ∈ es
  ent : ∀ k a, (k, a) ∈ es → ∃ x, x ∈ ents.toList ∧ x.key = k

theorem MapR.p {g : Gh} {n : Nat} {es : List (Value × AV)} {ents : Array MapEntry} {clock : Nat} (h : MapR g n es ents clock) : MapP es ents clock :=
  ⟨h.st, h.keys, h.all, fun k a ha => let ⟨x, x1, x2, _⟩ := h.get k a ha; ⟨x, x1, x2⟩⟩

section
variable {P : Program} {fr : Frm} {H : Mem} {dst : Option Nat} {ty : TypeId} {pos : String} {after : Array Edge} {guard : Option (Nat × Bool)}

theorem opS_range {t kt e : TypeId} {x : Operand} {K : AV → Mem → Prop} {id : Nat} {es : List (Value × AV)} (ht : P.underlying t = some (.map kt e)) (hx : aev fr x = .mp id) (hid : H[id]? = some (.map es))
    (h : ∀ ents clock, MapP es ents clock → K (.pt H.length 0) (H.set id (.mpi es ents clock) ++ [.itr id clock #[] clock])) : OpS P ⟨dst, .range t x, ty, pos, after, guard⟩ fr H K := fun g w ev hop hm => by
  have h1 := hop x (by simp [Op.operands])
  rw [hx] at h1
  obtain ⟨e1, hlt⟩ : ev x = .map (some (g.mu id).b) ∧ id < H.length := by
    generalize ev x = u at h1
    cases h1 with
    | mp _ hid => exact ⟨rfl, hid⟩
  obtain ⟨q1, q2, ents, clock, hb, hmr⟩ := hm.ent id _ hid
  have hr : (execOp ev ⟨dst, .range t x, ty, pos, after, guard⟩).run P w = .ok (.value (.pointer (some ⟨w.heap.size, 0, none⟩))) (w.alloc (.mapIter (some (g.mu id).b) clock #[] clock)) := by
    simp only [execOp, Instr.range, Sem.run_bind, e1, run_underlying ht, Result.andThen_ok, MapKept.run_getObj_map hb, Sem.run_pure, run_newObj]
    rfl
  rw [hr]
  have hm1 := hm.retell (id := id) (e := .mpi es ents clock) ⟨q1, q2, hb, hmr⟩
  have hl : (H.set id (.mpi es ents clock)).length = H.length := by simp
  obtain ⟨m1, m2⟩ := hm1.pushO (w1 := w.alloc (.mapIter (some (g.mu id).b) clock #[] clock)) (o := .mapIter (some (g.mu id).b) clock #[] clock) (e := .itr id clock #[] clock) rfl rfl rfl rfl fun g' hg hmu how hro hb => by
    simp only [EntR, hmu]
    refine ⟨by rw [hl]; omega, how, hro, trivial, ?_⟩
    rw [hg.mu id (by rw [hl]; exact hlt)]; exact hb
  rw [hl] at m1 m2
  refine ⟨_, _, _, h ents clock hmr.p, ?_, m1, m2, by simp⟩
  have := VR.pt (g := g.addE H.length ⟨w.heap.size, 0, 0⟩) (n := (H.set id (.mpi es ents clock) ++ [Ent.itr id clock #[] clock]).length) H.length 0 (by simp)
  simpa [Gh.addE] using this

theorem opS_next {x : Operand} {K : AV → Mem → Prop} {id mid clock : Nat} {es : List (Value × AV)} {ents : Array MapEntry} {seen : Array Nat} (hx : aev fr x = .pt id 0) (hid : H[id]? = some (.itr mid clock seen clock)) (hmid : H[mid]? = some (.mpi es ents clock))
    (h0 : (∀ e ∈ ents.toList, seen.contains e.born = true) → K (.tp [.sc (.bool false)]) H) (h1 : ∀ e ∈ ents.toList, seen.contains e.born = false → K (.tp [.sc (.bool true), .any, .any]) (H.set id (.itr mid clock (seen.push e.born) clock))) :
    OpS P ⟨dst, .next x false, ty, pos, after, guard⟩ fr H K := fun g w ev hop hm => by
  have hv := hop x (by simp [Op.operands])
  rw [hx] at hv
  obtain ⟨p0, p1, p2, p3, p4⟩ := hm.ent id _ hid
  obtain ⟨q1, q2, hb, hmr⟩ := hm.ent mid _ hmid
  obtain ⟨e1, hlt⟩ : ev x = .pointer (some ⟨(g.mu id).b, 0, none⟩) ∧ id < H.length := by
    generalize ev x = u at hv
    cases hv with
    | pt _ _ hid => rw [p3]; exact ⟨rfl, hid⟩
  rcases run_next_at (P := P) w ty (g.mu id).b (g.mu mid).b clock clock seen ents clock p4 hb (fun x hx => hmr.st.1 x hx) (Nat.le_refl _) with ⟨z, hr⟩ | ⟨e, he, w1, hw, hr⟩
  · have : (execOp ev ⟨dst, .next x false, ty, pos, after, guard⟩).run P w = .ok (.value (.tuple #[.bool false])) w := by
      simp only [execOp, e1, Sem.run_bind, hr, Result.andThen_ok, Sem.run_pure]
    rw [this]
    refine sr_here hm (.tp _ _ rfl fun i c hc => ?_) (h0 fun e he => ?_)
    · match i with
      | 0 => simp at hc; subst hc; exact .sc _
      | i + 1 => simp at hc
    · cases hs : seen.contains e.born with
      | true => rfl
      | false =>
        have hin : e ∈ leftOf ents seen := by
          unfold leftOf
          rw [Array.mem_filter]
          exact ⟨Array.mem_toList_iff.1 he, by rw [hs]; rfl⟩
        have := Array.size_pos_of_mem hin
        omega
  · have hr2 : (execOp ev ⟨dst, .next x false, ty, pos, after, guard⟩).run P w = .ok (.value (.tuple #[.bool true, e.key, e.val])) (setBlock w1 (g.mu id).b (.mapIter (some (g.mu mid).b) clock (seen.push e.born) clock)) := by
      simp only [execOp, e1, Sem.run_bind, hr, Result.andThen_ok, Sem.run_pure]
    rw [hr2]
    obtain ⟨he1, he2⟩ : e ∈ ents.toList ∧ seen.contains e.born = false := by
      unfold leftOf at he
      rw [Array.mem_toList_iff, Array.mem_filter] at he
      exact ⟨Array.mem_toList_iff.2 he.1, by simpa using he.2⟩
    have hw' : w1.heap = w.heap ∧ w1.os = w.os ∧ w1.tape = w.tape ∧ w1.output = w.output := by rcases hw with rfl | rfl <;> exact ⟨rfl, rfl, rfl, rfl⟩
    have hupd : Upd w (setBlock w1 (g.mu id).b (.mapIter (some (g.mu mid).b) clock (seen.push e.born) clock)) (g.mu id).b (.mapIter (some (g.mu mid).b) clock (seen.push e.born) clock) := by
      refine ⟨?_, hw'.2.1, hw'.2.2.1, hw'.2.2.2⟩
      simp only [setBlock, hw'.1]
    obtain ⟨m1, m2⟩ := hm.putO (e' := .itr mid clock (seen.push e.born) clock) hlt p1 p2 hupd ⟨p0, p1, p2, p3, hupd.same (hm.ow _ _ p1).1⟩
    refine ⟨_, _, g, h1 e he1 he2, .tp _ _ rfl fun i c hc => ?_, m1, m2, by simp⟩
    match i with
    | 0 => simp at hc; subst hc; exact .sc _
    | 1 => simp at hc; subst hc; exact .any _
    | 2 => simp at hc; subst hc; exact .any _
    | i + 3 => simp at hc

/-- The key and the value of a round. -/
theorem o_entry {β : Type} {kd : IntKind} {v : β → AV} {x : Operand} {id mid clock : Nat} {l : List (Int × β)} {ents : Array MapEntry} {seen : Array Nat} {e : MapEntry} {y : Int × β} (hx : aev fr x = .pt id 0)
    (hid : H[id]? = some (.itr mid clock (seen.push e.born) clock)) (hmid : H[mid]? = some (.mpi (ent kd v l) ents clock)) (he : e ∈ ents.toList) (hy : y ∈ l) (hk : e.key = .int kd y.1) :
    OpS P ⟨dst, .entry x, ty, pos, after, guard⟩ fr H (Det (.tp [.sc (.int kd y.1), v y.2]) H) := fun g w ev hop hm => by
  have hv := hop x (by simp [Op.operands])
  rw [hx] at hv
  obtain ⟨p0, p1, p2, p3, p4⟩ := hm.ent id _ hid
  obtain ⟨q1, q2, hb, hmr⟩ := hm.ent mid _ hmid
  obtain ⟨e1, hlt⟩ : ev x = .pointer (some ⟨(g.mu id).b, 0, none⟩) ∧ id < H.length := by
    generalize ev x = u at hv
    cases hv with
    | pt _ _ hid => rw [p3]; exact ⟨rfl, hid⟩
  have hr := run_entry_at (P := P) w (g.mu id).b (g.mu mid).b clock seen ents clock e p4 hb he hmr.st.2.1
  have hr2 : (execOp ev ⟨dst, .entry x, ty, pos, after, guard⟩).run P w = .ok (.value (.tuple #[e.key, e.val])) w := by
    simp only [execOp, e1, Sem.run_bind, hr, Result.andThen_ok, Sem.run_pure]
  rw [hr2]
  obtain ⟨x', x1, x2, x3⟩ := hmr.get (.int kd y.1) (v y.2) (List.mem_map.2 ⟨y, hy, rfl⟩)
  have hxe : x' = e := entry_eq_of_key ((MapKept.stamped_iff _ _).1 hmr.st).2.2 x1 he (x2.trans hk.symm)
  subst hxe
  refine sr_here hm (.tp _ _ rfl fun i c hc => ?_) ⟨.refl _, rfl⟩
  match i with
  | 0 => simp at hc; subst hc; rw [hk]; exact .sc _
  | 1 => simp at hc; subst hc; exact x3
  | i + 2 => simp at hc
end

theorem OpsS_range {P : Program} {ops : Array Oper} {rest : List Oper} {fr : Frm} {H : Mem} {K : Frm → Mem → Prop} {dst : Option Nat} {ty : TypeId} {pos : String} {after : Array Edge} {t kt e : TypeId} {x : Operand} {id : Nat} {es : List (Value × AV)}
    (hg : agd ops fr ⟨dst, .range t x, ty, pos, after, none⟩ = some true) (ht : P.underlying t = some (.map kt e)) (hx : aev fr x = .mp id) (hid : H[id]? = some (.map es))
    (h : ∀ ents clock, MapP es ents clock → OpsS P ops rest (fr.put dst (.pt H.length 0)) (H.set id (.mpi es ents clock) ++ [.itr id clock #[] clock]) K) : OpsS P ops (⟨dst, .range t x, ty, pos, after, none⟩ :: rest) fr H K := by
  simp only [OpsS, hg]
  exact opS_range ht hx hid h

/-- The keys of a map are unlike. -/
theorem aw_keys {β : Type} {kd : IntKind} {v : β → AV} {P : Program} {N n0 : Nat} {c : Code} {fr : Frm} {H : Mem} {Q : Exit → Frm → Mem → Prop} {id : Nat} {l : List (Int × β)} (hid : H[id]? = some (.map (ent kd v l)))
    (h : (l.Pairwise fun x y => x.1 ≠ y.1) → aw P N n0 c fr H Q) : aw P N n0 c fr H Q := fun g w a hl hd hf hm => by
  obtain ⟨_, _, ents, clock, _, hmr⟩ := hm.ent id _ hid
  exact h (ent_keys.1 hmr.keys) g w a hl hd hf hm

/-- A map that is ranged over no more. -/
theorem RebM.unpin {H : Mem} {id clock : Nat} {es : List (Value × AV)} {ents : Array MapEntry} (hid : H[id]? = some (.mpi es ents clock)) : RebM H (H.set id (.map es)) := .tell fun g w hm => by
  obtain ⟨h1, h2, h3, h4⟩ := hm.ent id _ hid
  exact ⟨h1, h2, ents, clock, h3, h4⟩

theorem len_le_of_sub {α : Type} : ∀ {a b : List α}, a.Nodup → (∀ x ∈ a, x ∈ b) → a.length ≤ b.length
  | [], _, _, _ => Nat.zero_le _
  | x :: a, b, hn, hs => by
    rw [List.nodup_cons] at hn
    obtain ⟨s, t, rfl⟩ := List.append_of_mem (hs x (List.mem_cons_self ..))
    have := len_le_of_sub (b := s ++ t) hn.2 fun y hy => by
      have := hs y (List.mem_cons_of_mem _ hy)
      rw [List.mem_append, List.mem_cons] at this
      rw [List.mem_append]
      rcases this with h | h | h
      · exact .inl h
      · subst h; exact absurd hy hn.1
      · exact .inr h
    simp at this ⊢
    omega

theorem aw_rangeL {β : Type} {kd : IntKind} {v : β → AV} {P : Program} {N n0 : Nat} {fr : Frm} {H H1 : Mem} {Q : Exit → Frm → Mem → Prop} {l : List (Int × β)} {ents : Array MapEntry} {clock iid q it t9 t10 r1 b0 : Nat} {ty1 ty2 : TypeId} {p1 p2 : String} {a1 a2 : Array Edge} {body : Code}
    (hP : MapP (ent kd v l) ents clock) (F : Frm) (I : List (Int × β) → Array Nat → Mem → Prop) (hit : F it = .pt iid 0) (h9 : t9 < N) (h10 : t10 < N) (hI0 : I [] #[] H1) (hR : Reb N n0 fr F H H1)
    (hget : ∀ done seen M, I done seen M → M[iid]? = some (.itr q clock seen clock) ∧ M[q]? = some (.mpi (ent kd v l) ents clock))
    (hstep : ∀ done seen M e y, I done seen M → e ∈ ents.toList → y ∈ l → e.key = .int kd y.1 → (∀ z ∈ done, z.1 ≠ y.1) →
      aw P N n0 body ((F.put (some t9) (.tp [.sc (.bool true), .any, .any])).put (some t10) (.sc (.bool true))) (M.set iid (.itr q clock (seen.push e.born) clock)) (thenQ (fun fr' M' => ∃ M'', I (done ++ [y]) (seen.push e.born) M'' ∧ Reb N n0 fr' F M' M'') fun _ _ _ => False))
    (hfin : ∀ done seen M, I done seen M → (done.Pairwise fun x y => x.1 ≠ y.1) → (∀ y, y ∈ done ↔ y ∈ l) → Q .normal ((F.put (some t9) (.tp [.sc (.bool false)])).put (some t10) (.sc (.bool false))) M) :
    aw P N n0 (.block b0 (.loop (.seq (.region r1 #[⟨some t9, .next (.tmp it) false, ty1, p1, a1, none⟩, ⟨some t10, .extract (.tmp t9) 0, ty2, p2, a2, none⟩] false) (.seq (.cond (.tmp t10) .skip (.exit b0)) body)))) fr H Q := by
  refine aw_reb hR ?_
  have hlk := ent_keys.1 hP.keys
  have hst := (MapKept.stamped_iff _ _).1 hP.st
  -- what was seen, what was done
  let Rel : List (Int × β) → Array Nat → Prop := fun done seen => (done.Pairwise fun x y => x.1 ≠ y.1) ∧ (∀ y ∈ done, y ∈ l) ∧ ∀ e ∈ ents.toList, seen.contains e.born = true ↔ ∃ y ∈ done, e.key = .int kd y.1
  have hlen : ∀ done seen, Rel done seen → done.length ≤ l.length := fun done seen hr => by
    have hn : done.Nodup := hr.1.imp fun h e => h (by rw [e])
    exact len_le_of_sub hn hr.2.1
  refine aw_block (aw_loop (fun k fr' M => ∃ done seen, I done seen M ∧ Rel done seen ∧ fr' = F ∧ k = l.length - done.length) (k := l.length) ⟨[], #[], hI0, ⟨.nil, (fun y h => by cases h), (fun e he => by simp)⟩, rfl, by simp⟩ ?_)
  rintro k _ M ⟨done, seen, hI, hr, rfl, rfl⟩
  obtain ⟨g1, g2⟩ := hget done seen M hI
  refine aw_seq (aw_region (l := [_, _]) ?_ ?_)
  · simp only [dstsLt, List.all_cons, List.all_nil, Bool.and_true, Bool.and_eq_true, decide_eq_true_eq]
    exact ⟨h9, h10⟩
  show OpsS P _ [_, _] _ _ _
  have hag : ∀ (o : Oper) (fr : Frm), o.guard = none → agd #[⟨some t9, .next (.tmp it) false, ty1, p1, a1, none⟩, ⟨some t10, .extract (.tmp t9) 0, ty2, p2, a2, none⟩] fr o = some true := fun o fr h => by unfold agd; rw [h]
  simp only [OpsS]
  rw [hag _ _ rfl]
  simp only [hag _ _ (show Oper.guard ⟨some t10, .extract (.tmp t9) 0, ty2, p2, a2, none⟩ = none from rfl)]
  refine opS_next (es := ent kd v l) (ents := ents) (seen := seen) (mid := q) (clock := clock) (id := iid) hit g1 g2 (fun hall => ?_) fun e he hs => ?_
  · refine opS_extract (a := .sc (.bool false)) (vs := [.sc (.bool false)]) ?_ ?_ ?_
    · simp [aev, Frm.put, Frm.set]
    · rfl
    refine thenQ_n ?_
    refine aw_seq ?_
    refine aw_cond (b := false) (by simp [aev, Frm.put, Frm.set]) ?_
    rw [if_neg (by simp)]
    refine aw_exit ?_
    refine thenQ_exit ?_
    refine thenQ_exit ?_
    refine blockQ_exit ?_
    refine hfin done seen M hI hr.1 fun y => ⟨hr.2.1 y, fun hy => ?_⟩
    obtain ⟨x, x1, x2⟩ := hP.ent (.int kd y.1) (v y.2) (List.mem_map.2 ⟨y, hy, rfl⟩)
    obtain ⟨z, z1, z2⟩ := (hr.2.2 x x1).1 (hall x x1)
    have : z.1 = y.1 := by rw [x2] at z2; injection z2 with _ e; exact e.symm
    obtain ⟨zk, zb⟩ := z
    obtain ⟨yk, yb⟩ := y
    subst this
    have e1 := mget_of_mem hlk (hr.2.1 _ z1)
    have e2 := mget_of_mem hlk hy
    rw [e1] at e2
    cases e2
    exact z1
  · refine opS_extract (a := .sc (.bool true)) (vs := [.sc (.bool true), .any, .any]) ?_ ?_ ?_
    · simp [aev, Frm.put, Frm.set]
    · rfl
    refine thenQ_n ?_
    refine aw_seq ?_
    refine aw_cond (b := true) (by simp [aev, Frm.put, Frm.set]) ?_
    rw [if_pos rfl]
    refine aw_skip ?_
    refine thenQ_n ?_
    obtain ⟨a, ha⟩ := hP.key e he
    obtain ⟨y, hy, hya⟩ := List.mem_map.1 ha
    have hk : e.key = .int kd y.1 := (congrArg Prod.fst hya).symm
    have hnew : ∀ z ∈ done, z.1 ≠ y.1 := fun z hz ez => by
      have := (hr.2.2 e he).2 ⟨z, hz, by rw [hk, ez]⟩
      rw [hs] at this; cases this
    refine aw.conseq (fun ex fr2 M2 qq => ?_) (hstep done seen M e y hI he hy hk hnew)
    cases ex with
    | normal =>
      obtain ⟨M'', i2, r2⟩ := qq
      have hr2 : Rel (done ++ [y]) (seen.push e.born) := by
        refine ⟨?_, fun z hz => ?_, fun x hx => ?_⟩
        · rw [List.pairwise_append]
          exact ⟨hr.1, List.pairwise_singleton _ _, fun z hz z' hz' => by rw [List.mem_singleton] at hz'; subst hz'; exact hnew z hz⟩
        · rcases List.mem_append.1 hz with hz | hz
          · exact hr.2.1 z hz
          · rw [List.mem_singleton] at hz; subst hz; exact hy
        · rw [Array.contains_push, Bool.or_eq_true]
          constructor
          · rintro (h | h)
            · obtain ⟨z, z1, z2⟩ := (hr.2.2 x hx).1 h
              exact ⟨z, List.mem_append_left _ z1, z2⟩
            · have hb : x.born = e.born := by first | exact by simpa using h | exact Eq.symm (by simpa using h)
              have hxe : x = e := by
                have hn := hst.2.1
                have h1 := List.getElem?_of_mem hx
                have h2 := List.getElem?_of_mem he
                obtain ⟨i, hi⟩ := h1
                obtain ⟨j, hj⟩ := h2
                have l1 := lt_of_get hi
                have l2 := lt_of_get hj
                have hp := List.pairwise_iff_getElem.1 hn
                rw [List.getElem?_eq_getElem l1] at hi
                rw [List.getElem?_eq_getElem l2] at hj
                have k1 := Option.some.inj hi
                have k2 := Option.some.inj hj
                rcases Nat.lt_trichotomy i j with h3 | h3 | h3
                · have := hp i j (by simpa using l1) (by simpa using l2) h3
                  simp only [List.getElem_map] at this
                  exact absurd (by rw [k1, k2]; exact hb) this
                · subst h3; rw [← k1, ← k2]
                · have := hp j i (by simpa using l2) (by simpa using l1) h3
                  simp only [List.getElem_map] at this
                  exact absurd (by rw [k1, k2]; exact hb.symm) this
              exact ⟨y, List.mem_append_right _ (by simp), by rw [hxe]; exact hk⟩
          · rintro ⟨z, z1, z2⟩
            rcases List.mem_append.1 z1 with z1 | z1
            · exact .inl ((hr.2.2 x hx).2 ⟨z, z1, z2⟩)
            · rw [List.mem_singleton] at z1
              subst z1
              right
              have : x = e := entry_eq_of_key hst.2.2 hx he (z2.trans hk.symm)
              rw [this]; simp
      have hl2 := hlen _ _ hr2
      rw [List.length_append, List.length_singleton] at hl2
      exact ⟨_, _, r2, l.length - (done ++ [y]).length, by rw [List.length_append, List.length_singleton]; omega, done ++ [y], seen.push e.born, i2, hr2, rfl, rfl⟩
    | _ => exact qq.elim

theorem aw_rangeM {β : Type} {kd : IntKind} {v : β → AV} {P : Program} {N n0 : Nat} {fr : Frm} {H H1 : Mem} {Q : Exit → Frm → Mem → Prop} {l : List (Int × β)} {ents : Array MapEntry} {clock iid q it t9 t10 r1 b0 : Nat} {ty1 ty2 : TypeId} {p1 p2 : String} {a1 a2 : Array Edge} {body : Code}
    (hP : MapP (ent kd v l) ents clock) (F : Frm) (I : List (Int × β) → Array Nat → Mem → Prop) (hit : F it = .pt iid 0) (h9 : t9 < N) (h10 : t10 < N) (hI0 : I [] #[] H1) (hR : Reb N n0 fr F H H1)
    (hget : ∀ done seen M, I done seen M → M[iid]? = some (.itr q clock seen clock) ∧ M[q]? = some (.mpi (ent kd v l) ents clock))
    (hstep : ∀ done seen M e y, I done seen M → e ∈ ents.toList → y ∈ l → e.key = .int kd y.1 → (∀ z ∈ done, z.1 ≠ y.1) →
      aw P N n0 body ((F.put (some t9) (.tp [.sc (.bool true), .any, .any])).put (some t10) (.sc (.bool true))) (M.set iid (.itr q clock (seen.push e.born) clock)) (thenQ (fun fr' M' => ∃ M'', I (done ++ [y]) (seen.push e.born) M'' ∧ Reb N n0 fr' F M' M'') fun _ _ _ => False))
    (hfin : ∀ done seen M, I done seen M → (done.Pairwise fun x y => x.1 ≠ y.1) → (∀ y, y ∈ done ↔ y ∈ l) → ∃ M'', RebM M M'' ∧ Q .normal ((F.put (some t9) (.tp [.sc (.bool false)])).put (some t10) (.sc (.bool false))) M'') :
    aw P N n0 (.block b0 (.loop (.seq (.region r1 #[⟨some t9, .next (.tmp it) false, ty1, p1, a1, none⟩, ⟨some t10, .extract (.tmp t9) 0, ty2, p2, a2, none⟩] false) (.seq (.cond (.tmp t10) .skip (.exit b0)) body)))) fr H Q :=
  aw.conseq (Q := fun e fr M => match e with | .normal => ∃ M'', RebM M M'' ∧ Q .normal fr M'' | _ => False) (fun e fr M q => by
    cases e with
    | normal => obtain ⟨M'', r, q⟩ := q; exact ⟨_, _, .ofM r, q⟩
    | _ => exact q.elim) (aw_rangeL hP F I hit h9 h10 hI0 hR hget hstep hfin)

theorem tok_neE {M : Mem} {i j : Nat} {x : Ent} (h : M[i]? = some x) (h2 : M[j]? = some .tok) (hx : x ≠ .tok := by simp) : i ≠ j := fun e => by rw [e, h2] at h; cases h; exact hx rfl

/-! ## one map into another one -/

section
variable {β : Type}
theorem munion_snoc (s n : List (Int × β)) (y : Int × β) : munion s (n ++ [y]) = mset (munion s n) y.1 y.2 := by simp [munion, List.foldl_append]
theorem munion_keys {s n : List (Int × β)} (hs : s.Pairwise fun x y => x.1 ≠ y.1) : (munion s n).Pairwise fun x y => x.1 ≠ y.1 := by
  unfold munion
  induction n generalizing s with
  | nil => exact hs
  | cons y n ih => exact ih (mset_keys hs _ _)
theorem munion_mem {s n : List (Int × β)} (hn : n.Pairwise fun x y => x.1 ≠ y.1) {z : Int × β} : z ∈ munion s n ↔ z ∈ n ∨ (z ∈ s ∧ ∀ y ∈ n, y.1 ≠ z.1) := by
  unfold munion
  induction n generalizing s with
  | nil => simp
  | cons y n ih =>
    rw [List.pairwise_cons] at hn
    rw [List.foldl_cons, ih hn.2, mset_mem, List.mem_cons]
    constructor
    · rintro (h | ⟨h1 | ⟨h1, h2⟩, h3⟩)
      · exact .inl (.inr h)
      · exact .inl (.inl h1)
      · refine .inr ⟨h1, fun x hx => ?_⟩
        rcases List.mem_cons.1 hx with rfl | hx
        · exact Ne.symm h2
        · exact h3 x hx
    · rintro ((rfl | h) | ⟨h1, h2⟩)
      · exact .inr ⟨.inl rfl, fun x hx => Ne.symm (hn.1 x hx)⟩
      · exact .inl h
      · exact .inr ⟨.inr ⟨h1, Ne.symm (h2 y (List.mem_cons_self ..))⟩, fun x hx => h2 x (List.mem_cons_of_mem _ hx)⟩
theorem nodup_of_keys {l : List (Int × β)} (h : l.Pairwise fun x y => x.1 ≠ y.1) : l.Nodup := h.imp fun h e => h (by rw [e])
theorem munion_perm {s n n' : List (Int × β)} (hs : s.Pairwise fun x y => x.1 ≠ y.1) (hn : n.Pairwise fun x y => x.1 ≠ y.1) (hn' : n'.Pairwise fun x y => x.1 ≠ y.1) (hm : ∀ y, y ∈ n ↔ y ∈ n') : (munion s n).Perm (munion s n') := by
  refine (List.perm_ext_iff_of_nodup (nodup_of_keys (munion_keys hs)) (nodup_of_keys (munion_keys hs))).2 fun z => ?_
  rw [munion_mem hn, munion_mem hn', hm]
  constructor <;> rintro (h | ⟨h1, h2⟩)
  · exact .inl h
  · exact .inr ⟨h1, fun y hy => h2 y ((hm y).2 hy)⟩
  · exact .inl h
  · exact .inr ⟨h1, fun y hy => h2 y ((hm y).1 hy)⟩
end
end Go.Proofs.Yteclchefihcjkaa.Am
