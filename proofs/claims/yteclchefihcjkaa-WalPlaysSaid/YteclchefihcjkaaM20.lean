/- What a law's arguments are, as lists and whole numbers. -/
import Derived.Test.YteclchefihcjkaaM19
namespace Go.Proofs.Yteclchefihcjkaa.Am
open Go Go.RowKit Go.Deep
set_option linter.unusedVariables false

variable {P : Program}

theorem Cd_ik {t : TypeId} {k : IntKind} {c : Int → List PV} (hc : ∀ n, c n = [.sc (.int k n)]) (ht : P.underlying t = some (.int k)) : Cd P t 1 fun ps => ∃ n, ps = c n ∧ Ik k n :=
  Cd.mono (fun ps ⟨n, h1, h2, h3⟩ => ⟨n, by rw [hc, h1], h2, h3⟩) (Cd_int ht)
theorem Cd_l {α : Type} {t e : TypeId} {z b : Nat} {c : α → List PV} {Q : α → Prop} (ht : P.underlying t = some (.slice e)) (hz : P.cellsOf e = z) (hb : P.bytesOf e = b) (hpos : 0 < z) (h : Cd P e z fun ps => ∃ a, ps = c a ∧ Q a) :
    Cd P t 1 fun ps => ∃ l : List α, ps = c_L z c l ∧ (∀ a ∈ l, Q a) ∧ l.length * b ≤ 140737488351232 := Cd.mono (fun ps ⟨es, h1, h2, h3⟩ => by
  have : ∃ l : List α, es = l.map c ∧ ∀ a ∈ l, Q a := by
    clear h1 h3
    induction es with
    | nil => exact ⟨[], rfl, fun a h => nomatch h⟩
    | cons e es ih =>
      obtain ⟨a, ha, hq⟩ := h2 e (List.mem_cons_self ..)
      obtain ⟨l, hl, hl2⟩ := ih fun x hx => h2 x (List.mem_cons_of_mem _ hx)
      exact ⟨a :: l, by rw [ha, hl]; rfl, fun b hb => by
        rcases List.mem_cons.1 hb with rfl | hb
        · exact hq
        · exact hl2 b hb⟩
  obtain ⟨l, rfl, hl⟩ := this
  exact ⟨l, h1, hl, by rw [← hb]; simpa using h3⟩) (Cd_slice ht hz hpos h)

/-- Fields one behind another. -/
def Flds (P : Program) : List Field → List Nat → List (List PV → Prop) → Nat → Prop
  | [], [], [], _ => True
  | f :: fs, z :: zs, R :: Rs, o => f.offset = o ∧ P.cellsOf f.type = z ∧ Cd P f.type z R ∧ Flds P fs zs Rs (o + z)
  | _, _, _, _ => False
/-- Parts one behind another. -/
def Prts : List (List PV → Prop) → List PV → Prop
  | [], ps => ps = []
  | R :: Rs, ps => ∃ a b, ps = a ++ b ∧ R a ∧ Prts Rs b

theorem Flds.read {T : Type} {enc : TypeId × Value → T} {W : World} {n : Nat} {cs : List Value} : ∀ {fs : List Field} {zs : List Nat} {Rs : List (List PV → Prop)} {o : Nat}, Flds P fs zs Rs o → o + zs.sum = cs.length →
    (∀ (j : Nat) f, fs[j]? = some f → ∃ y, DataW.trod enc P W 0 (fun _ => true) true n f.type ((cs.drop f.offset).take (P.cellsOf f.type)) = some y ∧ (y.1.weights P f.type).all (· ≤ reachBytes) = true) →
    ∃ ps, Prts Rs ps ∧ ps.length = zs.sum ∧ ∀ (k : Nat) p, ps[k]? = some p → ∃ v, cs[o + k]? = some v ∧ PR (g0 W).ro p v
  | [], [], [], o, _, _, _ => ⟨[], rfl, rfl, fun k p h => by simp at h⟩
  | f :: fs, z :: zs, R :: Rs, o, ⟨h1, h2, h3, h4⟩, hl, hx => by
    obtain ⟨y, hy, hyw⟩ := hx 0 f rfl
    rw [h1, h2] at hy
    obtain ⟨q1, ps, q2, q3, q4⟩ := h3 enc W n _ _ hy hyw
    obtain ⟨qs, r1, r2, r3⟩ := Flds.read h4 (by simp at hl; omega) fun j f hj => hx (j + 1) f hj
    refine ⟨ps ++ qs, ⟨ps, qs, rfl, q2, r1⟩, by simp [q3, r2], fun k p hk => ?_⟩
    rcases Nat.lt_or_ge k ps.length with hkl | hkl
    · rw [List.getElem?_append_left hkl] at hk
      obtain ⟨v, v1, v2⟩ := q4 k p hk
      rw [List.getElem?_take_of_lt (by omega), List.getElem?_drop] at v1
      exact ⟨v, v1, v2⟩
    · rw [List.getElem?_append_right hkl] at hk
      obtain ⟨v, v1, v2⟩ := r3 _ p hk
      exact ⟨v, by rw [← v1]; congr 1; omega, v2⟩
  | [], [], _ :: _, _, h, _, _ => h.elim
  | [], _ :: _, _, _, h, _, _ => h.elim
  | _ :: _, [], _, _, h, _, _ => h.elim
  | _ :: _, _ :: _, [], _, h, _, _ => h.elim

end Go.Proofs.Yteclchefihcjkaa.Am
