/- The evaluator: operations in the text's order, by their values. -/
import Derived.Test.YteclchefihcjkaaM10c
namespace Go.Proofs.Yteclchefihcjkaa.Am
open Go

/-- Which way an operation that makes a row goes, by the temporary that it writes. -/
abbrev Hints := Nat → Nat

def hintAt (hint : Hints) : Option Nat → Nat
  | some d => hint d
  | none => 0

def aCall (P : Program) (m : Nat) (c : Call) (fr : Frm) (H : Mem) (K : AV → Mem → Prop) : Prop :=
  match c with
  | ⟨.value (.func f), xs, _⟩ => ACalls P f (xs.toList.map (aev fr)) H K
  | ⟨.value (.tmp t), xs, _⟩ => (match fr t with | .fn (.func f) first caps => ACalls P f (first ++ xs.toList.map (aev fr) ++ caps) H K | _ => False)
  | ⟨.builtin .len, ⟨[x]⟩, ⟨[t]⟩⟩ => (match aLen P t (aev fr x) H with | some n => K (.sc (.int .i64 n)) H | none => False)
  | ⟨.builtin .append, ⟨[x, y]⟩, ⟨[t, u]⟩⟩ => (match m with
    | 3 => aAppendIn P t u (aev fr x) (aev fr y) H K
    | 4 => aAppendH P t u (aev fr x) (aev fr y) H K
    | m => aAppend P m t u (aev fr x) (aev fr y) H K)
  | ⟨.builtin .clear, ⟨[x]⟩, ⟨[t]⟩⟩ => aClear P t (aev fr x) H K
  | ⟨.builtin .copy, ⟨[x, y]⟩, ⟨[t, _]⟩⟩ => aCopy P t (aev fr x) (aev fr y) H K
  | ⟨.builtin .max, ⟨[x, y]⟩, _⟩ => (match aMax (aev fr x) (aev fr y) with | some v => K (.sc v) H | none => False)
  | ⟨.builtin .min, ⟨[x, y]⟩, _⟩ => (match aMin (aev fr x) (aev fr y) with | some v => K (.sc v) H | none => False)
  | _ => False

def aOp (P : Program) (m : Nat) (op : Op) (fr : Frm) (H : Mem) (K : AV → Mem → Prop) : Prop :=
  match op with
  | .move x => K (aev fr x) H
  | .assign x => K (aev fr x) H
  | .pick c x y => (match aev fr c with | .sc (.bool b) => K (if b then aev fr x else aev fr y) H | _ => False)
  | .alloc t => (match tinf P t with | some (_, _, some z) => K (.pt H.length 0) (H ++ [.cells (zeroCs z)]) | _ => False)
  | .box _ x => (aev fr x).flat = true ∧ K (.pt H.length 0) (H ++ [.cells (aev fr x).cells])
  | .build t ps => aBuild P t (ps.toList.map fun x => (x.1, aev fr x.2)) fun r => K r H
  | .buildSlice t len ps => aBuildSlice P m t len (ps.toList.map fun x => (x.1, aev fr x.2)) H K
  | .load t x => aLoad P t (aev fr x) H K
  | .store t x y => aStore P t (aev fr x) (aev fr y) H K
  | .nilCheck x => (aev fr x).there = true ∧ K (aev fr x) H
  | .binOp op t x y _ => (match aev fr x, aev fr y with
    | .sl _ es _, .sc (.slice none 0 0) => aNil P op t es fun b => K (.sc (.bool b)) H
    | _, _ => (match aBin P op t (aev fr x) (aev fr y) with | some v => K (.sc v) H | none => False))
  | .unOp op _ x => (match aUn op (aev fr x) with | some v => K (.sc v) H | none => False)
  | .convert s d x => (match P.underlying d with
    | some (.slice _) => aBytes P m s d (aev fr x) H K
    | _ => (match aConv P s d (aev fr x) with | some v => K (.sc v) H | none => False))
  | .makeFunc f first caps => K (.fn f (first.toList.map (aev fr)) (caps.toList.map (aev fr))) H
  | .makeSlice t x y => aMake P m t (aev fr x) (aev fr y) H K
  | .slice t x lo hi mx => (match bnd fr lo, bnd fr hi, bnd fr mx with | some l, some h, some q => aSlice P t (aev fr x) l h q H K | _, _, _ => False)
  | .fieldAddr s x i => aFieldAddr P s (aev fr x) i H K
  | .field t x i => aField P t (aev fr x) i H K
  | .indexAddr t x y => aIndexAddr P t (aev fr x) (aev fr y) H K
  | .index t x y => aIndex P t (aev fr x) (aev fr y) H K
  | .extract x i => (match aev fr x with | .tp vs => (match vs[i]? with | some a => K a H | none => False) | _ => False)
  | .call c => aCall P m c fr H K
  | _ => False

theorem aOp_sound {P : Program} {m : Nat} {o : Oper} {fr : Frm} {H : Mem} {K : AV → Mem → Prop} (h : aOp P m o.op fr H K) : OpS P o fr H K := by
  obtain ⟨dst, op, ty, pos, after, guard⟩ := o
  simp only at h
  unfold aOp at h
  split at h
  · exact opS_move h
  · exact opS_assign h
  · split at h
    · rename_i b hc; exact opS_pick hc h
    · exact h.elim
  · split at h
    · rename_i ht; exact opS_alloc ht h
    · exact h.elim
  · exact opS_box h.1 h.2
  · exact opS_build h
  · exact opS_buildSlice m h
  · exact opS_load h
  · exact opS_store h
  · exact opS_nilCheck h.1 h.2
  · split at h
    · rename_i hx hy; exact opS_isNil hx hy h
    · split at h
      · rename_i hv; exact opS_binOp hv h
      · exact h.elim
  · split at h
    · rename_i hv; exact opS_unOp hv h
    · exact h.elim
  · split at h
    · exact opS_bytes m h
    · split at h
      · rename_i hv; exact opS_convert hv h
      · exact h.elim
  · exact opS_makeFunc h
  · exact opS_makeSlice m h
  · split at h
    · rename_i h1 h2 h3; exact opS_slice h1 h2 h3 h
    · exact h.elim
  · exact opS_fieldAddr h
  · exact opS_field h
  · exact opS_indexAddr h
  · exact opS_index h
  · split at h
    · rename_i hx
      split at h
      · rename_i ha; exact opS_extract hx ha h
      · exact h.elim
    · exact h.elim
  · unfold aCall at h
    split at h
    · exact opS_call h
    · split at h
      · rename_i ht; exact opS_callv ht h
      · exact h.elim
    · split at h
      · rename_i hn; exact opS_len hn h
      · exact h.elim
    · split at h
      · exact opS_appendIn h
      · exact opS_appendH h
      · exact opS_append _ h
    · exact opS_clear h
    · exact opS_copy h
    · split at h
      · rename_i hv; exact opS_max hv h
      · exact h.elim
    · split at h
      · rename_i hv; exact opS_min hv h
      · exact h.elim
    · exact h.elim
  · exact h.elim

/-- The operations one by one. -/
def ARun (P : Program) (hint : Hints) (ops : Array Oper) : List Oper → Frm → Mem → (Frm → Mem → Prop) → Prop
  | [], fr, H, K => K fr H
  | o :: rest, fr, H, K =>
    match agd ops fr o with
    | some true => aOp P (hintAt hint o.dst) o.op fr H fun r H' => ARun P hint ops rest (fr.put o.dst r) H' K
    | some false => ARun P hint ops rest (fr.put o.dst undefA) H K
    | none => False

theorem ARun_sound {P : Program} {hint : Hints} {ops : Array Oper} {K : Frm → Mem → Prop} : ∀ {l : List Oper} {fr : Frm} {H : Mem}, ARun P hint ops l fr H K → OpsS P ops l fr H K
  | [], _, _, h => h
  | o :: rest, fr, H, h => by
    simp only [ARun] at h
    simp only [OpsS]
    cases hg : agd ops fr o with
    | none => rw [hg] at h; exact h.elim
    | some b =>
      rw [hg] at h
      cases b with
      | true =>
        have h2 := aOp_sound (o := o) h
        exact h2.mono fun r H' k => ARun_sound k
      | false => exact ARun_sound (l := rest) h

theorem aw_run {P : Program} {N n0 : Nat} {fr : Frm} {H : Mem} {Q : Exit → Frm → Mem → Prop} {id : Nat} {l : List Oper} (hint : Hints) (hlt : dstsLt l N = true) (h : ARun P hint l.toArray l fr H fun fr H => Q .normal fr H) :
    aw P N n0 (.region id l.toArray false) fr H Q := aw_region hlt (ARun_sound h)

end Go.Proofs.Yteclchefihcjkaa.Am
