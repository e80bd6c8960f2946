import Derived.Test.YtoooalfhjcfinaaGen
import Derived.Deep.Slices
import Derived.WideShapes
import Derived.Below
namespace Go.Abs
open Go.ChangeShapes Go.WideShapes Go.Deep Go.RowKit
set_option linter.unusedVariables false

/-! ### Arguments, as they are read -/
section
variable {H : Type} {enc0 : TypeId × Value → H} {P : Program} {w : World} {base : Nat} {spare : Nat → Bool} {held : Bool}

abbrev no (_ : Nat) : Prop := False

/-- Whatever is read of type t is told by enc, and Q holds of it. -/
def Rds (enc0 : TypeId × Value → H) (P : Program) (w : World) (base : Nat) (spare : Nat → Bool) (held : Bool) (t : TypeId) {T : Type} (enc : T → List Tree) (Q : T → Prop) : Prop :=
  ∀ fuel cs x, DataW.trod enc0 P w base spare held fuel t cs = some x → ∃ z, TRs no w cs (enc z) ∧ Q z

theorem TRs.one {O : Nat → Prop} {v : Value} {t : Tree} (h : TR O w v t) : TRs O w [v] [t] := by
  refine ⟨rfl, fun k u x hu hx => ?_⟩
  cases k with
  | zero => simp at hu hx; subst hu; subst hx; exact h
  | succ k => simp at hu

theorem TRs.app {O : Nat → Prop} {vs vs' : List Value} {ts ts' : List Tree} (h : TRs O w vs ts) (h' : TRs O w vs' ts') : TRs O w (vs ++ vs') (ts ++ ts') := by
  refine ⟨by simp [h.1, h'.1], fun k v t hv ht => ?_⟩
  by_cases hk : k < vs.length
  · rw [List.getElem?_append_left hk] at hv
    rw [List.getElem?_append_left (by rw [← h.1]; exact hk)] at ht
    exact h.2 k v t hv ht
  · have hk' : vs.length ≤ k := Nat.le_of_not_lt hk
    rw [List.getElem?_append_right hk'] at hv
    rw [List.getElem?_append_right (by rw [← h.1]; exact hk'), ← h.1] at ht
    exact h'.2 _ v t hv ht

theorem TRs.glue {O : Nat → Prop} {cs : List Value} {off n off' : Nat} {ts rest : List Tree} (h : TRs O w ((cs.drop off).take n) ts) (e : off + n = off') (h' : TRs O w (cs.drop off') rest) : TRs O w (cs.drop off) (ts ++ rest) := by
  have := h.app h'
  rwa [← e, ← List.drop_drop, List.take_append_drop] at this

theorem TRs.fin {O : Nat → Prop} {cs : List Value} {off : Nat} (h : cs.length = off) : TRs O w (cs.drop off) [] := by
  rw [List.drop_of_length_le (by omega)]
  exact ⟨rfl, by simp⟩

theorem rd_int {t : TypeId} {k : IntKind} (ht : P.underlying t = some (.int k)) : Rds enc0 P w base spare held t (fun n : Int => [.lit (.int k n)]) (fun n => (Lit.int k n).wf = true) := by
  intro fuel cs x h
  obtain ⟨n, rfl, _, hw⟩ := DataW.trod_int ht h
  exact ⟨n, .one (.lit _ rfl), hw⟩

theorem rd_bool {t : TypeId} (ht : P.underlying t = some .bool) : Rds enc0 P w base spare held t (fun b : Bool => [.lit (.bool b)]) (fun _ => True) := by
  intro fuel cs x h
  obtain ⟨n, rfl, _⟩ := DataW.trod_bool ht h
  exact ⟨n, .one (.lit _ rfl), trivial⟩

theorem rd_str {t : TypeId} (ht : P.underlying t = some .string) : Rds enc0 P w base spare held t (fun b : ByteArray => [.lit (.string b)]) (fun b => b.size ≤ maxLen) := by
  intro fuel cs x h
  obtain ⟨n, rfl, _, hw⟩ := DataW.trod_string ht h
  exact ⟨n, .one (.lit _ rfl), hw⟩

theorem rd_slice {t e : TypeId} {T : Type} {enc : T → List Tree} {Q : T → Prop} {es : Nat} (z0 : T) (ht : P.underlying t = some (.slice e)) (he : P.cellsOf e = es) (hlen : ∀ z, (enc z).length = es) (hr : ∀ {base}, Rds enc0 P w base spare held e enc Q) :
    Rds enc0 P w base spare held t (fun xs : List T => [.ro es enc z0 xs]) (fun xs => xs.length ≤ maxLen ∧ ∀ x ∈ xs, Q x) := by
  intro fuel cs x h
  rcases open_slice ht h with ⟨rfl, _⟩ | ⟨a, len, cap, m, n, D, Pl, rfl, hb, hl, hm, hmm, _, hx⟩
  · exact ⟨[], .one (.nil ..), by simp, by simp⟩
  · have hlm : len ≤ m := by rw [hmm]; split <;> omega
    haveI : Inhabited (List Value × T) := ⟨([], z0)⟩
    obtain ⟨F, hF⟩ := choose_lt (α := List Value × T) (n := len) (p := fun i y => w.cells? base (a.add (i * es)) es = some y.1 ∧ TRs no w y.1 (enc y.2) ∧ Q y.2) (fun i hi => by
      obtain ⟨cs', h1, h2⟩ := hx i (by omega)
      obtain ⟨z, hz, hq⟩ := hr n cs' _ h2
      exact ⟨(cs', z), by rw [← he]; exact h1, hz, hq⟩)
    have key : ∀ l, l ≤ len → ((List.range l).flatMap fun i => (F i).1).length = l * es ∧ TRs no w ((List.range l).flatMap fun i => (F i).1) (((List.range l).map fun i => (F i).2).flatMap enc) ∧
        ∀ (k : Nat) v, ((List.range l).flatMap fun i => (F i).1)[k]? = some v → w.cell? (a.add k) = some v := by
      intro l
      induction l with
      | zero => intro _; exact ⟨by simp, ⟨rfl, by simp⟩, by simp⟩
      | succ l ih =>
        intro hle
        obtain ⟨i1, i2, i3⟩ := ih (by omega)
        obtain ⟨f1, f2, f3⟩ := hF l (by omega)
        obtain ⟨_, c1, c2⟩ := World.cells?_some f1
        rw [List.range_succ, List.flatMap_append, List.map_append, List.flatMap_append]
        simp only [List.flatMap_cons, List.flatMap_nil, List.append_nil, List.map_cons, List.map_nil]
        refine ⟨by rw [List.length_append, i1, c1, Nat.succ_mul], i2.app f2, fun k v hk => ?_⟩
        by_cases hlt : k < l * es
        · rw [List.getElem?_append_left (by rw [i1]; exact hlt)] at hk
          exact i3 k v hk
        · rw [List.getElem?_append_right (by rw [i1]; omega), i1] at hk
          have hj : k - l * es < es := by have := (List.getElem?_eq_some_iff.1 hk).1; omega
          have := c2 (k - l * es) hj
          rw [Deep.add_add, show l * es + (k - l * es) = k by omega] at this
          rw [this, hk]
    obtain ⟨k1, k2, k3⟩ := key len (Nat.le_refl _)
    have hxl : ((List.range len).map fun i => (F i).2).length = len := by simp
    refine ⟨(List.range len).map fun i => (F i).2, .one ?_, by rw [hxl]; omega, fun x hx => ?_⟩
    · have := TR.ro (O := no) (w := w) (es := es) (enc := enc) (z := z0) (xs := (List.range len).map fun i => (F i).2) a cap ((List.range len).flatMap fun i => (F i).1) (by rw [hxl]; exact hl) hm (fun x _ => hlen x) k2.1 k3 (.inr fun h => h) k2.2
      rwa [hxl] at this
    · simp only [List.mem_map, List.mem_range] at hx
      obtain ⟨i, hi, rfl⟩ := hx
      exact (hF i hi).2.2

theorem rd_field {T : Type} {enc : T → List Tree} {Q : T → Prop} {t : TypeId} {n i : Nat} {cs : List Value} {xs : List (DataW H × List MemPlace)} (h : Rds enc0 P w base spare held t enc Q)
    (hf : DataW.trod enc0 P w base spare held n t cs = xs[i]?) (hi : i < xs.length) : ∃ z, TRs no w cs (enc z) ∧ Q z := by
  rw [List.getElem?_eq_getElem hi] at hf
  exact h n cs _ hf

/-- What a call leaves, told as the row wants it. -/
theorem Ext.below {K : Nat → Prop} {W w : World} (h : Ext K W w) (hK : ∀ b, b < W.heap.size → K b) : Below W.heap.size W w :=
  ⟨h.os, h.tape, h.output, h.size, fun b hb => h.block b (hK b hb)⟩

theorem TRs.ars {vs : List Value} {ts : List Tree} {O : Nat → Prop} {ρ : Nat → Value} (hO : ∀ b, ¬ O b) (h : TRs no w vs ts) : AR O ρ (fun _ => none) w (.agg vs.toArray) (.v true (ts.map .t)) :=
  ⟨vs, rfl, (h.mono (fun _ _ _ => rfl) (fun b _ hb => hO b hb)).crs⟩

/-- A call that is handed nothing of its caller's own, and answers true. -/
theorem AC.law {f : FuncId} {vs : List Value} {args : List AT} {W : World} (h : AC P f [] args [] (v1 (cb true))) (hargs : ARs no (fun _ => undef) (fun _ => none) W vs args) :
    Calls P f vs.toArray W fun e w' => e = .returned (.bool true) ∧ Below W.heap.size W w' := by
  have hn : ∀ {ρ : Nat → Value} {b : Nat}, ¬ owned ρ (look · ([] : List (Nat × Obj))) b := by
    rintro ρ b ⟨id, o, ho, _⟩; simp [look] at ho
  refine (h W no (fun _ => undef) vs (fun b hb => hb.elim) ⟨fun id o ho => by simp [look] at ho, fun i j a b g hi => by simp [look] at hi, fun id o g ho => by simp [look] at ho⟩ (fun id o g ho => by simp [look] at ho) ?_).mono ?_
  · exact ⟨hargs.1, fun k v x hv hx => (hargs.2 k v x hv hx).mono (fun _ _ _ => rfl) (fun b _ hb => (hb.elim (fun h => h) (fun h => hn h))) (fun id o' _ ho => by simp [look] at ho)⟩
  · rintro e w' ⟨ρ', v, rfl, hext, _, _, hv⟩
    obtain ⟨c, hc, hv⟩ := hv
    simp at hc; subst hc
    have := hv.tr
    cases this with
    | lit => exact ⟨rfl, hext.below fun b hb => ⟨hb, hn⟩⟩
end
end Go.Abs
