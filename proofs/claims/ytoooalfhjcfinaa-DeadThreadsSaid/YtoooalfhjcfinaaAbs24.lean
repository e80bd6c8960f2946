import Derived.Test.YtoooalfhjcfinaaAbs14
namespace Go.Abs
set_option linter.unusedVariables false
set_option linter.unusedSimpArgs false
variable {P : Program}

/-! ### A contract under other names -/
section
variable {O O' A : Nat → Prop} {ρ : Nat → Value} {w : World} {H : List (Nat × Obj)} {g : Nat → Nat}

theorem look_ren (hg : ∀ a b, g a = g b → a = b) (id : Nat) : ∀ (H : List (Nat × Obj)), look (g id) (heapRen g H) = (look id H).map (·.ren g)
  | [] => rfl
  | (k, o) :: r => by
    simp only [heapRen, List.map_cons, look]
    cases hb : Nat.beq k id with
    | true => have := Nat.eq_of_beq_eq_true hb; subst this; simp [Nat.beq_refl]
    | false =>
      have : Nat.beq (g k) (g id) = false := by
        cases hq : Nat.beq (g k) (g id) with
        | false => rfl
        | true => have := hg _ _ (Nat.eq_of_beq_eq_true hq); subst this; rw [Nat.beq_refl] at hb; cases hb
      rw [this]
      simp only [cond_false]
      exact look_ren hg id r

theorem look_ren_inv (H : List (Nat × Obj)) {k : Nat} {o' : Obj} (h : look k (heapRen g H) = some o') : ∃ id, g id = k := by
  have := look_mem h
  simp only [heapRen, List.mem_map] at this
  obtain ⟨x, _, hx⟩ := this
  injection hx with h1 _
  exact ⟨x.1, h1⟩

mutual
theorem CR.unren (hg : ∀ a b, g a = g b → a = b) (hO : ∀ b, b < w.heap.size → O' b → O b) : ∀ (c : Cell) {v : Value}, CR O ρ (look · (heapRen g H)) w v (c.ren g) → CR O' (ρ ∘ g) (look · H) w v c
  | .t x, v, h => .t (h.tr.mono (fun _ _ _ => rfl) hO)
  | .own id, v, h => by
    simp only [Cell.ren] at h
    cases h with
    | own h h1 =>
      rw [look_ren hg] at h
      simp only [Option.map_eq_some_iff] at h
      obtain ⟨o, ho, _⟩ := h
      exact CR.own (ρ := ρ ∘ g) ho h1
    | ownj h h1 =>
      rw [look_ren hg] at h
      exact .ownj (by simpa using h) h1
  | .ptr id i j, v, h => by
    simp only [Cell.ren] at h
    cases h with
    | ptr h hb =>
      rw [look_ren hg] at h
      simp only [Option.map_eq_some_iff] at h
      obtain ⟨o, ho, rfl⟩ := h
      rw [Obj.ren_es]
      exact CR.ptr (ρ := ρ ∘ g) ho hb
    | ptrj h h1 =>
      rw [look_ren hg] at h
      exact .ptrj (by simpa using h) h1
  | .rop cells, v, h => by
    simp only [Cell.ren] at h
    exact h.mono (fun _ _ _ => rfl) hO (fun id o' hh => by simp [Cell.has] at hh)
  | .clo f caps, v, h => by
    simp only [Cell.ren] at h
    cases h with
    | clo vals hlen hrel =>
      have := CRs.unren hg hO caps (vs := vals) ⟨hlen, hrel⟩
      exact .clo vals this.1 this.2
theorem CRs.unren (hg : ∀ a b, g a = g b → a = b) (hO : ∀ b, b < w.heap.size → O' b → O b) : ∀ (cs : List Cell) {vs : List Value}, CRs O ρ (look · (heapRen g H)) w vs (renL g cs) → CRs O' (ρ ∘ g) (look · H) w vs cs
  | [], vs, h => by
    have : vs = [] := List.length_eq_zero_iff.1 (by simpa [renL] using h.1)
    subst this; exact CRs.nil
  | c :: r, [], h => by have := h.1; simp [renL] at this
  | c :: r, v :: vs, h => by
    simp only [renL] at h
    refine CRs.cons (CR.unren hg hO c (h.2 0 v _ rfl rfl)) (CRs.unren hg hO r ⟨by have := h.1; simpa using this, fun k u d hu hd => h.2 (k + 1) u d (by simpa using hu) (by simpa using hd)⟩)
end

theorem AR.unren (hg : ∀ a b, g a = g b → a = b) (hO : ∀ b, b < w.heap.size → O' b → O b) {x : AT} {v : Value} (h : AR O ρ (look · (heapRen g H)) w v (x.ren g)) : AR O' (ρ ∘ g) (look · H) w v x := by
  have one : ∀ {v : Value} {b : Bool} {cs : List Cell}, VR O ρ (look · (heapRen g H)) w v b (renL g cs) → VR O' (ρ ∘ g) (look · H) w v b cs := by
    intro v b cs h
    cases b with
    | true => obtain ⟨vs, rfl, h⟩ := h; exact ⟨vs, rfl, CRs.unren hg hO cs h⟩
    | false =>
      obtain ⟨c, hc, h⟩ := h
      match cs with
      | [] => simp [renL] at hc
      | [d] => simp [renL] at hc; subst hc; exact ⟨d, rfl, CR.unren hg hO d h⟩
      | _ :: _ :: _ => simp [renL] at hc
  cases x with
  | v agg cells => exact one h
  | tp xs =>
    obtain ⟨vs, rfl, hl, h⟩ := h
    refine ⟨vs, rfl, by simpa using hl, fun k u x hu hx => one (h k u (x.1, renL g x.2) hu (by simp [hx]))⟩

theorem owned_ren (hg : ∀ a b, g a = g b → a = b) {b : Nat} : owned ρ (look · (heapRen g H)) b ↔ owned (ρ ∘ g) (look · H) b := by
  constructor
  · rintro ⟨k, o, hk, hb⟩
    obtain ⟨id, rfl⟩ := look_ren_inv H hk
    simp only [look_ren hg, Option.map_eq_some_iff] at hk
    obtain ⟨o2, h2, _⟩ := hk
    exact ⟨id, o2, h2, hb⟩
  · rintro ⟨id, o, ho, hb⟩
    exact ⟨g id, o.ren g, by simp only [look_ren hg, ho]; rfl, hb⟩

theorem MR.unren (hg : ∀ a b, g a = g b → a = b) (h : MR A ρ (look · (heapRen g H)) w) : MR A (ρ ∘ g) (look · H) w := by
  have hO : ∀ b, b < w.heap.size → (A b ∨ owned (ρ ∘ g) (look · H) b) → (A b ∨ owned ρ (look · (heapRen g H)) b) := fun b _ hb => hb.imp (fun x => x) fun x => (owned_ren hg).2 x
  have hl : ∀ {id o}, look id H = some o → look (g id) (heapRen g H) = some (o.ren g) := fun ho => by rw [look_ren hg, ho]; rfl
  refine ⟨fun id o ho => ?_, fun i j a b k hi hj hbi hbj => hg _ _ (h.disj (g i) (g j) (a.ren g) (b.ren g) k (hl hi) (hl hj) hbi hbj), fun id o k ho hb => h.av (g id) (o.ren g) k (hl ho) hb⟩
  have hor := h.obj (g id) (o.ren g) (hl ho)
  cases o with
  | box ty cells => obtain ⟨k, vs, h1, h2, h3⟩ := hor; exact ⟨k, vs, h1, h2, CRs.unren hg hO cells h3⟩
  | rows ty es enc z xs => obtain ⟨vs, h1, h2, h3⟩ := hor; exact ⟨vs, h1, h2, h3.mono (fun _ _ _ => rfl) hO⟩
  | ghost vs cells => exact ⟨hor.1, CRs.unren hg hO cells hor.2⟩

end

/-- A contract, with other names. -/
theorem AC.ren {f : FuncId} {H : List (Nat × Obj)} {args : List AT} {H' : List (Nat × Obj)} {res : AT} (h : AC P f H args H' res) {g : Nat → Nat} (hg : ∀ a b, g a = g b → a = b) :
    AC P f (heapRen g H) (args.map (·.ren g)) (heapRen g H') (res.ren g) := by
  intro W A ρ vs hA hmr hlow hargs
  have hl : ∀ {id o}, look id H = some o → look (g id) (heapRen g H) = some (o.ren g) := fun ho => by rw [look_ren hg, ho]; rfl
  have hO : ∀ b, b < W.heap.size → (A b ∨ owned (ρ ∘ g) (look · H) b) → (A b ∨ owned ρ (look · (heapRen g H)) b) := fun b _ hb => hb.imp (fun x => x) fun x => (owned_ren hg).2 x
  refine (h W A (ρ ∘ g) vs hA (hmr.unren hg) (fun id o k ho hb => hlow (g id) (o.ren g) k (hl ho) hb) ⟨by simpa using hargs.1, fun k v x hv hx => AR.unren hg hO (hargs.2 k v (x.ren g) hv (by simp [hx]))⟩).mono fun e w' => ?_
  rintro ⟨ρ', v, he, hext, hmr', hpl, hv⟩
  classical
  generalize hρ : (fun k => if hk : ∃ id, g id = k then ρ' (Classical.choose hk) else undef) = ρ''
  have hρg : ∀ id, ρ'' (g id) = ρ' id := fun id => by
    have hk : ∃ i, g i = g id := ⟨id, rfl⟩
    rw [← hρ]
    simp only [hk, dif_pos]
    rw [hg _ _ (Classical.choose_spec hk)]
  have hcomp : ρ'' ∘ g = ρ' := funext hρg
  have hl' : ∀ {k o'}, look k (heapRen g H') = some o' → ∃ id o, g id = k ∧ look id H' = some o ∧ o' = o.ren g := by
    intro k o' hk
    obtain ⟨id, rfl⟩ := look_ren_inv H' hk
    rw [look_ren hg] at hk
    simp only [Option.map_eq_some_iff] at hk
    obtain ⟨o, ho, rfl⟩ := hk
    exact ⟨id, o, rfl, ho, rfl⟩
  have hown : ∀ b, owned ρ'' (look · (heapRen g H')) b ↔ owned ρ' (look · H') b := fun b => by rw [owned_ren hg, hcomp]
  have hO' : ∀ b, b < w'.heap.size → (A b ∨ owned ρ'' (look · (heapRen g H')) b) → (A b ∨ owned ρ' (look · H') b) := fun b _ hb => hb.imp (fun x => x) fun x => (hown b).1 x
  have hid : ∀ id o', look (g id) (heapRen g H') = some o' → ∃ o, look id H' = some o ∧ o.es = o'.es ∧ ρ'' (g id) = ρ' id := by
    intro id o' hk
    rw [look_ren hg] at hk
    simp only [Option.map_eq_some_iff] at hk
    obtain ⟨o, ho, rfl⟩ := hk
    exact ⟨o, ho, (Obj.ren_es g o).symm, hρg id⟩
  refine ⟨ρ'', v, he, ⟨hext.os, hext.tape, hext.output, hext.size, fun b hb => hext.block b ⟨hb.1, fun ho => hb.2 ((owned_ren hg).2 ho)⟩⟩, ⟨fun k o' hk => ?_, fun i j a b k hi hj hbi hbj => ?_, fun k o' q hk hb => ?_⟩, fun k o' q hk hb => ?_, hv.rename hO' fun id o' _ hk => hid id o' hk⟩
  · obtain ⟨id, o, rfl, ho, rfl⟩ := hl' hk
    have hor := hmr'.obj id o ho
    cases o with
    | box ty cells => obtain ⟨q, us, h1, h2, h3⟩ := hor; exact ⟨q, us, (hρg id).trans h1, h2, h3.rename hO' fun id o' _ hk => hid id o' hk⟩
    | rows ty es enc z xs => obtain ⟨us, h1, h2, h3⟩ := hor; exact ⟨us, by rw [hρg id]; exact h1, h2, h3.mono (fun _ _ _ => rfl) hO'⟩
    | ghost us cells => exact ⟨by rw [hρg id]; exact hor.1, hor.2.rename hO' fun id o' _ hk => hid id o' hk⟩
  · obtain ⟨i, a, rfl, ha, rfl⟩ := hl' hi
    obtain ⟨j, b, rfl, hb, rfl⟩ := hl' hj
    rw [hρg] at hbi hbj
    rw [hmr'.disj i j a b k ha hb hbi hbj]
  · obtain ⟨id, o, rfl, ho, rfl⟩ := hl' hk
    rw [hρg] at hb
    exact hmr'.av id o q ho hb
  · obtain ⟨id, o, rfl, ho, rfl⟩ := hl' hk
    rw [hρg] at hb
    obtain ⟨q1, q2⟩ := hpl id o q ho hb
    exact ⟨q1, q2.imp (fun x => (owned_ren hg).2 x) (fun x => x)⟩

/-- A contract of a function that is handed memory, with other names. -/
theorem AC2.ren {f : FuncId} {H : List (Nat × Obj)} {args : List Cell} {H' : List (Nat × Obj)} {res : AT} (h : AC2 P f H args H' res) {g : Nat → Nat} (hg : ∀ a b, g a = g b → a = b) :
    AC2 P f (heapRen g H) (renL g args) (heapRen g H') (res.ren g) := by
  intro W A ρ vs hA hmr hlow hargs
  have hl : ∀ {id o}, look id H = some o → look (g id) (heapRen g H) = some (o.ren g) := fun ho => by rw [look_ren hg, ho]; rfl
  have hO : ∀ b, b < W.heap.size → (A b ∨ owned (ρ ∘ g) (look · H) b) → (A b ∨ owned ρ (look · (heapRen g H)) b) := fun b _ hb => hb.imp (fun x => x) fun x => (owned_ren hg).2 x
  refine (h W A (ρ ∘ g) vs hA (hmr.unren hg) (fun id o k ho hb => hlow (g id) (o.ren g) k (hl ho) hb) (CRs.unren hg hO args hargs)).mono fun e w' => ?_
  rintro ⟨ρ', v, he, hext, hmr', hpl, hv, hback⟩
  classical
  generalize hρ : (fun k => if hk : ∃ id, g id = k then ρ' (Classical.choose hk) else undef) = ρ''
  have hρg : ∀ id, ρ'' (g id) = ρ' id := fun id => by
    have hk : ∃ i, g i = g id := ⟨id, rfl⟩
    rw [← hρ]
    simp only [hk, dif_pos]
    rw [hg _ _ (Classical.choose_spec hk)]
  have hcomp : ρ'' ∘ g = ρ' := funext hρg
  have hl' : ∀ {k o'}, look k (heapRen g H') = some o' → ∃ id o, g id = k ∧ look id H' = some o ∧ o' = o.ren g := by
    intro k o' hk
    obtain ⟨id, rfl⟩ := look_ren_inv H' hk
    rw [look_ren hg] at hk
    simp only [Option.map_eq_some_iff] at hk
    obtain ⟨o, ho, rfl⟩ := hk
    exact ⟨id, o, rfl, ho, rfl⟩
  have hown : ∀ b, owned ρ'' (look · (heapRen g H')) b ↔ owned ρ' (look · H') b := fun b => by rw [owned_ren hg, hcomp]
  have hO' : ∀ b, b < w'.heap.size → (A b ∨ owned ρ'' (look · (heapRen g H')) b) → (A b ∨ owned ρ' (look · H') b) := fun b _ hb => hb.imp (fun x => x) fun x => (hown b).1 x
  have hid : ∀ id o', look (g id) (heapRen g H') = some o' → ∃ o, look id H' = some o ∧ o.es = o'.es ∧ ρ'' (g id) = ρ' id := by
    intro id o' hk
    rw [look_ren hg] at hk
    simp only [Option.map_eq_some_iff] at hk
    obtain ⟨o, ho, rfl⟩ := hk
    exact ⟨o, ho, (Obj.ren_es g o).symm, hρg id⟩
  refine ⟨ρ'', v, he, ⟨hext.os, hext.tape, hext.output, hext.size, fun b hb => hext.block b ⟨hb.1, fun ho => hb.2 ((owned_ren hg).2 ho)⟩⟩, ⟨fun k o' hk => ?_, fun i j a b k hi hj hbi hbj => ?_, fun k o' q hk hb => ?_⟩, fun k o' q hk hb => ?_, hv.rename hO' fun id o' _ hk => hid id o' hk, hback.rename hO' fun id o' _ hk => hid id o' hk⟩
  · obtain ⟨id, o, rfl, ho, rfl⟩ := hl' hk
    have hor := hmr'.obj id o ho
    cases o with
    | box ty cells => obtain ⟨q, us, h1, h2, h3⟩ := hor; exact ⟨q, us, (hρg id).trans h1, h2, h3.rename hO' fun id o' _ hk => hid id o' hk⟩
    | rows ty es enc z xs => obtain ⟨us, h1, h2, h3⟩ := hor; exact ⟨us, by rw [hρg id]; exact h1, h2, h3.mono (fun _ _ _ => rfl) hO'⟩
    | ghost us cells => exact ⟨by rw [hρg id]; exact hor.1, hor.2.rename hO' fun id o' _ hk => hid id o' hk⟩
  · obtain ⟨i, a, rfl, ha, rfl⟩ := hl' hi
    obtain ⟨j, b, rfl, hb, rfl⟩ := hl' hj
    rw [hρg] at hbi hbj
    rw [hmr'.disj i j a b k ha hb hbi hbj]
  · obtain ⟨id, o, rfl, ho, rfl⟩ := hl' hk
    rw [hρg] at hb
    exact hmr'.av id o q ho hb
  · obtain ⟨id, o, rfl, ho, rfl⟩ := hl' hk
    rw [hρg] at hb
    obtain ⟨q1, q2⟩ := hpl id o q ho hb
    exact ⟨q1, q2.imp (fun x => (owned_ren hg).2 x) (fun x => x)⟩

/-- Two names exchanged. -/
def swapN (i j k : Nat) : Nat := bif Nat.beq k i then j else bif Nat.beq k j then i else k
theorem swapN_inj (i j : Nat) : ∀ a b, swapN i j a = swapN i j b → a = b := by
  intro a b h
  unfold swapN at h
  have e : ∀ x y : Nat, Nat.beq x y = decide (x = y) := fun x y => by
    cases hb : Nat.beq x y with
    | true => simp [Nat.eq_of_beq_eq_true hb]
    | false =>
      have : x ≠ y := fun e => by subst e; rw [Nat.beq_refl] at hb; cases hb
      simp [this]
  simp only [e, Bool.cond_decide] at h
  split at h <;> split at h <;> (try split at h) <;> (try split at h) <;> omega
end Go.Abs
