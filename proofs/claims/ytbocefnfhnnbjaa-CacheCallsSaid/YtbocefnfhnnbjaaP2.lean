/-
  Plain laws: the directory and the reference agree, act by act. No walk.
-/
import Derived.Test.YtbocefnfhnnbjaaP1
import Derived.Test.YtbocefnfhnnbjaaR10
namespace Go.Proofs.Ytbocefnfhnnbjaa
open Go.Sort

/-- The directory (c, R, C, G) and the reference's versions V and entries E say the same of pages that are not negative. -/
structure Lk (c : Int) (R : List (Int × Int)) (C : List ((Int × Int) × Int)) (G : List ((Int × Int × Int) × Unit)) (V : List Tri) (E : List Tri) : Prop where
  c0 : 0 ≤ c
  r : ∀ i v, alook R i = some v → v ≤ c
  cc : ∀ k v, alook C k = some v → v ≤ c
  v : ∀ x ∈ V, x.2.2 ≤ c
  ver : ∀ id pg, 0 ≤ pg → verOf R C id pg = ofV V id pg
  ent : ∀ k, E.contains k = (alook G k).isSome

theorem lk_new : Lk 0 [] [] [] [] [] := ⟨by omega, fun _ _ h => by simp [alook] at h, fun _ _ h => by simp [alook] at h, fun _ h => by simp at h, fun _ _ _ => rfl, fun _ => rfl⟩

theorem ver_le {c R C} (h0 : 0 ≤ c) (hr : ∀ i v, alook R i = some v → v ≤ c) (hc : ∀ k v, alook C k = some v → v ≤ c) (i p : Int) : verOf R C i p ≤ c ∧ (alook R i).getD 0 ≤ c ∧ (alook C (i, p)).getD 0 ≤ c := by
  have h1 : (alook R i).getD 0 ≤ c := by cases hh : alook R i with
    | none => exact h0
    | some v => exact hr i v hh
  have h2 : (alook C (i, p)).getD 0 ≤ c := by cases hh : alook C (i, p) with
    | none => exact h0
    | some v => exact hc (i, p) v hh
  refine ⟨?_, h1, h2⟩
  unfold verOf; split <;> assumption

theorem lk_register {c R C G V E} (h : Lk c R C G V E) (e : Tri) : Lk c R C (aset G e ()) V (regE E e) := by
  refine ⟨h.c0, h.r, h.cc, h.v, h.ver, fun k => ?_⟩
  rw [alook_aset]
  unfold regE
  by_cases hk : e = k
  · subst hk
    rw [if_pos rfl]
    cases hc : E.contains e
    · simp
    · simp only [if_true]; exact hc
  · rw [if_neg hk, ← h.ent k]
    split
    · rfl
    · rw [Bool.eq_iff_iff]; simp only [List.contains_iff_mem, List.mem_append, List.mem_singleton]
      exact ⟨fun h => h.elim id (fun e' => absurd e'.symm hk), Or.inl⟩

theorem lk_forget {c R C G V E} (h : Lk c R C G V E) (s : Int) : Lk c R C (G.filter fun p => !(p.1.1 == s)) V (E.filter fun y => y.1 != s) := by
  refine ⟨h.c0, h.r, h.cc, h.v, h.ver, fun k => ?_⟩
  rw [alook_filter G (fun x => !(x.1 == s)) k]
  have h1 := h.ent k
  rw [Bool.eq_iff_iff] at h1 ⊢
  rw [List.contains_iff_mem] at h1 ⊢
  rw [List.mem_filter, h1]
  cases hb : k.1 == s
  · simp [bne, hb]
  · simp [bne, hb]

theorem ofV_le {V : List Tri} {c : Int} (h0 : 0 ≤ c) (h : ∀ x ∈ V, x.2.2 ≤ c) (id pg : Int) : ofV V id pg ≤ c := by
  have key : ∀ (V : List Tri) (n : Int), n ≤ c → (∀ x ∈ V, x.2.2 ≤ c) → V.foldl (fun n v => if hitV id pg v then max n v.2.2 else n) n ≤ c := by
    intro V
    induction V with
    | nil => intro n h _; exact h
    | cons v V ih =>
      intro n hn hv
      refine ih _ ?_ (fun x hx => hv x (List.mem_cons_of_mem _ hx))
      have := hv v (by simp)
      show (if hitV id pg v then max n v.2.2 else n) ≤ c
      split
      · rw [Int.max_def]; split <;> assumption
      · exact hn
  exact key V 0 h0 h

theorem ofV_chg (V : List Tri) (id n i pg : Int) (hV : ∀ x ∈ V, x.2.2 ≤ n) (h0 : 0 ≤ n) : ∀ l : List Int, ofV (chgV V id n l) i pg = if (id == i && l.any (fun p => p == pg || p == allP)) = true then n else ofV V i pg := by
  intro l
  have key : ∀ m : Nat, ∀ l : List Int, l.length = m → ofV (chgV V id n l) i pg = if (id == i && l.any (fun p => p == pg || p == allP)) = true then n else ofV V i pg := by
    intro m
    induction m with
    | zero =>
      intro l hl
      have : l = [] := List.length_eq_zero_iff.1 hl
      subst this; simp [chgV]
    | succ m ih =>
      intro l hl
      have hne : l ≠ [] := fun e => by subst e; simp at hl
      rw [← List.dropLast_concat_getLast hne]
      generalize l.getLast hne = p
      have hdl : l.dropLast.length = m := by rw [List.length_dropLast]; omega
      generalize l.dropLast = l' at hdl
      rw [chgV_snoc, ofV_snoc, ih l' hdl]
      have hle := ofV_le h0 hV i pg
      unfold hitV
      simp only [List.any_append, List.any_cons, List.any_nil, Bool.or_false]
      cases h1 : id == i
      · simp
      · cases h2 : (p == pg || p == allP)
        · simp
        · cases h3 : l'.any (fun p => p == pg || p == allP)
          · simp; rw [Int.max_def, if_pos hle]
          · simp
  exact key l.length l rfl

theorem mem_chgE (id : Int) (k : Tri) : ∀ (l : List Int) (E : List Tri), k ∈ chgE E id l ↔ k ∈ E ∧ ∀ p ∈ l, keepE id p k = true := by
  intro l
  induction l with
  | nil => intro E; simp [chgE]
  | cons p l ih =>
    intro E
    show k ∈ chgE (E.filter (keepE id p)) id l ↔ _
    rw [ih, List.mem_filter, List.forall_mem_cons, and_assoc]

/-- One change: the pages as the directory and as the reference see them. -/
theorem lk_go {c R C G V E} (h : Lk c R C G V E) {R' C' G'} {id : Int} {l : List Int} (hr : ∀ i v, alook R' i = some v → v ≤ c + 1) (hc : ∀ k v, alook C' k = some v → v ≤ c + 1)
    (hver : ∀ i pg, 0 ≤ pg → verOf R' C' i pg = if (id == i && l.any (fun p => p == pg || p == allP)) = true then c + 1 else verOf R C i pg)
    (hG : ∀ k, (alook G' k).isSome = ((alook G k).isSome && !(id == k.2.1 && l.any (fun p => p == k.2.2 || p == allP)))) : Lk (c + 1) R' C' G' (chgV V id (c + 1) l) (chgE E id l) := by
  have h0 := h.c0
  refine ⟨by omega, hr, hc, fun x hx => ?_, fun i pg hp => ?_, fun k => ?_⟩
  · rcases List.mem_append.1 hx with h1 | h1
    · have := h.v x h1; omega
    · obtain ⟨p, _, rfl⟩ := List.mem_map.1 h1; exact Int.le_refl _
  · rw [hver i pg hp, ofV_chg V id (c + 1) i pg (fun x hx => by have := h.v x hx; omega) (by omega), h.ver i pg hp]
  · rw [hG k, ← h.ent k, Bool.eq_iff_iff, List.contains_iff_mem, mem_chgE, Bool.and_eq_true, List.contains_iff_mem]
    refine and_congr_right fun _ => ?_
    have hcomm : (k.2.1 != id) = !(id == k.2.1) := by
      rw [show (k.2.1 != id) = !(k.2.1 == id) from rfl, Bool.beq_comm]
    cases hid : id == k.2.1
    · simp [keepE, hcomm, hid]
    · simp only [Bool.true_and, Bool.not_eq_true', List.any_eq_false, keepE, hcomm, hid, Bool.not_true, Bool.false_or]
      refine forall_congr' fun p => forall_congr' fun _ => ?_
      rw [show (k.2.2 != p) = !(k.2.2 == p) from rfl, show (p != allP) = !(p == allP) from rfl, Bool.beq_comm (a := k.2.2)]
      cases p == k.2.2 <;> cases p == allP <;> simp

theorem lk_change {c R C G V E} (h : Lk c R C G V E) (id : Int) (l : List Int) (hl : ∀ p ∈ l, 0 ≤ p) :
    Lk (c + 1) R (chaAll C id (c + 1) l) (G.filter fun p => !(p.1.2.1 == id && l.contains p.1.2.2)) (chgV V id (c + 1) l) (chgE E id l) := by
  have hany : ∀ pg : Int, l.any (fun p => p == pg || p == allP) = l.contains pg := fun pg => by
    rw [Bool.eq_iff_iff, List.any_eq_true, List.contains_iff_mem]
    constructor
    · rintro ⟨p, hp, hx⟩
      rcases Bool.or_eq_true _ _ ▸ hx with h1 | h1
      · have : p = pg := by simpa using h1
        subst this; exact hp
      · have h2 : p = allP := by simpa using h1
        have := hl p hp
        rw [h2] at this; unfold allP at this; omega
    · intro hp; exact ⟨pg, hp, by simp⟩
  have h0 := h.c0
  refine lk_go h (fun i v e => by have := h.r i v e; omega) (fun k v e => ?_) (fun i pg hp => ?_) (fun k => ?_)
  · obtain ⟨i, pg⟩ := k
    rw [chaAll_look] at e
    split at e
    · have := Option.some.inj e; omega
    · have := h.cc _ v e; omega
  · rw [hany]
    have h1 := (ver_le h0 h.r h.cc i pg).2.1
    unfold verOf
    rw [chaAll_look]
    split
    · rw [if_pos (by simp; omega)]; rfl
    · rfl
  · rw [hany, alook_filter G (fun x => !(x.2.1 == id && l.contains x.2.2)) k, Bool.beq_comm (a := id)]
    cases (k.2.1 == id && l.contains k.2.2) <;> simp

theorem lk_renew {c R C G V E} (h : Lk c R C G V E) (id : Int) :
    Lk (c + 1) (aset R id (c + 1)) C (G.filter fun p => !(p.1.2.1 == id)) (chgV V id (c + 1) [allP]) (chgE E id [allP]) := by
  have h0 := h.c0
  have hany : ∀ pg : Int, [allP].any (fun p => p == pg || p == allP) = true := fun pg => by simp
  refine lk_go h (fun i v e => ?_) (fun k v e => by have := h.cc k v e; omega) (fun i pg hp => ?_) (fun k => ?_)
  · rw [alook_aset] at e
    split at e
    · have := Option.some.inj e; omega
    · have := h.r i v e; omega
  · rw [hany, Bool.and_true]
    have h1 := (ver_le h0 h.r h.cc i pg).2.2
    unfold verOf
    rw [alook_aset]
    by_cases hi : id = i
    · subst hi
      rw [if_pos rfl, if_neg (by simp; omega)]; simp
    · rw [if_neg hi]; simp [hi]
  · rw [hany, Bool.and_true, alook_filter G (fun x => !(x.2.1 == id)) k, Bool.beq_comm (a := id)]
    cases (k.2.1 == id) <;> simp

theorem sorted_ext : ∀ {l m : List Int}, l.Pairwise (· < ·) → m.Pairwise (· < ·) → (∀ x, x ∈ l ↔ x ∈ m) → l = m
  | [], [], _, _, _ => rfl
  | [], b :: m, _, _, h => by have := (h b).2 (by simp); simp at this
  | a :: l, [], _, _, h => by have := (h a).1 (by simp); simp at this
  | a :: l, b :: m, hl, hm, h => by
    rw [List.pairwise_cons] at hl hm
    have hab : a = b := by
      rcases List.mem_cons.1 ((h a).1 (by simp)) with h1 | h1
      · exact h1
      · rcases List.mem_cons.1 ((h b).2 (by simp)) with h2 | h2
        · exact h2.symm
        · have := hl.1 b h2; have := hm.1 a h1; omega
    subst hab
    rw [sorted_ext hl.2 hm.2 (fun x => ?_)]
    constructor
    · intro hx
      have h1 := hl.1 x hx
      rcases List.mem_cons.1 ((h x).1 (List.mem_cons_of_mem _ hx)) with h2 | h2
      · omega
      · exact h2
    · intro hx
      have h1 := hm.1 x hx
      rcases List.mem_cons.1 ((h x).2 (List.mem_cons_of_mem _ hx)) with h2 | h2
      · omega
      · exact h2

theorem holders_eq {c R C G V E} (h : Lk c R C G V E) (hn : (G.map Prod.fst).Nodup) (id pg : Int) : holders G id pg = setI (sysE E id pg) := by
  have hnd : (holders G id pg).Nodup := by
    unfold holders
    refine (List.mergeSort_perm _ _).symm.nodup ?_
    unfold pick
    have h1 : ((G.map Prod.fst).filter (fun x => x.2 == (id, pg))).Nodup := hn.filter _
    refine List.Pairwise.map _ ?_ (List.Pairwise.and_mem.1 h1)
    intro a b ⟨ha, hb, hne⟩ heq
    have h2 := (List.mem_filter.1 ha).2
    have h3 := (List.mem_filter.1 hb).2
    have h4 : a.2 = (id, pg) := by simpa using h2
    have h5 : b.2 = (id, pg) := by simpa using h3
    exact hne (Prod.ext heq (h4.trans h5.symm))
  refine sorted_ext ?_ (setI_sorted _) (fun x => ?_)
  · have hle : (holders G id pg).Pairwise (fun a b => a ≤ b) := by
      have := List.pairwise_mergeSort (le := leI) (fun a b c h1 h2 => by unfold leI at *; simp at *; omega) (fun a b => by unfold leI; simp; omega) (pick id pg (G.map (·.1)))
      exact this.imp (fun {a b} h => by unfold leI at h; simpa using h)
    exact (hle.and hnd).imp (fun {a b} h => by have := h.1; have := h.2; omega)
  · rw [setI_mem]
    unfold sysE
    rw [List.mem_map]
    have hm : ∀ k, k ∈ E ↔ k ∈ G.map Prod.fst := fun k => by
      rw [← List.contains_iff_mem, h.ent k]
      cases hk : alook G k with
      | none => simp [(alook_none_iff G k).1 hk]
      | some u => simp; exact ⟨_, alook_mem hk⟩
    constructor
    · intro hx
      have h1 := holders_mem hx
      exact ⟨(x, id, pg), List.mem_filter.2 ⟨(hm _).2 h1, by simp [hitE]⟩, rfl⟩
    · rintro ⟨y, hy, rfl⟩
      obtain ⟨h1, h2⟩ := List.mem_filter.1 hy
      obtain ⟨y1, y2, y3⟩ := y
      have h3 : y2 = id ∧ y3 = pg := by simpa [hitE] using h2
      obtain ⟨rfl, rfl⟩ := h3
      unfold holders pick
      refine (List.mergeSort_perm _ _).symm.mem_iff.1 (List.mem_map.2 ⟨(y1, y2, y3), List.mem_filter.2 ⟨(hm _).1 h1, by simp⟩, rfl⟩)

end Go.Proofs.Ytbocefnfhnnbjaa
