/-
  Plain laws on versions: what each act does to the version of a page and to its registration. No walk.
-/
import Derived.Test.YtbocefnfhnnbjaaW7
namespace Go.Proofs.Ytbocefnfhnnbjaa

theorem alook_filter {κ ν : Type} [DecidableEq κ] (m : List (κ × ν)) (f : κ → Bool) (k : κ) : alook (m.filter (fun p => f p.1)) k = if f k then alook m k else none := by
  induction m with
  | nil => simp [alook]
  | cons p m ih =>
    rw [List.filter_cons]
    by_cases hf : f p.1 = true
    · rw [if_pos hf, alook_cons, alook_cons, ih]
      by_cases hk : p.1 = k
      · subst hk; simp [hf]
      · rw [if_neg hk, if_neg hk]
    · rw [if_neg hf, ih, alook_cons]
      by_cases hk : p.1 = k
      · subst hk; simp [hf]
      · rw [if_neg hk]

theorem chaAll_look (id n i p : Int) : ∀ (l : List Int) (C : List ((Int × Int) × Int)), alook (chaAll C id n l) (i, p) = if (id == i && l.contains p) = true then some n else alook C (i, p) := by
  intro l
  induction l with
  | nil => intro C; simp [chaAll]
  | cons q l ih =>
    intro C
    show alook (chaAll (aset C (id, q) n) id n l) (i, p) = _
    rw [ih, alook_aset]
    by_cases h1 : (id == i && l.contains p) = true
    · rw [if_pos h1, if_pos]
      rw [Bool.and_eq_true] at h1 ⊢
      exact ⟨h1.1, by simp at h1 ⊢; exact Or.inr h1.2⟩
    · rw [if_neg h1]
      by_cases h2 : (id, q) = (i, p)
      · rw [if_pos h2, if_pos]
        simp at h2; simp [h2]
      · rw [if_neg h2, if_neg]
        intro h3
        rw [Bool.and_eq_true] at h1 h3
        simp at h1 h2 h3
        rcases h3.2 with h4 | h4
        · exact h2 h3.1 h4.symm
        · exact h1 h3.1 h4

structure VInv (c : Int) (R : List (Int × Int)) (C : List ((Int × Int) × Int)) (G : List ((Int × Int × Int) × Unit)) (s i p last : Int) : Prop where
  have_ : (alook G (s, i, p)).isSome = true
  ver : verOf R C i p = last
  r : ∀ v, alook R i = some v → v ≤ c
  cc : ∀ v, alook C (i, p) = some v → v ≤ c
  c0 : 0 ≤ c
structure VStep (c : Int) (R : List (Int × Int)) (C : List ((Int × Int) × Int)) (G : List ((Int × Int × Int) × Unit)) (s i p last : Int) (con : Bool) : Prop where
  valid : ((alook G (s, i, p)).isSome && verOf R C i p == last) = !con
  grew : decide (last < verOf R C i p) = con
  ge : last ≤ verOf R C i p
  next : VInv c R C (aset G (s, i, p) ()) s i p (verOf R C i p)

theorem VInv.le {c R C G s i p last} (h : VInv c R C G s i p last) : last ≤ c := by
  rw [← h.ver]; unfold verOf
  have h0 := h.c0
  have h1 : (alook R i).getD 0 ≤ c := by cases hr : alook R i with
    | none => exact h0
    | some v => exact h.r v hr
  have h2 : (alook C (i, p)).getD 0 ≤ c := by cases hr : alook C (i, p) with
    | none => exact h0
    | some v => exact h.cc v hr
  split <;> assumption
/-- Nothing that concerns the page. -/
theorem vsame {c c' : Int} {R R' C C' G G'} {s i p last : Int} (h : VInv c R C G s i p last) (hc : c ≤ c') (hR : alook R' i = alook R i) (hC : alook C' (i, p) = alook C (i, p)) (hG : (alook G' (s, i, p)).isSome = true) :
    VStep c' R' C' G' s i p last false := by
  have hv : verOf R' C' i p = last := by rw [← h.ver]; unfold verOf; rw [hR, hC]
  have h0 := h.c0
  refine ⟨by rw [hG, hv]; simp, by rw [hv]; simp, by rw [hv]; exact Int.le_refl _, ⟨by rw [alook_aset]; simp, rfl, fun v e => ?_, fun v e => ?_, by omega⟩⟩
  · rw [hR] at e; have := h.r v e; omega
  · rw [hC] at e; have := h.cc v e; omega
/-- The version grows to c + 1, the registration goes. -/
theorem vgrow {c : Int} {R R' C C' G G'} {s i p last : Int} (h : VInv c R C G s i p last) (hv : verOf R' C' i p = c + 1) (hR : ∀ v, alook R' i = some v → v ≤ c + 1) (hC : ∀ v, alook C' (i, p) = some v → v ≤ c + 1) (hG : (alook G' (s, i, p)).isSome = false) :
    VStep (c + 1) R' C' G' s i p last true := by
  have hl := h.le
  have h0 := h.c0
  exact ⟨by rw [hG]; simp, by rw [hv]; simp; omega, by rw [hv]; omega, ⟨by rw [alook_aset]; simp, rfl, hR, hC, by omega⟩⟩

theorem v_register {c : Int} {R C G} {s i p last : Int} (h : VInv c R C G s i p last) (x : Int × Int × Int) : VStep c R C (aset G x ()) s i p last false :=
  vsame h (Int.le_refl _) rfl rfl (by rw [alook_aset]; split <;> simp [h.have_])
theorem v_forget {c : Int} {R C G} {s i p last : Int} (h : VInv c R C G s i p last) (s' : Int) (hs : (s' == s) = false) : VStep c R C (G.filter fun p => !(p.1.1 == s')) s i p last false :=
  vsame h (Int.le_refl _) rfl rfl (by
    rw [alook_filter G (fun x => !(x.1 == s')) (s, i, p)]
    have : (s == s') = false := by rw [beq_eq_false_iff_ne] at hs ⊢; exact fun e => hs e.symm
    simp only [this]; simpa using h.have_)
theorem v_renew {c : Int} {R C G} {s i p last : Int} (h : VInv c R C G s i p last) (id : Int) : VStep (c + 1) (aset R id (c + 1)) C (G.filter fun p => !(p.1.2.1 == id)) s i p last (id == i) := by
  have h0 := h.c0
  cases hid : id == i
  · have hne : id ≠ i := by simpa using hid
    refine vsame h (by omega) (by rw [alook_aset, if_neg hne]) rfl ?_
    rw [alook_filter G (fun x => !(x.2.1 == id)) (s, i, p)]
    have : (i == id) = false := by rw [beq_eq_false_iff_ne]; exact fun e => hne e.symm
    simp only [this]; simpa using h.have_
  · have he : id = i := by simpa using hid
    subst he
    have hr : alook (aset R id (c + 1)) id = some (c + 1) := by rw [alook_aset, if_pos rfl]
    refine vgrow h ?_ (fun v e => by rw [hr] at e; have := Option.some.inj e; omega) (fun v e => by have := h.cc v e; omega) ?_
    · unfold verOf; rw [hr]
      have h2 : (alook C (id, p)).getD 0 ≤ c := by cases hr : alook C (id, p) with
        | none => exact h0
        | some v => exact h.cc v hr
      rw [if_neg (by simp; omega)]; rfl
    · rw [alook_filter G (fun x => !(x.2.1 == id)) (s, id, p)]; simp
theorem v_change {c : Int} {R C G} {s i p last : Int} (h : VInv c R C G s i p last) (id : Int) (l : List Int) :
    VStep (c + 1) R (chaAll C id (c + 1) l) (G.filter fun p => !(p.1.2.1 == id && l.contains p.1.2.2)) s i p last (id == i && l.contains p) := by
  have h0 := h.c0
  have hC := chaAll_look id (c + 1) i p l C
  have hG := alook_filter G (fun x => !(x.2.1 == id && l.contains x.2.2)) (s, i, p)
  have hcomm : (i == id) = (id == i) := by rw [Bool.eq_iff_iff]; simp; exact eq_comm
  simp only [hcomm] at hG
  cases hcon : (id == i && l.contains p)
  · rw [hcon] at hC hG
    exact vsame h (by omega) rfl (by simpa using hC) (by rw [hG]; simpa using h.have_)
  · rw [hcon] at hC hG
    simp only [if_true] at hC
    refine vgrow h ?_ (fun v e => by have := h.r v e; omega) (fun v e => by rw [hC] at e; have := Option.some.inj e; omega) (by rw [hG]; simp)
    unfold verOf; rw [hC]
    have h2 : (alook R i).getD 0 ≤ c := by cases hr : alook R i with
      | none => exact h0
      | some v => exact h.r v hr
    rw [if_pos (by simp; omega)]; rfl

end Go.Proofs.Ytbocefnfhnnbjaa
