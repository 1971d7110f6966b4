/-
  Plain laws on the exclusive or of a text and a mask at an offset. No program is in sight here.
-/
import Derived.Test.YtlpejbmckidacaaM
namespace Go.Proofs.Ytlpejbmckidacaa.Crc

theorem xor0 (a : UInt8) : a ^^^ 0 = a := by
  apply UInt8.toNat_inj.1; simp
theorem xorL_get : ∀ (s m : List UInt8) (i : Nat), (xorL s m)[i]? = (s[i]?).map (fun a => a ^^^ (m[i]?).getD 0)
  | [], m, i => by cases m <;> simp [xorL]
  | a :: s, [], i => by
    simp [xorL]
  | a :: s, b :: m, 0 => by simp [xorL]
  | a :: s, b :: m, i + 1 => by simp [xorL, xorL_get s m i]

def xorAt (s : List UInt8) (p : Nat) (m : List UInt8) : List UInt8 := s.mapIdx fun i a => if i < p then a else a ^^^ (m[i - p]?).getD 0
theorem xorAt_length (s : List UInt8) (p : Nat) (m : List UInt8) : (xorAt s p m).length = s.length := by simp [xorAt]
theorem xorAt_get (s : List UInt8) (p : Nat) (m : List UInt8) (i : Nat) : (xorAt s p m)[i]? = (s[i]?).map (fun a => if i < p then a else a ^^^ (m[i - p]?).getD 0) := by
  simp [xorAt]
theorem xorAt_zero (s m : List UInt8) : xorAt s 0 m = xorL s m := by
  apply List.ext_getElem?
  intro i
  rw [xorAt_get, xorL_get]; simp
theorem xorAt_split (s : List UInt8) (p : Nat) (m : List UInt8) (hp : p ≤ s.length) : xorAt s p m = s.take p ++ xorL (s.drop p) m := by
  apply List.ext_getElem?
  intro i
  rw [xorAt_get]
  by_cases h : i < p
  · rw [List.getElem?_append_left (by rw [List.length_take]; omega), List.getElem?_take, if_pos h]
    simp only [h, if_true]
    cases s[i]? <;> rfl
  · rw [List.getElem?_append_right (by rw [List.length_take]; omega), xorL_get, List.getElem?_drop, List.length_take, Nat.min_eq_left hp, show p + (i - p) = i from by omega]
    simp only [h, if_false]
theorem xorAt_none (s : List UInt8) (p : Nat) : xorAt s p [] = s := by
  apply List.ext_getElem?
  intro i
  rw [xorAt_get]
  cases s[i]? <;> simp
/-- One more byte of the mask, inside the text. -/
theorem xorAt_here (s : List UInt8) (p : Nat) (m : List UInt8) (k : Nat) (h : p + k < s.length) : (xorAt s p (m.take k))[p + k]? = some s[p + k] := by
  rw [xorAt_get, List.getElem?_eq_getElem h]
  simp [List.getElem?_take]
theorem xorAt_step (s : List UInt8) (p : Nat) (m : List UInt8) (k : Nat) (hk : k < m.length) (h : p + k < s.length) :
    (xorAt s p (m.take k)).set (p + k) (s[p + k] ^^^ m[k]) = xorAt s p (m.take (k + 1)) := by
  apply List.ext_getElem?
  intro i
  rw [List.getElem?_set, xorAt_get, xorAt_get, xorAt_length]
  by_cases e : p + k = i
  · subst e
    rw [if_pos rfl, if_pos h, List.getElem?_eq_getElem h]
    simp [hk]; omega
  · rw [if_neg e]
    congr 1
    funext a
    by_cases h2 : i < p
    · simp [h2]
    · simp only [h2, if_false]
      congr 2
      rw [List.getElem?_take, List.getElem?_take]
      by_cases h3 : i - p < k
      · rw [if_pos h3, if_pos (by omega)]
      · rw [if_neg h3, if_neg (by omega)]
theorem xorAt_out (s : List UInt8) (p : Nat) (m : List UInt8) (k : Nat) (h : s.length ≤ p + k) :
    xorAt s p (m.take k) = xorAt s p (m.take (k + 1)) := by
  apply List.ext_getElem?
  intro i
  rw [xorAt_get, xorAt_get]
  by_cases hi : i < s.length
  · congr 1
    funext a
    by_cases h2 : i < p
    · simp [h2]
    · simp only [h2, if_false]
      congr 2
      rw [List.getElem?_take, List.getElem?_take, if_pos (by omega), if_pos (by omega)]
  · rw [List.getElem?_eq_none (l := s) (by omega)]; rfl

theorem xorAt_burst (pre post : List UInt8) (a b c d p q r s : UInt8) :
    xorAt (pre ++ ([a, b, c, d] ++ post)) pre.length [p, q, r, s] = pre ++ ([a ^^^ p, b ^^^ q, c ^^^ r, d ^^^ s] ++ post) := by
  rw [xorAt_split _ _ _ (by simp), List.take_left, List.drop_left]
  congr 1
  show xorL (a :: b :: c :: d :: post) [p, q, r, s] = _
  simp only [xorL]
  cases post <;> rfl

/-- A text of at least four bytes at an offset. -/
theorem split_at (t : List UInt8) (p : Nat) (h : p + 4 ≤ t.length) : ∃ pre post a b c d, t = pre ++ ([a, b, c, d] ++ post) ∧ pre.length = p := by
  refine ⟨t.take p, t.drop (p + 4), t[p], t[p + 1], t[p + 2], t[p + 3], ?_, by rw [List.length_take]; omega⟩
  have h1 : t = t.take p ++ t.drop p := (List.take_append_drop _ _).symm
  conv => lhs; rw [h1]
  congr 1
  rw [List.drop_eq_getElem_cons (by omega), List.drop_eq_getElem_cons (i := p + 1) (by omega), List.drop_eq_getElem_cons (i := p + 1 + 1) (by omega), List.drop_eq_getElem_cons (i := p + 1 + 1 + 1) (by omega)]
  rfl

/-- A sealed text in which a burst has changed bits is not sealed. -/
theorem burst (l : List UInt8) (p : Nat) (m : BitVec 32) (hm : m ≠ 0#32) (hp : p + 4 ≤ l.length + 4) :
    ∀ (v : List UInt8), v ++ bytes (sum v) ≠ xorAt (l ++ bytes (sum l)) p (bytes m) := by
  intro v hv
  have hsealed : ∀ u : List UInt8, run (~~~ 0#32) (u ++ bytes (sum u)) = shn 32 (BitVec.allOnes 32) := by
    intro u
    refine (run_sealed u _ _ _ _ (~~~ 0#32)).2 ?_
    have := num_bytes (sum u)
    exact this
  obtain ⟨pre, post, a, b, c, d, ht, hl⟩ := split_at (l ++ bytes (sum l)) p (by rw [List.length_append, bytes_length]; omega)
  have h1 := hsealed v
  rw [hv, ht, ← hl] at h1
  have h2 := hsealed l
  rw [ht] at h2
  have h3 := xorAt_burst pre post a b c d (UInt8.ofNat m.toNat) (UInt8.ofNat (m.toNat / 256)) (UInt8.ofNat (m.toNat / 65536)) (UInt8.ofNat (m.toNat / 16777216))
  have h4 : ([UInt8.ofNat m.toNat, UInt8.ofNat (m.toNat / 256), UInt8.ofNat (m.toNat / 65536), UInt8.ofNat (m.toNat / 16777216)] : List UInt8) = bytes m := rfl
  rw [h4] at h3
  rw [h3] at h1
  refine run_burst (~~~ 0#32) pre post a b c d _ _ _ _ ?_ (h1.trans h2.symm)
  have h5 := num_bytes m
  intro h6
  exact hm (h5.symm.trans h6)

end Go.Proofs.Ytlpejbmckidacaa.Crc
