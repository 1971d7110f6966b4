/-
  Plain: what was written is read again. No condition but valid sizes.
-/
import Derived.Test.YthkpcalopmddpaaGreatDoorT31
import Derived.Test.YthkpcalopmddpaaGreatDoorGQ
namespace Go.Proofs.YthkpcalopmddpaaGreatDoor
open Go.RowKit Go.Sort

theorem dec_num : ∀ (f i acc x : Nat) (rest : By), i + f = 10 → x < 2 ^ (63 - 7 * i) → (0 < i → x ≠ 0) → decG f i acc (numF f x ++ rest) = (acc + x * 2 ^ (7 * i), i + (numF f x).length)
  | 0, i, acc, x, rest, hi, hx, h0 => by
    have : i = 10 := by omega
    subst this
    simp at hx
    exact absurd hx (h0 (by omega))
  | f + 1, i, acc, x, rest, hi, hx, h0 => by
    have hp : 2 ^ (63 - 7 * i) = if i = 9 then 1 else 128 * 2 ^ (63 - 7 * (i + 1)) := by
      split
      · rename_i h; subst h; rfl
      · rw [show 63 - 7 * i = 7 + (63 - 7 * (i + 1)) by omega, Nat.pow_add]
    unfold numF
    by_cases hs : x < 128
    · rw [if_pos hs]
      have hb : (b8 x).toNat = x := by simp [b8]; omega
      rw [List.cons_append, List.nil_append, decG, hb]
      rw [if_neg (by rintro ⟨rfl, h1⟩; simp at hx; omega), if_pos hs, if_neg (by rintro ⟨h1, h2⟩; exact h0 h2 h1), Nat.mod_eq_of_lt hs]
      rfl
    · rw [if_neg hs]
      have hb : (b8 (x % 128 + 128)).toNat = x % 128 + 128 := by simp [b8]; omega
      have hi9 : ¬ i = 9 := by rintro rfl; simp at hx; omega
      rw [if_neg hi9] at hp
      rw [List.cons_append, decG, hb]
      rw [if_neg (fun h => hi9 h.1), if_neg (by omega)]
      have hd : x / 128 < 2 ^ (63 - 7 * (i + 1)) := by
        generalize 2 ^ (63 - 7 * (i + 1)) = y at hp ⊢
        omega
      rw [dec_num f (i + 1) _ (x / 128) rest (by omega) hd (fun _ => by omega), show (x % 128 + 128) % 128 = x % 128 by omega]
      have e : 2 ^ (7 * (i + 1)) = 128 * 2 ^ (7 * i) := by rw [show 7 * (i + 1) = 7 + 7 * i by omega, Nat.pow_add]
      rw [e, List.length_cons, ← Nat.mul_assoc]
      congr 1
      · rw [Nat.add_assoc, ← Nat.add_mul, show x % 128 + x / 128 * 128 = x by omega]
      · omega
theorem num_pos (n : Nat) : 0 < (num n).length := by
  unfold num; rw [show (10 : Nat) = 9 + 1 by rfl, numF]; split <;> simp
theorem cnt_num (most n : Nat) (rest : By) (h : n ≤ most) (hn : n < 2 ^ 63) : cntR most (num n ++ rest) 0 = (n, rest, 0) := by
  have hd : decV (num n ++ rest) = (n, (num n).length) := by
    unfold decV num
    rw [dec_num 10 0 0 n rest rfl (by simpa using hn) (fun h => absurd h (by omega))]
    simp
  have hp := num_pos n
  have hr : numR (num n ++ rest) 0 = (n, rest, 0) := by
    unfold numR
    rw [if_pos rfl, hd]
    simp only
    rw [if_neg (by omega), List.drop_left' rfl]
  unfold cntR
  rw [hr]
  simp only
  rw [if_pos trivial, if_neg (by omega)]
theorem headV_head (a b c : Nat) (r : List By) (ha : a ≤ 1099511627776) (hb : b ≤ 1099511627776) (hc : c ≤ 1099511627776) : headV (headB a b c :: r) = (a, b, c, 0) := by
  have hl1 := num_length a
  have hl2 := num_length b
  have hl3 := num_length c
  have hlen : (headB a b c).length = 128 := by
    unfold headB pad
    simp only [List.length_append, zeros, List.length_replicate]; omega
  have hpg : pageV (headB a b c :: r) 0 = (headB a b c, 0) := by
    unfold pageV
    simp only [List.getElem?_cons_zero]
    rw [if_pos hlen]
  unfold headV
  rw [hpg]
  simp only
  rw [if_pos trivial]
  have e : headB a b c = num a ++ (num b ++ (num c ++ zeros (128 - (num a ++ num b ++ num c).length))) := by
    unfold headB pad; simp only [List.append_assoc]
  have s1 : hdS (headB a b c) 1 = (num b ++ (num c ++ zeros (128 - (num a ++ num b ++ num c).length)), 0) := by
    show (cntR 1099511627776 (headB a b c) 0).2 = _
    rw [e, cnt_num _ a _ ha (by omega)]
  have x0 : hdX (headB a b c) 0 = a := by
    show (cntR 1099511627776 (headB a b c) 0).1 = _
    rw [e, cnt_num _ a _ ha (by omega)]
  have s2 : hdS (headB a b c) 2 = (num c ++ zeros (128 - (num a ++ num b ++ num c).length), 0) := by
    show (cntR 1099511627776 (hdS (headB a b c) 1).1 (hdS (headB a b c) 1).2).2 = _
    rw [s1]; simp only; rw [cnt_num _ b _ hb (by omega)]
  have x1 : hdX (headB a b c) 1 = b := by
    show (cntR 1099511627776 (hdS (headB a b c) 1).1 (hdS (headB a b c) 1).2).1 = _
    rw [s1]; simp only; rw [cnt_num _ b _ hb (by omega)]
  have s3 : hdS (headB a b c) 3 = (zeros (128 - (num a ++ num b ++ num c).length), 0) := by
    show (cntR 1099511627776 (hdS (headB a b c) 2).1 (hdS (headB a b c) 2).2).2 = _
    rw [s2]; simp only; rw [cnt_num _ c _ hc (by omega)]
  have x2 : hdX (headB a b c) 2 = c := by
    show (cntR 1099511627776 (hdS (headB a b c) 2).1 (hdS (headB a b c) 2).2).1 = _
    rw [s2]; simp only; rw [cnt_num _ c _ hc (by omega)]
  unfold hdV
  rw [s3, x0, x1, x2]
  simp only
  rw [if_neg]
  rintro (h | h)
  · have := congrArg List.length h
    simp only [zeros, List.length_replicate, List.length_append, List.length_nil] at this; omega
  · exact h (by simp [zeros])

/-- The sectors of a stream, as they are read. -/
theorem secA_flat : ∀ (f : Nat) (s : By), s.length ≤ f → (∀ p ∈ secA f s, p.length = 128) ∧ s.length ≤ 128 * (secA f s).length ∧ (secA f s ≠ [] → 128 * ((secA f s).length - 1) < s.length) ∧ ∃ k, (secA f s).flatten = s ++ zeros k
  | 0, s, h => by
    have : s = [] := List.length_eq_zero_iff.1 (by omega)
    subst this
    exact ⟨fun p hp => (by simp [secA] at hp), by simp [secA], fun h => absurd rfl h, 0, by simp [secA, zeros]⟩
  | f + 1, s, h => by
    unfold secA
    by_cases hn : s = []
    · subst hn
      rw [if_pos rfl]
      exact ⟨fun p hp => (by simp at hp), by simp, fun h => absurd rfl h, 0, by simp [zeros]⟩
    · rw [if_neg hn]
      have hp := List.length_pos_iff.2 hn
      obtain ⟨i1, i2, i3, k, i4⟩ := secA_flat f (s.drop (min s.length 128)) (by rw [List.length_drop]; omega)
      have ht : (s.take (min s.length 128)).length = min s.length 128 := by rw [List.length_take]; omega
      have hpl : (pad (s.take (min s.length 128))).length = 128 := by
        unfold pad; rw [List.length_append, ht]; simp only [zeros, List.length_replicate]; omega
      rw [List.length_drop] at i2 i3
      refine ⟨fun p hp => ?_, by rw [List.length_cons]; omega, fun _ => ?_, ?_⟩
      · rcases List.mem_cons.1 hp with rfl | hp
        · exact hpl
        · exact i1 p hp
      · rw [List.length_cons]
        by_cases hz : secA f (s.drop (min s.length 128)) = []
        · rw [hz]; simp only [List.length_nil]; omega
        · have := i3 hz
          have h1 : 0 < (secA f (s.drop (min s.length 128))).length := List.length_pos_iff.2 hz
          omega
      · rw [List.flatten_cons, i4]
        by_cases h128 : s.length ≤ 128
        · rw [Nat.min_eq_left h128, List.take_of_length_le (Nat.le_refl _), List.drop_eq_nil_of_le (Nat.le_refl _)]
          refine ⟨128 - s.length + k, ?_⟩
          unfold pad zeros
          rw [List.nil_append, List.append_assoc, List.replicate_append_replicate]
        · rw [Nat.min_eq_right (by omega)]
          refine ⟨k, ?_⟩
          unfold pad
          rw [show 128 - (s.take 128).length = 0 by rw [List.length_take]; omega]
          simp only [zeros, List.replicate_zero, List.append_nil]
          rw [← List.append_assoc, List.take_append_drop]
theorem gat_sec (h0 : By) (n : Nat) : ∀ (P Q : List By) (f : Nat) (s : By), (∀ p ∈ P, p.length = 128) → n ≤ s.length + 128 * P.length → (P ≠ [] → s.length + 128 * (P.length - 1) < n) → P.length < f → s.length = 128 * Q.length →
    gatP (h0 :: (Q ++ P)) n f (1 + Q.length) s = (s ++ P.flatten, 0)
  | _, _, 0, _, _, _, _, hf, _ => by omega
  | [], Q, f + 1, s, _, hn, _, _, _ => by
    rw [gatP, if_neg (by simp only [List.length_nil] at hn; omega)]; simp
  | p :: P, Q, f + 1, s, h, hn, hm, hf, hs => by
    have h1 := h p (by simp)
    have hm := hm (by simp)
    simp only [List.length_cons] at hn hm hf
    have hpg : pageV (h0 :: (Q ++ p :: P)) (1 + Q.length) = (p, 0) := by
      unfold pageV
      rw [Nat.add_comm, List.getElem?_cons_succ, List.getElem?_append_right (Nat.le_refl _), Nat.sub_self]
      simp only [List.getElem?_cons_zero]
      rw [if_pos h1]
    rw [gatP, if_pos (by omega), hpg]
    simp only
    rw [if_pos trivial]
    have ih := gat_sec h0 n P (Q ++ [p]) f (s ++ p) (fun q hq => h q (by simp [hq])) (by rw [List.length_append]; omega) (fun hne => by
      have : 0 < P.length := List.length_pos_iff.2 hne
      rw [List.length_append]; omega) (by omega) (by rw [List.length_append, List.length_append, List.length_cons, List.length_nil]; omega)
    rw [List.length_append, List.length_cons, List.length_nil, List.append_assoc, List.cons_append, List.nil_append] at ih
    rw [show 1 + Q.length + 1 = 1 + (Q.length + (0 + 1)) by omega, ih, List.flatten_cons, List.append_assoc]
theorem cut_stream : ∀ (V : List By) (f : Nat), (∀ x ∈ V, x.length < 65536) → (streamOf V).length ≤ f → cutF f (streamOf V) = some V
  | [], f, _, _ => by simp [streamOf, cutF]
  | x :: V, 0, _, hf => by simp [streamOf, le2] at hf
  | x :: V, f + 1, h, hf => by
    have h1 := h x (by simp)
    have e : streamOf (x :: V) = b8 (x.length % 256) :: b8 (x.length / 256) :: (x ++ streamOf V) := by simp [streamOf, le2]
    have hx1 : (b8 (x.length % 256)).toNat = x.length % 256 := by simp [b8]
    have hx2 : (b8 (x.length / 256)).toNat = x.length / 256 := by simp [b8]; omega
    rw [e] at hf ⊢
    simp only [List.length_cons, List.length_append] at hf
    rw [cutF, hx1, hx2, show x.length % 256 + 256 * (x.length / 256) = x.length by omega, if_neg (by rw [List.length_append]; omega), List.take_left' rfl, List.drop_left' rfl,
      cut_stream V f (fun y hy => h y (by simp [hy])) (by omega)]
    rfl

/-- The sectors of a data set. -/
def secsOf (ap cnt : Nat) (S : By) : List By := headB ap cnt S.length :: secA S.length S
theorem readV_secs {fmt : Int} {len blk : Nat} (hd : dsV 0 fmt len blk = true) (ap : Nat) (R : List By) (ha : alwV fmt len R = true) (hap : ap ≤ 1099511627776) (hr : R.length ≤ 40000) (hs : (streamOf (packV fmt len blk R)).length ≤ 1099511627776) :
    readV fmt len blk (secsOf ap R.length (streamOf (packV fmt len blk R))) = .ok ⟨ap, R, packV fmt len blk R, streamOf (packV fmt len blk R)⟩ := by
  have hu := unpV_round hd R ha
  have hb := (packV_bm fmt len blk R hd ha hr).sml
  have hcut := cut_stream (packV fmt len blk R) _ (fun x hx => Nat.lt_of_le_of_lt (hb x hx) (by omega)) (Nat.le_refl _)
  generalize hS : streamOf (packV fmt len blk R) = S at hs hcut
  have hh := headV_head ap R.length S.length (secA S.length S) hap (by omega) hs
  obtain ⟨i1, i2, i3, k, i4⟩ := secA_flat S.length S (Nat.le_refl _)
  have hg := gat_sec (headB ap R.length S.length) S.length (secA S.length S) [] ((secsOf ap R.length S).length + 1) [] i1 (by simpa using i2) (fun h => by simpa using i3 h) (by simp [secsOf]; omega) rfl
  rw [List.nil_append, List.nil_append, i4] at hg
  unfold secsOf at hg ⊢
  unfold readV
  rw [hh]
  simp only
  rw [if_neg (by decide)]
  have hg' : gatP (headB ap R.length S.length :: secA S.length S) S.length ((headB ap R.length S.length :: secA S.length S).length + 1) 1 [] = (S ++ zeros k, 0) := hg
  rw [hg']
  simp only
  rw [if_neg (by decide)]
  unfold readT
  have hdr : (S ++ zeros k).drop S.length = zeros k := List.drop_left' rfl
  have htk : (S ++ zeros k).take S.length = S := List.take_left' rfl
  rw [hdr, htk, if_neg (fun h => h (by simp [zeros]))]
  unfold cutP
  rw [hcut]
  simp only
  rw [hu]
  simp only
  rw [if_pos ⟨trivial, trivial⟩]

end Go.Proofs.YthkpcalopmddpaaGreatDoor
