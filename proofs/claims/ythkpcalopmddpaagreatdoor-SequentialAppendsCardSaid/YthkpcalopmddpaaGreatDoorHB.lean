/-
  Walks: the reference unpacks records of the same length. Condition: valid sizes.
  Walks: the reference unpacks records with lengths of their own. Condition: valid sizes.
-/
import Derived.Test.YthkpcalopmddpaaGreatDoorGL
import Derived.Test.YthkpcalopmddpaaGreatDoorGQ
namespace Go.Proofs.YthkpcalopmddpaaGreatDoor

section
open Go.RowKit Go.Sort
attribute [local go_sem] ByteArray.mk_append_mk strOfNums_size ext_drop ext_take

theorem fixU_none {len blk : Nat} {d : By} (h : d.length = 0 ∨ d.length % len ≠ 0 ∨ blk / len < d.length / len) : fixU len blk d = none := by
  unfold fixU
  rw [if_pos]
  rcases h with h | h | h
  · left; rw [h]; simp
  · right; right; exact h
  · right; left; exact h
theorem fixU_some {len blk : Nat} {d : By} (h0 : d.length ≠ 0) (h1 : d.length % len = 0) (h2 : ¬ blk / len < d.length / len) : fixU len blk d = some (chunks len (d.length / len) d) ∧ d.length / len * len = d.length := by
  have e := Nat.div_add_mod d.length len
  rw [h1, Nat.add_zero, Nat.mul_comm] at e
  have hp : ¬ d.length / len < 1 := by
    intro h
    have : d.length / len = 0 := Nat.lt_one_iff.1 h
    rw [this, Nat.zero_mul] at e; omega
  unfold fixU
  rw [if_neg]
  · exact ⟨rfl, e⟩
  · rintro (h | h | h)
    · exact hp h
    · exact h2 h
    · exact h h1

set_option maxRecDepth 100000 in
set_option maxHeartbeats 2000000 in
theorem rfunpack_any (d : By) (len blk : Nat) (w : World) (hv : fixV len blk = true) (hd : d.length ≤ 1000000) :
    Calls Tryz.prog 80 #[.int .i64 len, .int .i64 blk, .string ⟨d.toArray⟩] w fun e w' => UPost w (fixU len blk d) e w' := by
  have hbd : 1 ≤ (len : Int) ∧ (len : Int) ≤ 1000 ∧ (len : Int) ≤ blk ∧ (blk : Int) ≤ 1024 := by have h := hv; simp [fixV] at h; omega
  obtain ⟨d1, d2, d3, d4⟩ := hbd
  have HV := Lib.hid hv
  have HM := Lib.hid (fun W => (rmost_any len blk W hv).mono fun _ _ h => And.intro h.1 h.2.symm)
  have hN0 := fun h => fixU_none (len := len) (blk := blk) (d := d) h
  have hS0 := fun a b c => fixU_some (len := len) (blk := blk) (d := d) a b c
  obtain ⟨i0, hi0, hz0, hz1, hz2⟩ := info_parts info9
  obtain ⟨n, hn⟩ : ∃ n, d.length / len = n := ⟨_, rfl⟩
  obtain ⟨k, hk⟩ : ∃ k, d.length % len = k := ⟨_, rfl⟩
  have hq : (d.length : Int) / (len : Int) = (n : Int) := by rw [← hn]; simp
  have hr : (d.length : Int) % (len : Int) = (k : Int) := by rw [← hk]; simp
  have hne : ((len : Int) == 0) = false := by simp; omega
  have hnd : n ≤ d.length := by rw [← hn]; exact Nat.div_le_self _ _
  generalize fixU len blk d = T at hN0 hS0 ⊢
  rw [hn, hk] at hN0 hS0
  have hm2 : blk / len ≤ 1024 := Nat.le_trans (Nat.div_le_self _ _) (by omega)
  generalize blk / len = most at hN0 hS0 HM hm2
  have e1' : decide ((n : Int) ≤ (most : Int)) = decide (n ≤ most) := by simp
  clear hv hn hk
  by_cases h1 : d.length = 0
  · have HF := Lib.hid (hN0 (Or.inl h1))
    have h1I : ((d.length : Int) == 0) = true := by simp; exact List.length_eq_zero_iff.1 h1
    clear hN0 hS0 hq hr
    obtain rfl := List.length_eq_zero_iff.1 h1
    clear h1
    go_enter Tryz.func80, Tryz.ntmps80
    go_wp2_with fail
    refine (rfix_valid _ _ _).mono ?_
    rintro e _ ⟨rfl, rfl⟩
    rw [HV.out]
    go_wp2_with fail
    go_quiet ((go_at_call 101; exact Calls.quiet_of_same (HM.out _)))
    go_wp2_with fail
    go_ret2
    exact UPost.no HF.out (below_drewN (Below.refl _ _) _)
  · have h1I : ((d.length : Int) == 0) = false := by simp; exact fun h => h1 (by rw [h]; rfl)
    by_cases h2 : k = 0
    rotate_left
    · have HF := Lib.hid (hN0 (Or.inr (Or.inl h2)))
      have e3 : ((k : Int) == 0) = false := by simp; omega
      have e4 : ((k : Int) != 0) = true := by simp; omega
      clear hN0 hS0 h1 h2
      go_enter Tryz.func80, Tryz.ntmps80
      go_wp2_with fail
      refine (rfix_valid _ _ _).mono ?_
      rintro e _ ⟨rfl, rfl⟩
      rw [HV.out]
      go_wp2_with fail
      go_quiet ((go_at_call 101; exact Calls.quiet_of_same (HM.out _)))
      go_wp2_with fail
      go_ret2
      exact UPost.no HF.out (below_drewN (Below.refl _ _) _)
    have k0 : ((k : Int) == 0) = true := by rw [h2]; rfl
    have k1 : ((k : Int) != 0) = false := by rw [h2]; rfl
    by_cases h3 : most < n
    · have HF := Lib.hid (hN0 (Or.inr (Or.inr h3)))
      have h3I : decide (most < n) = true := decide_eq_true h3
      clear hN0 hS0 h1 h2 h3 e1'
      go_enter Tryz.func80, Tryz.ntmps80
      go_wp2_with fail
      refine (rfix_valid _ _ _).mono ?_
      rintro e _ ⟨rfl, rfl⟩
      rw [HV.out]
      go_wp2_with fail
      go_quiet ((go_at_call 101; exact Calls.quiet_of_same (HM.out _)))
      go_wp2_with fail
      go_ret2
      exact UPost.no HF.out (below_drewN (Below.refl _ _) _)
    · obtain ⟨hT, hnl⟩ := hS0 h1 h2 h3
      have h3I : decide (most < n) = false := decide_eq_false h3
      have hcl := chunks_length len n d
      have hcg := chunks_get len n d
      generalize chunks len n d = L at hT hcl hcg
      have HF := Lib.hid hT
      have HCL := Lib.hid hcl
      have HCG := Lib.hid hcg
      have HNL := Lib.hid hnl
      clear hN0 hS0 h1 h2 h3 hT hcl hcg hnl e1'
      go_enter Tryz.func80, Tryz.ntmps80
      go_wp2_with fail
      refine (rfix_valid _ _ _).mono ?_
      rintro e _ ⟨rfl, rfl⟩
      rw [HV.out]
      go_wp2_with fail
      go_quiet ((go_at_call 101; exact Calls.quiet_of_same (HM.out _)))
      clear hr hq k0 k1 h1I h3I hne
      have HB0 := Lib.hid (below_drewN (Below.refl w.heap.size w) nq)
      obtain ⟨wq, hwq⟩ : ∃ wq, wq = w.drewN nq := ⟨_, rfl⟩
      rw [← hwq] at HB0 ⊢
      clear hwq
      have hmul : ∀ j : Nat, j ≤ n → j * len ≤ d.length := fun j hj => HNL.out ▸ Nat.mul_le_mul_right _ hj
      have hlt0 : ∀ j : Nat, j < n → j * len + len ≤ d.length := fun j hj => by have := hmul (j + 1) hj; rw [Nat.add_mul, Nat.one_mul] at this; exact this
      have HMUL := Lib.hid hmul
      have HLT := Lib.hid hlt0
      clear hmul hlt0
      go_wp2_with fail
      have HB1 := Lib.hid ((HB0.out).alloc HB0.out.size (.cells #[] 9))
      have HO1 := Lib.hid (lit0 (W := wq) 9 rfl HB0.out.size)
      go_loopw [8, 9] (fun o k wr => ∃ out : List By, out = L.take out.length ∧ out.length ≤ n ∧ k = .int .i64 ((out.length * len : Nat) : Int) ∧ Below w.heap.size w wr ∧ wr.ownsRow w.heap.size 9 1 o out.length (out.map sv)) (fun _ k _ => d.length - (intOf k).toNat)
      case atStart => exact ⟨[], rfl, by simp, by simp, HB1.out, HO1.out⟩
      case round =>
        obtain ⟨out, hout, hj, rfl, hb, ho⟩ := hrel
        have hol : out.length ≤ 1000000 := by omega
        by_cases hlt : out.length < n
        · have q1 := HLT.out _ hlt
          have hjl : out.length < L.length := by rw [HCL.out]; exact hlt
          have hgj := HCG.out _ hjl
          have htk := take_snoc' L _ hjl
          rw [← hout] at htk
          have hp2 : (out.length + 1) * len = out.length * len + len := by rw [Nat.add_mul, Nat.one_mul]
          obtain ⟨p, hp⟩ : ∃ p, out.length * len = p := ⟨_, rfl⟩
          rw [hp] at q1 hgj hp2 ⊢
          have hx : (ByteArray.mk d.toArray).extract p (p + len) = ⟨(L[out.length]).toArray⟩ := by
            apply ByteArray.ext
            rw [ByteArray.data_extract, hgj]
            apply Array.ext'
            simp only [Array.toList_extract, List.extract_eq_take_drop]
            rw [Nat.add_sub_cancel_left]
          generalize L[out.length] = x at htk hx
          have hpI : (p : Int) < (d.length : Int) := by omega
          have hon : (out ++ [x]).length = out.length + 1 := by simp
          have HTK := Lib.hid (show out ++ [x] = L.take (out ++ [x]).length by rw [hon]; exact htk.symm)
          have HLE := Lib.hid (show (out ++ [x]).length ≤ n by rw [hon]; exact hlt)
          have HP2 := Lib.hid (show (out ++ [x]).length * len = p + len by rw [hon]; exact hp2)
          have HB := Lib.hid hb
          have hbs := hb.size
          obtain ⟨oa, oc, rfl, _, _⟩ := newsAt_of_row ho
          clear hb htk hgj hp2 hlt hon hjl hout hj hp
          go_wp2_with (refine wpList_append_own _ rfl _ _ 24 rfl w.heap.size 9 i0 (.string ByteArray.empty) 1 16 Tryz.underlying24 hi0 hz0 hz1 hz2 rfl (by decide) _ _ _ rfl (ho.alloc _) _ 1 1 [.string ⟨x.toArray⟩] rfl rfl ?e11 ?e21 ?e31 ?e41 ?e51 ?_)
          case e11 => exact news_at (cs := #[.string ⟨x.toArray⟩]) (heap_alloc_new _ _)
          case e21 => simp [Value.oneCell']
          case e31 => unfold maxLen; (try simp); omega
          case e41 => (try simp); omega
          case e51 => simp; omega
          intro v6 w6 hown6 hg6 _
          have hb6 := (HB.out.alloc HB.out.size (.cells #[.string ⟨x.toArray⟩] 9)).grown hg6 (by simp; omega) (fun k hk => row_own ho hk)
          have hown7 : w6.ownsRow w.heap.size 9 1 v6 (out ++ [x]).length ((out ++ [x]).map sv) := by simpa [sv] using hown6
          have HO7 := Lib.hid hown7
          have HB7 := Lib.hid hb6
          clear ho hown6 hown7 hg6 hb6
          go_wp2_with fail
          go_roundw
          case rel => exact ⟨out ++ [x], HTK.out, HLE.out, by rw [HP2.out]; go_num, HB7.out, HO7.out⟩
          case measure => simp [intOf]; omega
        · have hjn : out.length = n := by omega
          have hpe : out.length * len = d.length := by rw [hjn]; exact HNL.out
          rw [hpe]
          have ho2 : out = L := by rw [hout, hjn, ← HCL.out, List.take_length]
          have HO2 := Lib.hid (ho2 ▸ ho)
          have HB := Lib.hid hb
          obtain ⟨oa, oc, rfl, _, _⟩ := newsAt_of_row ho
          clear ho hb hpe ho2 hjn hj hout hlt
          go_wp2_with fail
          go_ret2
          exact UPost.yes HF.out HO2.out HB.out
end

section
open Go.RowKit Go.Sort
attribute [local go_sem] ByteArray.mk_append_mk strOfNums_size ext_drop ext_take

set_option maxRecDepth 100000 in
set_option maxHeartbeats 1000000 in
theorem rreadword_any (a b c e : UInt8) (w : World) :
    Calls Tryz.prog 103 #[.string ⟨([a, b, c, e] : By).toArray⟩] w fun x w' => x = .returned (rwV (rw4 a b c e)) ∧ Below w.heap.size w w' := by
  have ha := a.toNat_lt
  have hb := b.toNat_lt
  have x0 : ∀ h, (ByteArray.mk ([a, b, c, e] : By).toArray)[0]'h = a := fun _ => rfl
  have x1 : ∀ h, (ByteArray.mk ([a, b, c, e] : By).toArray)[1]'h = b := fun _ => rfl
  have x2 : ∀ h, (ByteArray.mk ([a, b, c, e] : By).toArray)[2]'h = c := fun _ => rfl
  have x3 : ∀ h, (ByteArray.mk ([a, b, c, e] : By).toArray)[3]'h = e := fun _ => rfl
  have hl : ([a, b, c, e] : By).length = 4 := rfl
  have m1 : IntKind.i64.wrap (a.toNat : Int) = (a.toNat : Int) := IntWalk.i64_in _ (by omega)
  have m2 : IntKind.i64.wrap (b.toNat : Int) = (b.toNat : Int) := IntWalk.i64_in _ (by omega)
  have m3 : IntKind.i64.wrap (256 * (a.toNat : Int)) = 256 * (a.toNat : Int) := IntWalk.i64_in _ (by omega)
  have hor : 256 * (a.toNat : Int) + (b.toNat : Int) = ((256 * a.toNat + b.toNat : Nat) : Int) := by simp
  have m4 : IntKind.i64.wrap (256 * (a.toNat : Int) + (b.toNat : Int)) = ((256 * a.toNat + b.toNat : Nat) : Int) := by rw [← hor]; exact IntWalk.i64_in _ (by omega)
  have hR : rw4 a b c e = if c.toNat = 0 ∧ e.toNat = 0 then some (256 * a.toNat + b.toNat) else none := rfl
  generalize 256 * a.toNat + b.toNat = n at hor hR m4
  generalize rw4 a b c e = R at hR ⊢
  generalize ([a, b, c, e] : By) = s at *
  by_cases hc : c.toNat = 0
  · have e1 : ((c.toNat : Int) == 0) = true := by rw [hc]; rfl
    have e2 : ((c.toNat : Int) != 0) = false := by rw [hc]; rfl
    by_cases he : e.toNat = 0
    · have e3 : ((e.toNat : Int) == 0) = true := by rw [he]; rfl
      have e4 : ((e.toNat : Int) != 0) = false := by rw [he]; rfl
      rw [if_pos ⟨hc, he⟩] at hR
      have HR := Lib.hid hR
      clear hR hc he
      go_enter Tryz.func103, Tryz.ntmps103
      go_wp2_with fail
      go_region
      all_goals
        go_wp2_with fail
        go_ret2
        exact ⟨by rw [HR.out]; rfl, below_drewN (Below.refl _ _) 1⟩
    · have e3 : ((e.toNat : Int) == 0) = false := by simp; omega
      have e4 : ((e.toNat : Int) != 0) = true := by simp; omega
      rw [if_neg (fun h => he h.2)] at hR
      have HR := Lib.hid hR
      clear hR hc he
      go_enter Tryz.func103, Tryz.ntmps103
      go_wp2_with fail
      go_ret2
      exact ⟨by rw [HR.out]; rfl, Below.refl _ _⟩
  · have e1 : ((c.toNat : Int) == 0) = false := by simp; omega
    have e2 : ((c.toNat : Int) != 0) = true := by simp; omega
    rw [if_neg (fun h => hc h.1)] at hR
    have HR := Lib.hid hR
    clear hR hc
    go_enter Tryz.func103, Tryz.ntmps103
    go_wp2_with fail
    go_ret2
    exact ⟨by rw [HR.out]; rfl, Below.refl _ _⟩

theorem firstV_short {len : Nat} {s : By} (h : s.length < 4) : firstV len s = none := by
  match s, h with
  | [], _ => rfl
  | [_], _ => rfl
  | [_, _], _ => rfl
  | [_, _, _], _ => rfl
  | a :: b :: c :: e :: r, h => simp only [List.length_cons] at h; omega
theorem varU_short {len blk : Nat} {d : By} (h : d.length < 8 ∨ blk < d.length) : varU len blk d = none := by
  unfold varU
  by_cases h4 : d.length ≤ 4 ∨ blk < d.length
  · rw [if_pos h4]
  · rw [if_neg h4]
    unfold varU2
    match d, h, h4 with
    | [], h, h4 => simp at h4
    | [_], h, h4 => simp at h4
    | [_, _], h, h4 => simp at h4
    | [_, _, _], h, h4 => simp at h4
    | a :: b :: c :: e :: r, h, h4 =>
      simp only [List.length_cons] at h h4
      simp only
      split
      · match r, h, h4 with
        | [], h, h4 => simp at h4
        | x :: q, h, h4 =>
          simp only [List.length_cons] at h h4
          show varP len (q.length + 1) (x :: q) = none
          rw [varP, firstV_short (by simp only [List.length_cons]; omega)]
      · rfl
theorem word_inj {n : Nat} {a b c e : UInt8} (h : n ≤ 65535) : ([a, b, c, e] : By) = word n ↔ rw4 a b c e = some n := by
  have ha := a.toNat_lt
  have hb := b.toNat_lt
  unfold word rw4
  constructor
  · intro h1
    simp only [List.cons.injEq, and_true] at h1
    obtain ⟨rfl, rfl, rfl, rfl⟩ := h1
    have q1 : (b8 (n / 256)).toNat = n / 256 := by unfold b8; rw [UInt8.toNat_ofNat']; omega
    have q2 : (b8 (n % 256)).toNat = n % 256 := by unfold b8; rw [UInt8.toNat_ofNat']; omega
    rw [if_pos ⟨rfl, rfl⟩, q1, q2]
    congr 1; omega
  · intro h1
    split at h1
    · rename_i h2
      have h3 := Option.some.inj h1
      have q0 : c = 0 := UInt8.toNat_inj.1 h2.1
      have q1 : e = 0 := UInt8.toNat_inj.1 h2.2
      have q2 : b8 (n / 256) = a := UInt8.toNat_inj.1 (by unfold b8; rw [UInt8.toNat_ofNat']; omega)
      have q3 : b8 (n % 256) = b := UInt8.toNat_inj.1 (by unfold b8; rw [UInt8.toNat_ofNat']; omega)
      rw [q0, q1, q2, q3]
    · cases h1
theorem varU_long {len blk : Nat} {d : By} (h8 : ¬ d.length < 8) (hb : ¬ blk < d.length) (hb2 : blk ≤ 1024) : varU len blk d = if d.take 4 = word d.length then varP len (d.drop 4).length (d.drop 4) else none := by
  unfold varU
  rw [if_neg (by omega)]
  unfold varU2
  match d, h8, hb with
  | [], h, _ => simp at h
  | [_], h, _ => simp at h
  | [_, _], h, _ => simp at h
  | [_, _, _], h, _ => simp at h
  | a :: b :: c :: e :: r, h, hb =>
    have hw := word_inj (n := (a :: b :: c :: e :: r).length) (a := a) (b := b) (c := c) (e := e) (by omega)
    simp only [List.take_succ_cons, List.take_zero, List.drop_succ_cons, List.drop_zero]
    by_cases hq : rw4 a b c e = some (a :: b :: c :: e :: r).length
    · rw [if_pos (hw.2 hq), if_pos (show rw4 a b c e = some (r.length + 4) from hq)]
    · rw [if_neg (fun h => hq (hw.1 h)), if_neg (show ¬ rw4 a b c e = some (r.length + 4) from hq)]
/-- What the reference's loop holds. -/
structure RuSt (w : World) (len : Nat) (d : By) (T : Option (List By)) (W : World) (at_ : Nat) (out : List By) (v : Value) : Prop where
  bel : Below w.heap.size w W
  own : W.ownsRow w.heap.size 9 1 v out.length (out.map sv)
  tot : ∃ f, T = (varP len f (d.drop at_)).map (out ++ ·) ∧ (d.drop at_).length ≤ f
  le : at_ ≤ d.length
  few : out.length ≤ at_
theorem varP_nil (len f : Nat) : varP len f [] = some [] := by cases f <;> rfl
theorem drop_four {d : By} {k : Nat} (h : k + 4 ≤ d.length) : ∃ a b c e r, d.drop k = a :: b :: c :: e :: r ∧ r = d.drop (k + 4) ∧ (ByteArray.mk d.toArray).extract k (k + 4) = ⟨([a, b, c, e] : By).toArray⟩ := by
  have hl : (d.drop k).length = d.length - k := List.length_drop ..
  have hr : d.drop (k + 4) = (d.drop k).drop 4 := by rw [List.drop_drop]
  have he : (ByteArray.mk d.toArray).extract k (k + 4) = ⟨((d.drop k).take 4).toArray⟩ := by
    apply ByteArray.ext
    rw [ByteArray.data_extract]
    apply Array.ext'
    simp only [Array.toList_extract, List.extract_eq_take_drop]
    rw [Nat.add_sub_cancel_left]
  rw [hr, he]
  generalize d.drop k = s at *
  match s, hl with
  | [], hl => simp only [List.length_nil] at hl; omega
  | [_], hl => simp only [List.length_cons, List.length_nil] at hl; omega
  | [_, _], hl => simp only [List.length_cons, List.length_nil] at hl; omega
  | [_, _, _], hl => simp only [List.length_cons, List.length_nil] at hl; omega
  | a :: b :: c :: e :: r, _ => exact ⟨a, b, c, e, r, rfl, rfl, rfl⟩

theorem varP_step {len f : Nat} {s : By} (h : s ≠ []) (hf : s.length ≤ f) : ∃ f', (firstV len s = none → varP len f s = none) ∧ ∀ x, firstV len s = some x → varP len f s = (varP len f' x.2).map (x.1 :: ·) ∧ x.2.length ≤ f' := by
  match s, f, h, hf with
  | [], _, h, _ => exact absurd rfl h
  | b :: s, 0, _, hf => simp only [List.length_cons] at hf; omega
  | b :: s, f + 1, _, hf =>
    refine ⟨f, fun hn => ?_, fun x hx => ⟨?_, ?_⟩⟩
    · rw [varP, hn]
    · rw [varP, hx]
    · have := firstV_len hx; simp only [List.length_cons] at *; omega
theorem RuSt.none {w W : World} {len k : Nat} {d : By} {T : Option (List By)} {out : List By} {v : Value} (h : RuSt w len d T W k out v) (hk : k < d.length) (hn : firstV len (d.drop k) = none) : T = none := by
  obtain ⟨f, ht, hf⟩ := h.tot
  obtain ⟨f', h1, _⟩ := varP_step (len := len) (s := d.drop k) (f := f) (by intro e; have := congrArg List.length e; simp only [List.length_drop, List.length_nil] at this; omega) hf
  rw [ht, h1 hn]; rfl
theorem RuSt.more {w W : World} {len k : Nat} {d : By} {T : Option (List By)} {out : List By} {v : Value} (h : RuSt w len d T W k out v) (hk : k < d.length) {x : By × By} (hx : firstV len (d.drop k) = some x) : ∃ f, T = (varP len f x.2).map ((out ++ [x.1]) ++ ·) ∧ x.2.length ≤ f := by
  obtain ⟨f, ht, hf⟩ := h.tot
  obtain ⟨f', _, h1⟩ := varP_step (len := len) (s := d.drop k) (f := f) (by intro e; have := congrArg List.length e; simp only [List.length_drop, List.length_nil] at this; omega) hf
  refine ⟨f', ?_, (h1 x hx).2⟩
  rw [ht, (h1 x hx).1]
  generalize varP len f' x.2 = z
  cases z <;> simp
theorem RuSt.done {w W : World} {len k : Nat} {d : By} {T : Option (List By)} {out : List By} {v : Value} (h : RuSt w len d T W k out v) (hk : ¬ k < d.length) : T = some out := by
  obtain ⟨f, ht, _⟩ := h.tot
  rw [ht, List.drop_eq_nil_of_le (by omega), varP_nil]; simp
theorem rw4_le {a b c e : UInt8} {n : Nat} (h : rw4 a b c e = some n) : n ≤ 65535 := by
  have ha := a.toNat_lt
  have hb := b.toNat_lt
  unfold rw4 at h
  split at h
  · have := Option.some.inj h; omega
  · cases h

set_option maxRecDepth 100000 in
set_option maxHeartbeats 4000000 in
theorem rvunpack_any (d : By) (len blk : Nat) (w : World) (hv : varV len blk = true) (hd : d.length ≤ 900000) :
    Calls Tryz.prog 81 #[.int .i64 len, .int .i64 blk, .string ⟨d.toArray⟩] w fun e w' => UPost w (varU len blk d) e w' := by
  have hbd : 1 ≤ (len : Int) ∧ (len : Int) ≤ 1000 ∧ (len : Int) + 8 ≤ blk ∧ (blk : Int) ≤ 1024 := by have h := hv; simp [varV] at h; omega
  obtain ⟨d1, d2, d3, d4⟩ := hbd
  have HV := Lib.hid hv
  obtain ⟨i0, hi0, hz0, hz1, hz2⟩ := info_parts info9
  clear hv
  have hS := fun h => varU_short (len := len) (blk := blk) (d := d) h
  have hL := fun a b => varU_long (len := len) (blk := blk) (d := d) a b (by omega)
  generalize varU len blk d = T at hS hL ⊢
  by_cases h8 : d.length < 8
  · have HT := Lib.hid (hS (Or.inl h8))
    have h8I : (d.length : Int) < 8 := by omega
    have h8D : decide (d.length < 8) = true := decide_eq_true h8
    have h8E : decide ((d.length : Int) < 8) = true := decide_eq_true h8I
    clear hS hL
    go_enter Tryz.func81, Tryz.ntmps81
    go_wp2_with fail
    refine (rvar_valid _ _ _).mono ?_
    rintro e _ ⟨rfl, rfl⟩
    rw [HV.out]
    go_wp2_with fail
    go_quiet (fail)
    go_wp2_with fail
    go_ret2
    exact UPost.no HT.out (below_drewN (Below.refl _ _) _)
  · by_cases hb : blk < d.length
    · have HT := Lib.hid (hS (Or.inr hb))
      have h8D : decide (d.length < 8) = false := decide_eq_false h8
      have hbI : (blk : Int) < (d.length : Int) := by omega
      have hbD : decide (blk < d.length) = true := decide_eq_true hb
      have hbE : decide ((blk : Int) < (d.length : Int)) = true := decide_eq_true hbI
      clear hS hL
      go_enter Tryz.func81, Tryz.ntmps81
      go_wp2_with fail
      refine (rvar_valid _ _ _).mono ?_
      rintro e _ ⟨rfl, rfl⟩
      rw [HV.out]
      go_wp2_with fail
      have h8E : decide ((d.length : Int) < 8) = false := decide_eq_false (by omega)
      go_quiet (fail)
      go_wp2_with fail
      go_ret2
      exact UPost.no HT.out (below_drewN (Below.refl _ _) _)
    · have h8D : decide (d.length < 8) = false := decide_eq_false h8
      have hbD : decide (blk < d.length) = false := decide_eq_false hb
      have hbE : decide ((blk : Int) < (d.length : Int)) = false := decide_eq_false (by omega)
      have hdl : d.length ≤ 1024 := by omega
      have hT := hL h8 hb
      have HW := Lib.hid (fun W => rword_any d.length W (by omega))
      have h8J : ¬ (d.length : Int) < 8 := by omega
      have hbJ : ¬ (blk : Int) < (d.length : Int) := by omega
      clear hS hL
      generalize word d.length = wd at hT HW
      by_cases hw : d.take 4 = wd
      rotate_left
      · rw [if_neg hw] at hT
        have HT := Lib.hid hT
        obtain ⟨tk, htk⟩ : ∃ tk, d.take 4 = tk := ⟨_, rfl⟩
        have hq1 : (tk == wd) = false := by rw [← htk]; simpa using hw
        have hq2 : (tk != wd) = true := by unfold bne; rw [hq1]; rfl
        have hq3 : decide (tk = wd) = false := by rw [← htk]; exact decide_eq_false hw
        have hq4 : ¬ tk = wd := by rw [← htk]; exact hw
        clear hT hw
        go_enter Tryz.func81, Tryz.ntmps81
        go_wp2_with fail
        refine (rvar_valid _ _ _).mono ?_
        rintro e _ ⟨rfl, rfl⟩
        rw [HV.out]
        go_wp2_with fail
        have h8E : decide ((d.length : Int) < 8) = false := decide_eq_false (by omega)
        have hbE : decide ((blk : Int) < (d.length : Int)) = false := decide_eq_false (by omega)
        refine wp_region_quiet_below (by kernel_rfl) (by kernel_rfl) ?_
        repeat (go_big_quiet_step ((go_at_call 102; exact Calls.regrown_of (HW.out _))))
        refine wpQuiet_nil ?_
        intro _ hw'
        obtain ⟨⟨dq, osq⟩, hw''⟩ := hw'
        subst hw''
        have HB2 := Lib.hid (below_regrown w dq osq)
        go_wp2_with fail
        go_ret2
        exact UPost.no HT.out HB2.out
      · rw [if_pos hw] at hT
        have HT := Lib.hid hT
        have hq1 : (wd == wd) = true := by simp
        have hq2 : (wd != wd) = false := by simp
        clear hT
        go_enter Tryz.func81, Tryz.ntmps81
        go_wp2_with fail
        refine (rvar_valid _ _ _).mono ?_
        rintro e _ ⟨rfl, rfl⟩
        rw [HV.out]
        go_wp2_with fail
        have h8E : decide ((d.length : Int) < 8) = false := decide_eq_false (by omega)
        have hbE : decide ((blk : Int) < (d.length : Int)) = false := decide_eq_false (by omega)
        refine wp_region_quiet_below (by kernel_rfl) (by kernel_rfl) ?_
        repeat (go_big_quiet_step ((go_at_call 102; exact Calls.regrown_of (HW.out _))))
        refine wpQuiet_nil ?_
        intro _ hw'
        obtain ⟨⟨dq, osq⟩, hw''⟩ := hw'
        subst hw''
        have HB2 := Lib.hid (below_regrown w dq osq)
        have h8G : 4 ≤ d.length := by omega
        clear hw hq1 hq2 h8D hbD h8E hbE h8J hbJ h8 hb
        generalize grow (redrawn w dq) osq = wq at HB2 ⊢
        go_wp2_with fail
        have HS := Lib.hid (show RuSt w len d T (wq.alloc (.cells #[] 9)) 4 [] (.slice (some ⟨wq.heap.size, 0, none⟩) 0 0) from
          ⟨HB2.out.alloc HB2.out.size _, lit0 (W := wq) 9 rfl HB2.out.size, ⟨_, by rw [HT.out]; cases varP len (d.drop 4).length (d.drop 4) <;> rfl, Nat.le_refl _⟩, h8G, by simp⟩)
        clear HT
        go_loopw [8, 9, 10, 11] (fun o k _ _ wr => ∃ (at_ : Nat) (out : List By), k = .int .i64 (at_ : Int) ∧ RuSt w len d T wr at_ out o) (fun _ k _ _ _ => d.length - (intOf k).toNat)
        case atStart => exact ⟨4, [], rfl, HS.out⟩
        case round =>
          clear HS
          obtain ⟨k, out, rfl, hS⟩ := hrel
          have hfew := hS.few
          have hle := hS.le
          have hol : out.length ≤ 1024 := by omega
          have HB := Lib.hid hS.bel
          have HO := Lib.hid hS.own
          obtain ⟨oa, oc, rfl, _, _⟩ := newsAt_of_row hS.own
          by_cases hlt : k < d.length
          · have hltI : (k : Int) < (d.length : Int) := by omega
            by_cases h4 : d.length < k + 4
            · have HT := Lib.hid (hS.none hlt (firstV_short (by rw [List.length_drop]; omega)))
              have h4I : (d.length : Int) < (k : Int) + 4 := by omega
              clear hS h4
              go_wp2_with fail
              go_ret2
              exact UPost.no HT.out HB.out
            · have h4I : ¬ (d.length : Int) < (k : Int) + 4 := by omega
              obtain ⟨a, b, c, e, r, hdr, hr, hx⟩ := drop_four (d := d) (k := k) (by omega)
              have HW := Lib.hid (fun W => rreadword_any a b c e W)
              have hrl : r.length = d.length - (k + 4) := by rw [hr, List.length_drop]
              have hN := fun hn => hS.none hlt (hdr ▸ hn)
              have hM := fun (x : By × By) (hx : firstV len (a :: b :: c :: e :: r) = some x) => hS.more hlt (x := x) (hdr ▸ hx)
              have hF : firstV len (a :: b :: c :: e :: r) = match rw4 a b c e with
                | none => none
                | some n => if n < 4 ∨ r.length + 4 < n ∨ len < n - 4 then none else some (r.take (n - 4), r.drop (n - 4)) := rfl
              have hle4 := fun n (h : rw4 a b c e = some n) => rw4_le h
              generalize firstV len (a :: b :: c :: e :: r) = F at hN hM hF
              generalize rw4 a b c e = R at hF HW hle4
              generalize [a, b, c, e] = q at hx HW
              clear hS h4
              cases R with
              | none =>
                have HT := Lib.hid (hN hF)
                clear hN hM hF hle4 hr hrl
                go_wp2_with fail
                refine (HW.out _).mono ?_
                rintro x w2 ⟨rfl, hb2⟩
                have HB2 := Lib.hid (HB.out.trans (hb2.mono HB.out.size))
                clear hb2
                simp only [rwV]
                go_wp2_with fail
                go_ret2
                exact UPost.no HT.out HB2.out
              | some n =>
                have hn := hle4 n rfl
                clear hle4
                simp only at hF
                by_cases h1 : n < 4
                · rw [if_pos (Or.inl h1)] at hF
                  have HT := Lib.hid (hN hF)
                  have h1I : (n : Int) < 4 := by omega
                  clear hN hM hF hr hrl h1
                  go_wp2_with fail
                  refine (HW.out _).mono ?_
                  rintro x w2 ⟨rfl, hb2⟩
                  have HB2 := Lib.hid (HB.out.trans (hb2.mono HB.out.size))
                  clear hb2
                  simp only [rwV]
                  go_wp2_with fail
                  go_ret2
                  exact UPost.no HT.out HB2.out
                · by_cases h2 : 4 + len < n
                  · rw [if_pos (Or.inr (Or.inr (by omega)))] at hF
                    have HT := Lib.hid (hN hF)
                    have h1I : ¬ (n : Int) < 4 := by omega
                    have h2I : (4 : Int) + (len : Int) < (n : Int) := by omega
                    clear hN hM hF hr hrl h1 h2
                    go_wp2_with fail
                    refine (HW.out _).mono ?_
                    rintro x w2 ⟨rfl, hb2⟩
                    have HB2 := Lib.hid (HB.out.trans (hb2.mono HB.out.size))
                    clear hb2
                    simp only [rwV]
                    go_wp2_with fail
                    go_ret2
                    exact UPost.no HT.out HB2.out
                  · by_cases h3 : d.length < k + n
                    · rw [if_pos (Or.inr (Or.inl (by omega)))] at hF
                      have HT := Lib.hid (hN hF)
                      have h1I : ¬ (n : Int) < 4 := by omega
                      have h2I : ¬ (4 : Int) + (len : Int) < (n : Int) := by omega
                      have h3I : (d.length : Int) < (k : Int) + (n : Int) := by omega
                      clear hN hM hF hr hrl h1 h2 h3
                      go_wp2_with fail
                      refine (HW.out _).mono ?_
                      rintro x w2 ⟨rfl, hb2⟩
                      have HB2 := Lib.hid (HB.out.trans (hb2.mono HB.out.size))
                      clear hb2
                      simp only [rwV]
                      go_wp2_with fail
                      go_ret2
                      exact UPost.no HT.out HB2.out
                    · rw [if_neg (by omega)] at hF
                      obtain ⟨f, hT2, hf2⟩ := hM _ hF
                      simp only at hT2 hf2
                      have hdn : r.drop (n - 4) = d.drop (k + n) := by rw [hr, List.drop_drop]; congr 1; omega
                      rw [hdn] at hT2 hf2
                      have hx2 : (ByteArray.mk d.toArray).extract (k + 4) (k + n) = ⟨(r.take (n - 4)).toArray⟩ := by
                        apply ByteArray.ext
                        rw [ByteArray.data_extract, hr]
                        apply Array.ext'
                        simp only [Array.toList_extract, List.extract_eq_take_drop]
                        congr 1; omega
                      generalize r.take (n - 4) = x at hT2 hx2
                      have h1I : ¬ (n : Int) < 4 := by omega
                      have h2I : ¬ (4 : Int) + (len : Int) < (n : Int) := by omega
                      have h3I : ¬ (d.length : Int) < (k : Int) + (n : Int) := by omega
                      have HT2 := Lib.hid hT2
                      have HF2 := Lib.hid hf2
                      have h43 : k + n ≤ d.length := by omega
                      have h44 : k + 4 ≤ k + n := by omega
                      have hfw : (out ++ [x]).length ≤ k + n := by simp; omega
                      have HFW := Lib.hid hfw
                      clear hN hM hF hr hrl h1 h2 h3 hT2 hf2 hdn hfw
                      go_wp2_with fail
                      refine (HW.out _).mono ?_
                      rintro y w2 ⟨rfl, hb2⟩
                      have HB2 := Lib.hid (HB.out.trans (hb2.mono HB.out.size))
                      have hown2 := own_below HO.out hb2
                      have hs2 := HB2.out.size
                      clear hb2
                      simp only [rwV]
                      go_wp2_with (refine wpList_append_own _ rfl _ _ 24 rfl w.heap.size 9 i0 (.string ByteArray.empty) 1 16 Tryz.underlying24 hi0 hz0 hz1 hz2 rfl (by decide) _ _ _ rfl (hown2.alloc _) _ 1 1 [.string ⟨x.toArray⟩] rfl rfl ?e11 ?e21 ?e31 ?e41 ?e51 ?_)
                      case e11 => exact news_at (cs := #[.string ⟨x.toArray⟩]) (heap_alloc_new _ _)
                      case e21 => simp [Value.oneCell']
                      case e31 => unfold maxLen; (try simp); omega
                      case e41 => (try simp); omega
                      case e51 => simp; omega
                      intro v6 w6 hown6 hg6 _
                      have hb6 := (HB2.out.alloc HB2.out.size (.cells #[.string ⟨x.toArray⟩] 9)).grown hg6 (by simp; omega) (fun k hk => row_own hown2 hk)
                      have hown7 : w6.ownsRow w.heap.size 9 1 v6 (out ++ [x]).length ((out ++ [x]).map sv) := by simpa [sv] using hown6
                      have HZ := Lib.hid (show RuSt w len d T w6 (k + n) (out ++ [x]) v6 from ⟨hb6, hown7, ⟨f, HT2.out, HF2.out⟩, h43, HFW.out⟩)
                      clear hown2 hown6 hown7 hg6 hb6
                      go_wp2_with fail
                      go_roundw
                      case rel => exact ⟨k + n, out ++ [x], by go_num, HZ.out⟩
                      case measure => simp [intOf]; omega
          · have HT := Lib.hid (hS.done hlt)
            have hltI : ¬ (k : Int) < (d.length : Int) := by omega
            clear hS
            go_wp2_with fail
            go_ret2
            exact UPost.yes HT.out HO.out HB.out
end

end Go.Proofs.YthkpcalopmddpaaGreatDoor
