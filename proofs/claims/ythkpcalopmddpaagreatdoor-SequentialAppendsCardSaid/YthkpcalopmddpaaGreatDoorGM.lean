/-
  Walks: segments as rows, as text and as values. No condition.
  Walks: the segments of a block. Conditions: valid sizes; the table of codes is laid.
-/
import Derived.Test.YthkpcalopmddpaaGreatDoorGL
import Derived.Test.YthkpcalopmddpaaGreatDoorGD
import Derived.Test.YthkpcalopmddpaaGreatDoorS12
import Derived.Test.YthkpcalopmddpaaGreatDoorGC
namespace Go.Proofs.YthkpcalopmddpaaGreatDoor

section
open Go.RowKit Go.Sort
attribute [local go_sem] strOfNums_size ext_drop ext_take

abbrev Seg := Bool × Bool × By
def segC (x : Seg) : List Value := [.bool x.1, .bool x.2.1, sv x.2.2]
def flatS : List Seg → List Value
  | [] => []
  | x :: l => segC x ++ flatS l
theorem flatS_append (a b : List Seg) : flatS (a ++ b) = flatS a ++ flatS b := by
  induction a with
  | nil => rfl
  | cons x a ih => show segC x ++ flatS (a ++ b) = segC x ++ flatS a ++ flatS b; rw [ih, List.append_assoc]
def segB (c : UInt8) : Bool := decide (2 ≤ c.toNat)
def segA (c : UInt8) : Bool := decide (c.toNat % 2 = 1)
theorem codes_at {w : World} (h : Codes w) (c : UInt8) (hc : c.toNat ≤ 3) : w.cell? ⟨0, c.toNat * 2, none⟩ = some (.bool (segB c)) ∧ w.cell? ⟨0, c.toNat * 2 + 1, none⟩ = some (.bool (segA c)) := by
  have h4 : c.toNat = 0 ∨ c.toNat = 1 ∨ c.toNat = 2 ∨ c.toNat = 3 := by omega
  unfold segB segA
  rcases h4 with e | e | e | e <;> rw [e]
  · exact ⟨h.c0, h.c1⟩
  · exact ⟨h.c2, h.c3⟩
  · exact ⟨h.c4, h.c5⟩
  · exact ⟨h.c6, h.c7⟩
/-- The head of a segment is in order. -/
def segOk (len rl : Nat) (c e : UInt8) (n : Nat) : Prop := c.toNat ≤ 3 ∧ e.toNat = 0 ∧ 4 ≤ n ∧ n ≤ rl + 4 ∧ n - 4 ≤ len ∧ (n = 4 → c.toNat = 0)
instance (len rl : Nat) (c e : UInt8) (n : Nat) : Decidable (segOk len rl c e n) := by unfold segOk; infer_instance
/-- The segments of forms: k are before them. -/
def segP (len blk dl : Nat) : Nat → Nat → By → Option (List Seg)
  | _, _, [] => some []
  | f + 1, k, a :: b :: c :: e :: r =>
    if segOk len r.length c e (256 * a.toNat + b.toNat) ∧ (segB c = true → k = 0) ∧ (segA c = true → r.drop (256 * a.toNat + b.toNat - 4) = [] ∧ dl = blk) then
      (segP len blk dl f (k + 1) (r.drop (256 * a.toNat + b.toNat - 4))).map ((segB c, segA c, r.take (256 * a.toNat + b.toNat - 4)) :: ·)
    else none
  | _, _, _ => none
def segU2 (len blk : Nat) (d : By) : Option (List Seg) :=
  match d with
  | a :: b :: c :: e :: r => if rw4 a b c e = some (r.length + 4) then segP len blk (r.length + 4) r.length 0 r else none
  | _ => none
/-- The segments of a block. -/
def segU (len blk : Nat) (d : By) : Option (List Seg) := if d.length < 8 ∨ blk < d.length then none else segU2 len blk d

theorem own_slice {w : World} {base : Nat} {e : TypeId} {size : Nat} {v : Value} {n : Nat} {xs : List Value} (h : w.ownsRow base e size v n xs) : ∃ a c, v = .slice a n c := by
  rcases h.2 with ⟨rfl, rfl⟩ | ⟨g, cap, cur, rfl, _⟩
  · exact ⟨none, 0, rfl⟩
  · exact ⟨_, cap, rfl⟩
theorem infoS : (Tryz.prog.info? 163).map (fun i => (i.zero, i.size, i.bytes)) = some (some (.agg #[.bool false, .bool false, .string ByteArray.empty]), 3, 24) := by kernel_rfl
/-- What the loop of Segments holds. -/
structure SgSt (w : World) (len blk dl : Nat) (T : Option (List Seg)) (W : World) (out : List Seg) (rem : By) (v : Value) (f : Nat) : Prop where
  bel : Below w.heap.size w W
  own : W.ownsRow w.heap.size 163 3 v out.length (flatS out)
  tot : T = (segP len blk dl f out.length rem).map (out ++ ·)
  fuel : rem.length ≤ f
  few : out.length + rem.length ≤ 950000
/-- What Segments gives. -/
structure GPost (w : World) (T : Option (List Seg)) (e : Ending) (w' : World) : Prop where
  good : ∀ L, T = some L → ∃ v, e = .returned (.tuple #[v, .int .i64 0]) ∧ w'.ownsRow w.heap.size 163 3 v L.length (flatS L)
  bad : T = none → e = .returned (.tuple #[.slice none 0 0, .int .i64 11])
  bel : Below w.heap.size w w'
theorem GPost.no {w w' : World} {T : Option (List Seg)} (hT : T = none) (h : Below w.heap.size w w') : GPost w T (.returned (.tuple #[.slice none 0 0, .int .i64 11])) w' :=
  ⟨fun L hL => (by rw [hT] at hL; cases hL), fun _ => rfl, h⟩
theorem GPost.yes {w w' : World} {T : Option (List Seg)} {L : List Seg} {v : Value} (hT : T = some L) (ho : w'.ownsRow w.heap.size 163 3 v L.length (flatS L)) (h : Below w.heap.size w w') : GPost w T (.returned (.tuple #[v, .int .i64 0])) w' :=
  ⟨fun L' hL => (by rw [hT] at hL; obtain rfl := Option.some.inj hL; exact ⟨_, rfl, ho⟩), fun h => (by rw [hT] at h; cases h), h⟩

theorem flatS_length (l : List Seg) : (flatS l).length = l.length * 3 := by
  induction l with
  | nil => rfl
  | cons x l ih => show (segC x ++ flatS l).length = _; rw [List.length_append, ih, List.length_cons]; show 3 + _ = _; omega
theorem flatS_get (l : List Seg) (j : Nat) (h : j < l.length) : (flatS l)[j * 3]? = some (.bool l[j].1) ∧ (flatS l)[j * 3 + 1]? = some (.bool l[j].2.1) ∧ (flatS l)[j * 3 + 2]? = some (sv l[j].2.2) := by
  induction l generalizing j with
  | nil => exact absurd h (by simp)
  | cons x l ih =>
    show (segC x ++ flatS l)[j * 3]? = _ ∧ (segC x ++ flatS l)[j * 3 + 1]? = _ ∧ (segC x ++ flatS l)[j * 3 + 2]? = _
    cases j with
    | zero => exact ⟨rfl, rfl, rfl⟩
    | succ j =>
      have h3 : (segC x).length = 3 := rfl
      have := ih j (by simp only [List.length_cons] at h; omega)
      rw [List.getElem?_append_right (by omega), List.getElem?_append_right (by omega), List.getElem?_append_right (by omega), h3, show (j + 1) * 3 - 3 = j * 3 by omega, show (j + 1) * 3 + 1 - 3 = j * 3 + 1 by omega, show (j + 1) * 3 + 2 - 3 = j * 3 + 2 by omega]
      exact this
theorem one_flatS (l : List Seg) : ∀ u ∈ flatS l, u.oneCell' = true := by
  induction l with
  | nil => intro u hu; exact absurd hu (by simp [flatS])
  | cons x l ih =>
    intro u hu
    rcases List.mem_append.1 (show u ∈ segC x ++ flatS l from hu) with h | h
    · simp only [segC, sv, List.mem_cons, List.not_mem_nil, or_false] at h
      rcases h with rfl | rfl | rfl <;> rfl
    · exact ih u h
theorem news_row3 {w : World} {base : Nat} {e : TypeId} {v : Value} {l : List Seg} (h : w.ownsRow base e 3 v l.length (flatS l)) : ∃ ad c, v = .slice ad l.length c ∧ l.length ≤ c ∧ NewsAt w w.heap.size ad l.length c (flatS l) := by
  rcases h.2 with ⟨rfl, hn⟩ | ⟨g, cap, cur, rfl, hbase, hblk, q1, q2, q3, q4⟩
  · rw [hn]; exact ⟨none, 0, rfl, Nat.le_refl _, ⟨Or.inr ⟨rfl, rfl, rfl⟩⟩⟩
  · refine ⟨_, cap, rfl, by omega, ⟨Or.inl ⟨_, rfl, lt_of_block hblk, fun j u hj => ?_⟩⟩⟩
    refine news_at hblk j u ?_
    rw [← q4, List.getElem?_take] at hj
    split at hj
    · exact hj
    · simp at hj
theorem row_cell {w : World} {base : Nat} {e : TypeId} {g n c : Nat} {l : List By} (h : w.ownsRow base e 1 (.slice (some ⟨g, 0, none⟩) n c) l.length (l.map sv)) (i : Nat) (hi : i < l.length) : w.cell? ⟨g, i, none⟩ = some (.string ⟨l[i].toArray⟩) := by
  obtain ⟨g', c', e1, _, _, hc, _⟩ := row_set h i hi
  cases e1
  exact hc
end

section
open Go.RowKit Go.Sort
attribute [local go_sem] strOfNums_size ext_drop ext_take

set_option maxRecDepth 100000 in
set_option maxHeartbeats 4000000 in
theorem segments_any (d : By) (len blk : Nat) (w : World) (hv : spnV len blk = true) (hd : d.length ≤ 900000) (hc0 : Codes w) :
    Calls Tryz.prog 116 #[.int .i64 len, .int .i64 blk, .string ⟨d.toArray⟩] w fun e w' => GPost w (segU len blk d) e w' := by
  have HV := Lib.hid hv
  have hbd : 1 ≤ (len : Int) ∧ (len : Int) ≤ 1000 ∧ (9 : Int) ≤ blk ∧ (blk : Int) ≤ 1024 := by simp [spnV] at hv; omega
  obtain ⟨d1, d2, d3, d4⟩ := hbd
  obtain ⟨i0, hi0, hz0, hz1, hz2⟩ := info_parts infoS
  clear hv
  by_cases h4 : d.length < 8
  · have HT := Lib.hid (show segU len blk d = none by unfold segU; rw [if_pos (Or.inl h4)])
    have h4I : (d.length : Int) < 8 := by omega
    clear h4
    go_enter Tryz.func116, Tryz.ntmps116
    go_wp2_with fail
    refine (spn_valid _ _ _).mono ?_
    rintro e _ ⟨rfl, rfl⟩
    rw [HV.out]
    go_wp2_with fail
    go_ret2
    exact GPost.no HT.out (Below.refl _ _)
  · have h4I : ¬ (d.length : Int) < 8 := by omega
    by_cases h5 : blk < d.length
    · have HT := Lib.hid (show segU len blk d = none by unfold segU; rw [if_pos (Or.inr h5)])
      have h5I : (blk : Int) < (d.length : Int) := by omega
      clear h4 h5
      go_enter Tryz.func116, Tryz.ntmps116
      go_wp2_with fail
      refine (spn_valid _ _ _).mono ?_
      rintro e _ ⟨rfl, rfl⟩
      rw [HV.out]
      go_wp2_with fail
      go_ret2
      exact GPost.no HT.out (Below.refl _ _)
    · have h5I : ¬ (blk : Int) < (d.length : Int) := by omega
      have hT : segU len blk d = segU2 len blk d := by unfold segU; rw [if_neg (by omega)]
      generalize segU len blk d = T at hT ⊢
      match d, h4 with
      | [], h => exact absurd (by simp) h
      | [_], h => exact absurd (by simp) h
      | [_, _], h => exact absurd (by simp) h
      | [_, _, _], h => exact absurd (by simp) h
      | a :: b :: c :: e :: r, h4 =>
        replace hT : T = if rw4 a b c e = some (a :: b :: c :: e :: r).length then segP len blk (a :: b :: c :: e :: r).length r.length 0 r else none := hT
        have HW := Lib.hid (fun W => readword_any a b c e W)
        have htk : (a :: b :: c :: e :: r).take 4 = [a, b, c, e] := rfl
        have hdr : (a :: b :: c :: e :: r).drop 4 = r := rfl
        have hrl : r.length ≤ 900000 := by simp only [List.length_cons] at hd; omega
        generalize rw4 a b c e = R at hT HW
        generalize [a, b, c, e] = q at htk HW
        generalize a :: b :: c :: e :: r = d at *
        by_cases hR : R = some d.length
        · rw [if_pos hR] at hT
          subst hR
          have hdl : ((d.length : Int) == (d.length : Int)) = true := by simp
          have hdl2 : ((d.length : Int) != (d.length : Int)) = false := by simp
          have HT := Lib.hid hT
          have q1 : decide ((d.length : Int) < 8) = false := by simp; omega
          have q2 : decide (blk < d.length) = false := by simp; omega
          clear hT h4 h5
          go_enter Tryz.func116, Tryz.ntmps116
          go_wp2_with fail
          refine (spn_valid _ _ _).mono ?_
          rintro e _ ⟨rfl, rfl⟩
          rw [HV.out]
          go_wp2_with fail
          refine (HW.out _).mono ?_
          rintro x w1 ⟨rfl, hb1⟩
          have HS := Lib.hid (show SgSt w len blk d.length T w1 [] r (.slice none 0 0) r.length from ⟨hb1, own_nil _ _ _ _, by rw [HT.out]; show _ = (segP len blk d.length r.length 0 r).map _; cases segP len blk d.length r.length 0 r <;> rfl, Nat.le_refl _, by simp; omega⟩)
          clear hb1
          simp only [rwV]
          go_wp2_with fail
          go_loopw [10, 11, 12, 13, 14] (fun o x _ _ _ wr => ∃ out rem f, x = .string ⟨rem.toArray⟩ ∧ SgSt w len blk d.length T wr out rem o f) (fun _ x _ _ _ _ => match x with | .string b => b.data.size | _ => 0)
          case atStart => exact ⟨[], r, _, rfl, HS.out⟩
          case round =>
            clear HS HT
            obtain ⟨out, rem, f, rfl, hS⟩ := hrel
            obtain ⟨oa, oc, rfl⟩ := own_slice hS.own
            have htot := hS.tot
            have hfu := hS.fuel
            have hfew := hS.few
            have HO := Lib.hid hS.own
            have HB := Lib.hid hS.bel
            have HCD := Lib.hid (hc0.below hS.bel hc0.pos)
            clear hS
            match rem, f, hfu with
            | [], f, _ =>
              have HT := Lib.hid (show T = some out by rw [htot]; cases f <;> simp [segP])
              clear htot
              go_wp2_with fail
              go_ret2
              exact GPost.yes HT.out HO.out HB.out
            | [x], f + 1, _ =>
              have HT := Lib.hid (show T = none by rw [htot]; simp [segP])
              clear htot
              go_wp2_with fail
              go_ret2
              exact GPost.no HT.out HB.out
            | [x, y], f + 1, _ =>
              have HT := Lib.hid (show T = none by rw [htot]; simp [segP])
              clear htot
              go_wp2_with fail
              go_ret2
              exact GPost.no HT.out HB.out
            | [x, y, z], f + 1, _ =>
              have HT := Lib.hid (show T = none by rw [htot]; simp [segP])
              clear htot
              go_wp2_with fail
              go_ret2
              exact GPost.no HT.out HB.out
            | a :: b :: c :: e :: r, f + 1, hfu =>
              rw [segP] at htot
              have hx0 : ∀ h, (ByteArray.mk (a :: b :: c :: e :: r).toArray)[0]'h = a := fun _ => rfl
              have hx1 : ∀ h, (ByteArray.mk (a :: b :: c :: e :: r).toArray)[1]'h = b := fun _ => rfl
              have hx2 : ∀ h, (ByteArray.mk (a :: b :: c :: e :: r).toArray)[2]'h = c := fun _ => rfl
              have hx3 : ∀ h, (ByteArray.mk (a :: b :: c :: e :: r).toArray)[3]'h = e := fun _ => rfl
              have hln : (a :: b :: c :: e :: r).length = r.length + 4 := rfl
              have hie : (!(a :: b :: c :: e :: r).isEmpty) = true := rfl
              have hne : a :: b :: c :: e :: r ≠ [] := by simp
              have HXT := Lib.hid (show ∀ n, 4 ≤ n → n ≤ r.length + 4 → (ByteArray.mk (a :: b :: c :: e :: r).toArray).extract 4 n = ⟨(r.take (n - 4)).toArray⟩ from fun n h1 h2 => by
                apply ByteArray.ext
                rw [ByteArray.data_extract]
                apply Array.ext'
                simp)
              have HXD := Lib.hid (show ∀ n, 4 ≤ n → (ByteArray.mk (a :: b :: c :: e :: r).toArray).extract n (r.length + 4) = ⟨(r.drop (n - 4)).toArray⟩ from fun n h1 => by
                have h := ext_drop (a :: b :: c :: e :: r) n
                obtain ⟨m, rfl⟩ : ∃ m, n = m + 4 := ⟨n - 4, by omega⟩
                rw [hln, show (a :: b :: c :: e :: r).drop (m + 4) = r.drop m from rfl] at h
                rw [show m + 4 - 4 = m by omega]
                exact h)
              have ha := a.toNat_lt
              have hb := b.toNat_lt
              have hor := or_be a b
              have m1 : IntKind.i64.wrap (a.toNat : Int) = (a.toNat : Int) := IntWalk.i64_in _ (by omega)
              have m2 : IntKind.i64.wrap (b.toNat : Int) = (b.toNat : Int) := IntWalk.i64_in _ (by omega)
              have m3 : IntKind.i64.wrap ((a.toNat : Int) * 256) = (a.toNat : Int) * 256 := IntWalk.i64_in _ (by omega)
              have hn65 : 256 * a.toNat + b.toNat ≤ 65535 := by omega
              generalize 256 * a.toNat + b.toNat = n at hor htot hn65
              have hfr : r.length + 3 ≤ f := by simp only [List.length_cons] at hfu; omega
              clear hfu
              generalize a :: b :: c :: e :: r = rem at *
              by_cases hc : 3 < c.toNat
              · rw [if_neg (fun h => by have := h.1.1; omega)] at htot
                have HT := Lib.hid (show T = none from htot)
                have hcI : (3 : Int) < (c.toNat : Int) := by omega
                clear htot
                go_wp2_with fail
                go_ret2
                exact GPost.no HT.out HB.out
              · have hcI : ¬ (3 : Int) < (c.toNat : Int) := by omega
                by_cases he : e.toNat = 0
                · have e1 : ((e.toNat : Int) == 0) = true := by rw [he]; rfl
                  have e2 : ((e.toNat : Int) != 0) = false := by rw [he]; rfl
                  have HE := Lib.hid he
                  have HTT := Lib.hid htot
                  have cc := codes_at HCD.out c (by omega)
                  have cc1 := cc.1
                  have cc2 := cc.2
                  have HC3 := Lib.hid (show c.toNat ≤ 3 by omega)
                  clear he htot cc
                  generalize segB c = bf at HTT cc1
                  generalize segA c = af at HTT cc2
                  go_wp2_with fail
                  go_region
                  all_goals
                    by_cases h3 : n < 4
                    · have HT := Lib.hid (show T = none by rw [HTT.out, if_neg (fun h => by have := h.1.2.2.1; omega)]; rfl)
                      have h3I : (n : Int) < 4 := by omega
                      go_wp2_with fail
                      go_ret2
                      exact GPost.no HT.out (below_drewN HB.out 1)
                    · have h3I : ¬ (n : Int) < 4 := by omega
                      by_cases h4 : r.length + 4 < n
                      · have HT := Lib.hid (show T = none by rw [HTT.out, if_neg (fun h => by have := h.1.2.2.2.1; omega)]; rfl)
                        have h4J : (r.length : Int) + 4 < (n : Int) := by omega
                        go_wp2_with fail
                        go_ret2
                        exact GPost.no HT.out (below_drewN HB.out 1)
                      · have h4J : ¬ (r.length : Int) + 4 < (n : Int) := by omega
                        by_cases h5 : len < n - 4
                        · have HT := Lib.hid (show T = none by rw [HTT.out, if_neg (fun h => by have := h.1.2.2.2.2.1; omega)]; rfl)
                          have h5J : (len : Int) < (n : Int) - 4 := by omega
                          go_wp2_with fail
                          go_ret2
                          exact GPost.no HT.out (below_drewN HB.out 1)
                        · have h5J : ¬ (len : Int) < (n : Int) - 4 := by omega
                          by_cases h6 : n = 4 ∧ ¬ c.toNat = 0
                          · have HT := Lib.hid (show T = none by rw [HTT.out, if_neg (fun h => h6.2 (h.1.2.2.2.2.2 h6.1))]; rfl)
                            have e4 : ((n : Int) == 4) = true := by rw [h6.1]; rfl
                            have e5 : ((c.toNat : Int) == 0) = false := by simp; omega
                            have e6 : ((c.toNat : Int) != 0) = true := by simp; omega
                            clear h6
                            go_wp2_with fail
                            go_ret2
                            exact GPost.no HT.out (below_drewN HB.out 1)
                          · have hok : segOk len r.length c e n := ⟨HC3.out, HE.out, by omega, by omega, by omega, fun h => Decidable.byContradiction fun h2 => h6 ⟨h, h2⟩⟩
                            have hT2 : T = (if (bf = true → out.length = 0) ∧ (af = true → r.drop (n - 4) = [] ∧ d.length = blk) then
                              (segP len blk d.length f (out.length + 1) (r.drop (n - 4))).map ((bf, af, r.take (n - 4)) :: ·) else none).map (out ++ ·) := by
                              rw [HTT.out]; congr 1
                              by_cases hq : (bf = true → out.length = 0) ∧ (af = true → r.drop (n - 4) = [] ∧ d.length = blk)
                              · rw [if_pos ⟨hok, hq⟩, if_pos hq]
                              · rw [if_neg (fun h => hq h.2), if_neg hq]
                            have HT2 := Lib.hid hT2
                            have hx4 := HXT.out n (by omega) (by omega)
                            have hx5 := HXD.out n (by omega)
                            have hrs : (r.drop (n - 4)).length + n = r.length + 4 := by rw [List.length_drop]; omega
                            generalize r.drop (n - 4) = rs at HT2 hx5 hrs
                            generalize r.take (n - 4) = x at HT2 hx4
                            have h7 : (((n : Int) == 4) = true ∧ ((c.toNat : Int) != 0) = false ∧ ((c.toNat : Int) == 0) = true) ∨ ((n : Int) == 4) = false := by
                              by_cases h8 : n = 4
                              · have h9 : c.toNat = 0 := Decidable.byContradiction fun h2 => h6 ⟨h8, h2⟩
                                exact Or.inl ⟨by rw [h8]; rfl, by rw [h9]; rfl, by rw [h9]; rfl⟩
                              · exact Or.inr (by simp; omega)
                            clear hT2 hok h6
                            have cd1 : wr.drew.cell? ⟨0, c.toNat * 2, none⟩ = some (.bool bf) := cc1
                            have cd2 : wr.drew.cell? ⟨0, c.toNat * 2 + 1, none⟩ = some (.bool af) := cc2
                            rcases h7 with ⟨e4, e5, e6⟩ | e4
                            all_goals
                              go_wp2_with fail
                              go_region
                              all_goals
                                obtain ⟨W9, hW9⟩ : ∃ W9, W9 = ((wr.alloc (.cells #[.bool bf, .bool af] 166)).alloc (.cells #[.bool bf, .bool af, .string ⟨x.toArray⟩] 163)).drew.drew := ⟨_, rfl⟩
                                have hg9 : W9.heap[wr.heap.size + 1]? = some (.cells #[.bool bf, .bool af, .string ⟨x.toArray⟩] 163 (0, 0)) := by rw [hW9]; exact heap_alloc2_new wr _ _
                                have hb9 : Below wr.heap.size wr W9 := by rw [hW9]; exact below_drewN (below_drewN (((Below.refl _ _).alloc (Nat.le_refl _) _).alloc (by simp) _) 1) 1
                                rw [← hW9]
                                have s0 := cell_at (i := 0) (v := .bool bf) hg9 rfl
                                have s1 := cell_at (i := 1) (v := .bool af) hg9 rfl
                                have s2 := cell_at (i := 2) (v := .string ⟨x.toArray⟩) hg9 rfl
                                have HB9 := Lib.hid (HB.out.trans (hb9.mono HB.out.size))
                                have hown9 := own_below HO.out hb9
                                clear hW9 hg9 hb9 cd1 cd2
                                cases bf
                                · have HPB := Lib.hid (show (false = true → out.length = 0) from fun h => (by cases h))
                                  cases af
                                  · have hqa : (false = true → rs = [] ∧ d.length = blk) := fun h => (by cases h)
                                    have HT3 := Lib.hid (show T = (segP len blk d.length f (out ++ [(false, false, x)]).length rs).map ((out ++ [(false, false, x)]) ++ ·) by
                                      rw [HT2.out, if_pos (⟨HPB.out, hqa⟩), List.length_append]
                                      show _ = (segP len blk d.length f (out.length + 1) rs).map _
                                      generalize segP len blk d.length f (out.length + 1) rs = z
                                      cases z <;> simp)
                                    clear HT2
                                    go_wp2_with (at_builtin; (refine wpList_append_own _ rfl _ _ 146 rfl w.heap.size 163 i0 (.agg #[.bool false, .bool false, .string ByteArray.empty]) 3 24 Tryz.underlying146 hi0 hz0 hz1 hz2 rfl (by decide) _ _ _ rfl (hown9.alloc _) _ 1 1 [.bool false, .bool false, .string ⟨x.toArray⟩] rfl rfl (news_at (cs := #[.bool false, .bool false, .string ⟨x.toArray⟩]) (heap_alloc_new _ _)) (by simp [Value.oneCell']) (by unfold maxLen; (try simp) <;> omega) (by (try simp) <;> omega) (by have := HB9.out.size; simp at this ⊢; omega) ?_))
                                    intro v6 w6 hown6 hg6 _
                                    have hbA := HB9.out.alloc HB9.out.size (.cells #[.bool false, .bool false, .string ⟨x.toArray⟩] 163)
                                    have hb6 := hbA.grown hg6 hbA.size (fun k hk => row_own hown9 hk)
                                    have hown7 : w6.ownsRow w.heap.size 163 3 v6 (out ++ [(false, false, x)]).length (flatS (out ++ [(false, false, x)])) := by
                                      rw [List.length_append, flatS_append]; simpa [flatS, segC, sv] using hown6
                                    have HZ := Lib.hid (show SgSt w len blk d.length T w6 (out ++ [(false, false, x)]) rs v6 f from ⟨hb6, hown7, HT3.out, by omega, by rw [List.length_append]; simp only [List.length_singleton]; rw [hln] at hfew; omega⟩)
                                    clear hown9 hown6 hown7 hg6 hbA hb6
                                    go_wp2_with fail
                                    go_roundw
                                    case rel => exact ⟨_, rs, f, rfl, HZ.out⟩
                                    case measure => simp; omega
                                  · by_cases hrn : rs = []
                                    · by_cases hdb : d.length = blk
                                      · have HQA := Lib.hid (show (true = true → rs = [] ∧ d.length = blk) from fun _ => ⟨hrn, hdb⟩)
                                        have o2 : (!rs.isEmpty) = false := by rw [hrn]; rfl
                                        have o3 : ((d.length : Int) != (blk : Int)) = false := by rw [hdb]; simp
                                        have o4 : (d.length != blk) = false := by rw [hdb]; simp
                                        clear hrn hdb
                                        have HT3 := Lib.hid (show T = (segP len blk d.length f (out ++ [(false, true, x)]).length rs).map ((out ++ [(false, true, x)]) ++ ·) by
                                          rw [HT2.out, if_pos (⟨HPB.out, HQA.out⟩), List.length_append]
                                          show _ = (segP len blk d.length f (out.length + 1) rs).map _
                                          generalize segP len blk d.length f (out.length + 1) rs = z
                                          cases z <;> simp)
                                        clear HT2
                                        go_wp2_with (at_builtin; (refine wpList_append_own _ rfl _ _ 146 rfl w.heap.size 163 i0 (.agg #[.bool false, .bool false, .string ByteArray.empty]) 3 24 Tryz.underlying146 hi0 hz0 hz1 hz2 rfl (by decide) _ _ _ rfl (hown9.alloc _) _ 1 1 [.bool false, .bool true, .string ⟨x.toArray⟩] rfl rfl (news_at (cs := #[.bool false, .bool true, .string ⟨x.toArray⟩]) (heap_alloc_new _ _)) (by simp [Value.oneCell']) (by unfold maxLen; (try simp) <;> omega) (by (try simp) <;> omega) (by have := HB9.out.size; simp at this ⊢; omega) ?_))
                                        intro v6 w6 hown6 hg6 _
                                        have hbA := HB9.out.alloc HB9.out.size (.cells #[.bool false, .bool true, .string ⟨x.toArray⟩] 163)
                                        have hb6 := hbA.grown hg6 hbA.size (fun k hk => row_own hown9 hk)
                                        have hown7 : w6.ownsRow w.heap.size 163 3 v6 (out ++ [(false, true, x)]).length (flatS (out ++ [(false, true, x)])) := by
                                          rw [List.length_append, flatS_append]; simpa [flatS, segC, sv] using hown6
                                        have HZ := Lib.hid (show SgSt w len blk d.length T w6 (out ++ [(false, true, x)]) rs v6 f from ⟨hb6, hown7, HT3.out, by omega, by rw [List.length_append]; simp only [List.length_singleton]; rw [hln] at hfew; omega⟩)
                                        clear hown9 hown6 hown7 hg6 hbA hb6
                                        go_wp2_with fail
                                        go_roundw
                                        case rel => exact ⟨_, rs, f, rfl, HZ.out⟩
                                        case measure => simp; omega
                                      · have HQN := Lib.hid (show ¬ (true = true → rs = [] ∧ d.length = blk) from fun h => hdb (h rfl).2)
                                        have o2 : (!rs.isEmpty) = false := by rw [hrn]; rfl
                                        have o3 : ((d.length : Int) != (blk : Int)) = true := by simp; omega
                                        have o4 : (d.length != blk) = true := by simp; omega
                                        clear hrn hdb
                                        have HT := Lib.hid (show T = none by rw [HT2.out, if_neg (fun h => HQN.out h.2)]; rfl)
                                        clear HT2
                                        go_wp2_with fail
                                        go_ret2
                                        exact GPost.no HT.out HB9.out
                                    · have HQN := Lib.hid (show ¬ (true = true → rs = [] ∧ d.length = blk) from fun h => hrn (h rfl).1)
                                      have o2 : (!rs.isEmpty) = true := by cases rs <;> simp at hrn ⊢
                                      clear hrn
                                      have HT := Lib.hid (show T = none by rw [HT2.out, if_neg (fun h => HQN.out h.2)]; rfl)
                                      clear HT2
                                      go_wp2_with fail
                                      go_ret2
                                      exact GPost.no HT.out HB9.out
                                · by_cases ho0 : out.length = 0
                                  · obtain rfl : out = [] := List.length_eq_zero_iff.1 ho0
                                    have HPB := Lib.hid (show (true = true → ([] : List Seg).length = 0) from fun _ => rfl)
                                    clear ho0
                                    cases af
                                    · have hqa : (false = true → rs = [] ∧ d.length = blk) := fun h => (by cases h)
                                      have HT3 := Lib.hid (show T = (segP len blk d.length f (([] : List Seg) ++ [(true, false, x)]).length rs).map ((([] : List Seg) ++ [(true, false, x)]) ++ ·) by
                                        rw [HT2.out, if_pos (⟨HPB.out, hqa⟩), List.length_append]
                                        show _ = (segP len blk d.length f (([] : List Seg).length + 1) rs).map _
                                        generalize segP len blk d.length f (([] : List Seg).length + 1) rs = z
                                        cases z <;> simp)
                                      clear HT2
                                      go_wp2_with (at_builtin; (refine wpList_append_own _ rfl _ _ 146 rfl w.heap.size 163 i0 (.agg #[.bool false, .bool false, .string ByteArray.empty]) 3 24 Tryz.underlying146 hi0 hz0 hz1 hz2 rfl (by decide) _ _ _ rfl (hown9.alloc _) _ 1 1 [.bool true, .bool false, .string ⟨x.toArray⟩] rfl rfl (news_at (cs := #[.bool true, .bool false, .string ⟨x.toArray⟩]) (heap_alloc_new _ _)) (by simp [Value.oneCell']) (by unfold maxLen; (try simp) <;> omega) (by (try simp) <;> omega) (by have := HB9.out.size; simp at this ⊢; omega) ?_))
                                      intro v6 w6 hown6 hg6 _
                                      have hbA := HB9.out.alloc HB9.out.size (.cells #[.bool true, .bool false, .string ⟨x.toArray⟩] 163)
                                      have hb6 := hbA.grown hg6 hbA.size (fun k hk => row_own hown9 hk)
                                      have hown7 : w6.ownsRow w.heap.size 163 3 v6 (([] : List Seg) ++ [(true, false, x)]).length (flatS (([] : List Seg) ++ [(true, false, x)])) := by
                                        rw [List.length_append, flatS_append]; simpa [flatS, segC, sv] using hown6
                                      have HZ := Lib.hid (show SgSt w len blk d.length T w6 (([] : List Seg) ++ [(true, false, x)]) rs v6 f from ⟨hb6, hown7, HT3.out, by omega, by rw [List.length_append]; simp only [List.length_singleton]; rw [hln] at hfew; omega⟩)
                                      clear hown9 hown6 hown7 hg6 hbA hb6
                                      go_wp2_with fail
                                      go_roundw
                                      case rel => exact ⟨_, rs, f, rfl, HZ.out⟩
                                      case measure => simp; omega
                                    · by_cases hrn : rs = []
                                      · by_cases hdb : d.length = blk
                                        · have HQA := Lib.hid (show (true = true → rs = [] ∧ d.length = blk) from fun _ => ⟨hrn, hdb⟩)
                                          have o2 : (!rs.isEmpty) = false := by rw [hrn]; rfl
                                          have o3 : ((d.length : Int) != (blk : Int)) = false := by rw [hdb]; simp
                                          have o4 : (d.length != blk) = false := by rw [hdb]; simp
                                          clear hrn hdb
                                          have HT3 := Lib.hid (show T = (segP len blk d.length f (([] : List Seg) ++ [(true, true, x)]).length rs).map ((([] : List Seg) ++ [(true, true, x)]) ++ ·) by
                                            rw [HT2.out, if_pos (⟨HPB.out, HQA.out⟩), List.length_append]
                                            show _ = (segP len blk d.length f (([] : List Seg).length + 1) rs).map _
                                            generalize segP len blk d.length f (([] : List Seg).length + 1) rs = z
                                            cases z <;> simp)
                                          clear HT2
                                          go_wp2_with (at_builtin; (refine wpList_append_own _ rfl _ _ 146 rfl w.heap.size 163 i0 (.agg #[.bool false, .bool false, .string ByteArray.empty]) 3 24 Tryz.underlying146 hi0 hz0 hz1 hz2 rfl (by decide) _ _ _ rfl (hown9.alloc _) _ 1 1 [.bool true, .bool true, .string ⟨x.toArray⟩] rfl rfl (news_at (cs := #[.bool true, .bool true, .string ⟨x.toArray⟩]) (heap_alloc_new _ _)) (by simp [Value.oneCell']) (by unfold maxLen; (try simp) <;> omega) (by (try simp) <;> omega) (by have := HB9.out.size; simp at this ⊢; omega) ?_))
                                          intro v6 w6 hown6 hg6 _
                                          have hbA := HB9.out.alloc HB9.out.size (.cells #[.bool true, .bool true, .string ⟨x.toArray⟩] 163)
                                          have hb6 := hbA.grown hg6 hbA.size (fun k hk => row_own hown9 hk)
                                          have hown7 : w6.ownsRow w.heap.size 163 3 v6 (([] : List Seg) ++ [(true, true, x)]).length (flatS (([] : List Seg) ++ [(true, true, x)])) := by
                                            rw [List.length_append, flatS_append]; simpa [flatS, segC, sv] using hown6
                                          have HZ := Lib.hid (show SgSt w len blk d.length T w6 (([] : List Seg) ++ [(true, true, x)]) rs v6 f from ⟨hb6, hown7, HT3.out, by omega, by rw [List.length_append]; simp only [List.length_singleton]; rw [hln] at hfew; omega⟩)
                                          clear hown9 hown6 hown7 hg6 hbA hb6
                                          go_wp2_with fail
                                          go_roundw
                                          case rel => exact ⟨_, rs, f, rfl, HZ.out⟩
                                          case measure => simp; omega
                                        · have HQN := Lib.hid (show ¬ (true = true → rs = [] ∧ d.length = blk) from fun h => hdb (h rfl).2)
                                          have o2 : (!rs.isEmpty) = false := by rw [hrn]; rfl
                                          have o3 : ((d.length : Int) != (blk : Int)) = true := by simp; omega
                                          have o4 : (d.length != blk) = true := by simp; omega
                                          clear hrn hdb
                                          have HT := Lib.hid (show T = none by rw [HT2.out, if_neg (fun h => HQN.out h.2)]; rfl)
                                          clear HT2
                                          go_wp2_with fail
                                          go_ret2
                                          exact GPost.no HT.out HB9.out
                                      · have HQN := Lib.hid (show ¬ (true = true → rs = [] ∧ d.length = blk) from fun h => hrn (h rfl).1)
                                        have o2 : (!rs.isEmpty) = true := by cases rs <;> simp at hrn ⊢
                                        clear hrn
                                        have HT := Lib.hid (show T = none by rw [HT2.out, if_neg (fun h => HQN.out h.2)]; rfl)
                                        clear HT2
                                        go_wp2_with fail
                                        go_ret2
                                        exact GPost.no HT.out HB9.out
                                  · have o1 : (0 : Int) < (out.length : Int) := by omega
                                    have oe : ¬ out = [] := fun h => ho0 (by rw [h]; rfl)
                                    have HPN := Lib.hid (show ¬ (true = true → out.length = 0) from fun h => ho0 (h rfl))
                                    clear ho0
                                    have HT := Lib.hid (show T = none by rw [HT2.out, if_neg (fun h => HPN.out h.1)]; rfl)
                                    clear HT2
                                    go_wp2_with fail
                                    go_ret2
                                    exact GPost.no HT.out HB9.out
                · rw [if_neg (fun h => he h.1.2.1)] at htot
                  have HT := Lib.hid (show T = none from htot)
                  have e1 : ((e.toNat : Int) == 0) = false := by simp; omega
                  have e2 : ((e.toNat : Int) != 0) = true := by simp; omega
                  clear htot he
                  go_wp2_with fail
                  go_ret2
                  exact GPost.no HT.out HB.out
        · rw [if_neg hR] at hT
          have HT := Lib.hid hT
          clear hT h4 h5
          cases R with
          | none =>
            clear hR
            go_enter Tryz.func116, Tryz.ntmps116
            go_wp2_with fail
            refine (spn_valid _ _ _).mono ?_
            rintro e _ ⟨rfl, rfl⟩
            rw [HV.out]
            go_wp2_with fail
            refine (HW.out _).mono ?_
            rintro x w1 ⟨rfl, hb1⟩
            simp only [rwV]
            go_wp2_with fail
            go_ret2
            exact GPost.no HT.out hb1
          | some n =>
            have hn : ¬ n = d.length := fun h => hR (by rw [h])
            have e1 : ((n : Int) == (d.length : Int)) = false := by simp; omega
            have e2 : ((n : Int) != (d.length : Int)) = true := by simp; omega
            have e3 : (n == d.length) = false := by simp; omega
            clear hR hn
            go_enter Tryz.func116, Tryz.ntmps116
            go_wp2_with fail
            refine (spn_valid _ _ _).mono ?_
            rintro e _ ⟨rfl, rfl⟩
            rw [HV.out]
            go_wp2_with fail
            refine (HW.out _).mono ?_
            rintro x w1 ⟨rfl, hb1⟩
            have HB1 := Lib.hid hb1
            clear hb1
            simp only [rwV]
            go_wp2_with fail
            go_ret2
            exact GPost.no HT.out HB1.out
end

end Go.Proofs.YthkpcalopmddpaaGreatDoor
