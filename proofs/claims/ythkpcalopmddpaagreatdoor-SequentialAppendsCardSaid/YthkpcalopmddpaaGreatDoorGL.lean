/-
  Walks: records of the same length are unpacked from a block. Condition: valid sizes.
  Walks: records with lengths of their own are unpacked from a block. Condition: valid sizes.
  Walks: records with lengths of their own are unpacked from a block. Condition: valid sizes.
  Walks: records with lengths of their own are unpacked from a block: the whole function. Condition: valid sizes.
-/
import Derived.Test.YthkpcalopmddpaaGreatDoorGB
import Derived.Test.YthkpcalopmddpaaGreatDoorGK
import Derived.Test.YthkpcalopmddpaaGreatDoorGI
namespace Go.Proofs.YthkpcalopmddpaaGreatDoor

section
open Go.RowKit Go.Sort
attribute [local go_sem] strOfNums_size

/-- What unpacking gives. -/
structure UPost (w : World) (T : Option (List By)) (e : Ending) (w' : World) : Prop where
  good : ∀ L, T = some L → ∃ v, e = .returned (.tuple #[v, .int .i64 0]) ∧ w'.ownsRow w.heap.size 9 1 v L.length (L.map sv)
  bad : T = none → e = .returned (.tuple #[.slice none 0 0, .int .i64 11])
  bel : Below w.heap.size w w'
theorem UPost.no {w w' : World} {T : Option (List By)} (hT : T = none) (h : Below w.heap.size w w') : UPost w T (.returned (.tuple #[.slice none 0 0, .int .i64 11])) w' :=
  ⟨fun L hL => (by rw [hT] at hL; cases hL), fun _ => rfl, h⟩
theorem UPost.yes {w w' : World} {T : Option (List By)} {L : List By} {v : Value} (hT : T = some L) (ho : w'.ownsRow w.heap.size 9 1 v L.length (L.map sv)) (h : Below w.heap.size w w') : UPost w T (.returned (.tuple #[v, .int .i64 0])) w' :=
  ⟨fun L' hL => (by rw [hT] at hL; obtain rfl := Option.some.inj hL; exact ⟨_, rfl, ho⟩), fun h => (by rw [hT] at h; cases h), h⟩

def chunks (len n : Nat) (d : By) : List By := (List.range n).map fun i => (d.drop (i * len)).take len
theorem chunks_length (len n : Nat) (d : By) : (chunks len n d).length = n := by simp [chunks]
theorem chunks_get (len n : Nat) (d : By) (i : Nat) (h : i < (chunks len n d).length) : (chunks len n d)[i] = (d.drop (i * len)).take len := by simp [chunks]
/-- The records of a block. -/
def fixU (len blk : Nat) (d : By) : Option (List By) :=
  if d.length / len < 1 ∨ blk / len < d.length / len ∨ ¬ d.length % len = 0 then none else some (chunks len (d.length / len) d)

/-- A row of n texts of which the first i are set. -/
def mkS (n i : Nat) (L : List By) : Array Value := ((L.take i).map sv ++ List.replicate (n - i) (sv [])).toArray
theorem mkS_zero (n : Nat) (L : List By) : mkS n 0 L = (List.replicate n (sv [])).toArray := by simp [mkS]
theorem mkS_set (n i : Nat) (L : List By) (hL : L.length = n) (h : i < L.length) : (mkS n i L).setIfInBounds i (sv L[i]) = mkS n (i + 1) L := by
  unfold mkS
  apply Array.ext'
  have h1 : ((L.take i).map sv).length = i := by rw [List.length_map, List.length_take]; omega
  rw [Array.toList_setIfInBounds, List.set_append_right _ _ (by omega), h1, Nat.sub_self]
  obtain ⟨m, hm⟩ : ∃ m, n - i = m + 1 := ⟨n - i - 1, by omega⟩
  rw [hm, List.replicate_succ, List.set_cons_zero, show n - (i + 1) = m by omega, take_snoc' L i h]
  simp only [List.map_append, List.map_cons, List.map_nil, List.append_assoc, List.cons_append, List.nil_append]
theorem mkS_get (n i : Nat) (L : List By) (hL : L.length = n) (h : i < L.length) : (mkS n i L)[i]? = some (sv []) := by
  unfold mkS
  have h1 : ((L.take i).map sv).length = i := by rw [List.length_map, List.length_take]; omega
  rw [List.getElem?_toArray, List.getElem?_append_right (by omega), h1, Nat.sub_self]
  obtain ⟨m, hm⟩ : ∃ m, n - i = m + 1 := ⟨n - i - 1, by omega⟩
  rw [hm]; rfl
theorem mkS_row {w : World} {g n base : Nat} {L : List By} (hL : L.length = n) (hn : n ≤ 1000000) (hb : base ≤ g) (h : w.heap[g]? = some (.cells (mkS n n L) 9 (0, 0))) : w.ownsRow base 9 1 (.slice (some ⟨g, 0, none⟩) n n) L.length (L.map sv) := by
  have e : mkS n n L = (L.map sv).toArray := by unfold mkS; rw [List.take_of_length_le (by omega), Nat.sub_self]; simp
  rw [e] at h
  subst hL
  exact ⟨by simp, Or.inr ⟨g, L.length, _, rfl, hb, h, Nat.le_refl _, by unfold maxLen; omega, by simp, by rw [Nat.mul_one]; exact List.take_of_length_le (by simp)⟩⟩
theorem run_texts (n : Nat) (hn : n ≤ 1000000) (w : World) : (Instr.makeSlice 24 (.int .i64 (n : Int)) (.int .i64 (n : Int))).run Tryz.prog w = .ok (.slice (some ⟨w.heap.size, 0, none⟩) n n) (w.alloc (.cells (mkS n 0 []) 9)) := by
  obtain ⟨i, hi, hz, h1, h2⟩ := info_parts info9
  have hr := run_make (P := Tryz.prog) w 24 9 i (.string ByteArray.empty) Tryz.underlying24 hi hz .i64 .i64 n n (by omega) (by omega) (by rw [h2]; omega) (by omega)
  simp only [Int.toNat_natCast] at hr
  rw [hr, h1, mkS_zero]
  have e : madeCells (Value.string ByteArray.empty).cells (n * 1) = (List.replicate n (sv [])).toArray := by
    apply Array.ext'
    show (madeCells #[Value.string ByteArray.empty] (n * 1)).toList = _
    rw [toList_madeCells_one, Nat.mul_one]
    rfl
  rw [e]
theorem mkS_nil (n : Nat) (L : List By) : mkS n 0 [] = mkS n 0 L := by rw [mkS_zero, mkS_zero]

set_option maxRecDepth 100000 in
set_option maxHeartbeats 2000000 in
theorem funpack_any (d : By) (len blk : Nat) (w : World) (hv : fixV len blk = true) (hd : d.length ≤ 1000000) :
    Calls Tryz.prog 89 #[.int .i64 len, .int .i64 blk, .string ⟨d.toArray⟩] w fun e w' => UPost w (fixU len blk d) e w' := by
  have hbd : 1 ≤ (len : Int) ∧ (len : Int) ≤ 1000 ∧ (len : Int) ≤ blk ∧ (blk : Int) ≤ 1024 := by have h := hv; simp [fixV] at h; omega
  obtain ⟨d1, d2, d3, d4⟩ := hbd
  have HV := Lib.hid hv
  have HM := Lib.hid (fun W => most_any len blk W hv)
  have hF : fixU len blk d = if d.length / len < 1 ∨ blk / len < d.length / len ∨ ¬ d.length % len = 0 then none else some (chunks len (d.length / len) d) := rfl
  obtain ⟨n, hn⟩ : ∃ n, d.length / len = n := ⟨_, rfl⟩
  obtain ⟨k, hk⟩ : ∃ k, d.length % len = k := ⟨_, rfl⟩
  have hq : (d.length : Int) / (len : Int) = (n : Int) := by rw [← hn]; simp
  have hr : (d.length : Int) % (len : Int) = (k : Int) := by rw [← hk]; simp
  have hne : ((len : Int) == 0) = false := by simp; omega
  have hnd : n ≤ d.length := by rw [← hn]; exact Nat.div_le_self _ _
  have hnl : n * len ≤ d.length := by rw [← hn]; exact Nat.div_mul_le_self _ _
  generalize fixU len blk d = T at hF ⊢
  rw [hn, hk] at hF
  have hm2 : blk / len ≤ 1024 := Nat.le_trans (Nat.div_le_self _ _) (by omega)
  generalize blk / len = most at hF HM hm2
  have HNL := Lib.hid hnl
  clear hv hn hk hnl
  by_cases h1 : n < 1
  · rw [if_pos (Or.inl h1)] at hF
    have HF := Lib.hid hF
    have h1I : (n : Int) < 1 := by omega
    clear hF h1
    go_enter Tryz.func89, Tryz.ntmps89
    go_wp2_with fail
    refine (fix_valid _ _ _).mono ?_
    rintro e _ ⟨rfl, rfl⟩
    rw [HV.out]
    go_wp2_with fail
    go_ret2
    exact UPost.no HF.out (Below.refl _ _)
  · have h1I : ¬ (n : Int) < 1 := by omega
    by_cases h2 : most < n
    · rw [if_pos (Or.inr (Or.inl h2))] at hF
      have HF := Lib.hid hF
      have h2I : (most : Int) < (n : Int) := by omega
      clear hF h1 h2
      go_enter Tryz.func89, Tryz.ntmps89
      go_wp2_with fail
      refine (fix_valid _ _ _).mono ?_
      rintro e _ ⟨rfl, rfl⟩
      rw [HV.out]
      go_wp2_with fail
      refine (HM.out _).mono ?_
      rintro e _ ⟨rfl, rfl⟩
      go_wp2_with fail
      go_ret2
      exact UPost.no HF.out (Below.refl _ _)
    · have h2I : ¬ (most : Int) < (n : Int) := by omega
      by_cases h3 : k = 0
      · rw [if_neg (by omega)] at hF
        subst h3
        have hcl := chunks_length len n d
        have hcg := chunks_get len n d
        generalize chunks len n d = L at hF hcl hcg
        have HF := Lib.hid hF
        have HCL := Lib.hid hcl
        have HCG := Lib.hid hcg
        have hmk := run_texts n (by omega)
        clear hF h1 h2 hcl hcg
        go_enter Tryz.func89, Tryz.ntmps89
        go_wp2_with fail
        refine (fix_valid _ _ _).mono ?_
        rintro e _ ⟨rfl, rfl⟩
        rw [HV.out]
        go_wp2_with fail
        refine (HM.out _).mono ?_
        rintro e _ ⟨rfl, rfl⟩
        go_wp2_with fail
        go_loopw [10, 38] (fun _ k wr => ∃ j : Nat, j ≤ n ∧ k = .int .i64 j ∧ Below w.heap.size w wr ∧ wr.heap[w.heap.size]? = some (.cells (mkS n j L) 9 (0, 0))) (fun _ k _ => n - (intOf k).toNat)
        case atStart => exact ⟨0, by omega, rfl, (Below.refl _ _).alloc (Nat.le_refl _) _, by rw [← mkS_nil n L]; exact heap_alloc_new _ _⟩
        case round =>
          obtain ⟨j, hj, rfl, hb, hg⟩ := hrel
          by_cases hlt : j < n
          · have hjl : j < L.length := by rw [HCL.out]; exact hlt
            have c0 : wr.cell? ⟨w.heap.size, j, none⟩ = some (.string ⟨([] : By).toArray⟩) := cell_at hg (mkS_get n j L HCL.out hjl)
            have f0 := free_at hg j
            have hst := mkS_set n j L HCL.out hjl
            have hgj := HCG.out j hjl
            obtain ⟨p, hp⟩ : ∃ p, j * len = p := ⟨_, rfl⟩
            have hq2 : (j + 1) * len ≤ d.length := Nat.le_trans (Nat.mul_le_mul_right _ (by omega)) HNL.out
            have hpq : (j + 1) * len = p + len := by rw [Nat.add_mul, hp, Nat.one_mul]
            obtain ⟨q, hq3⟩ : ∃ q, (j + 1) * len = q := ⟨_, rfl⟩
            rw [hq3] at hq2 hpq
            have mA : (j : Int) * (len : Int) = (p : Int) := by rw [← hp]; simp
            have mB : ((j : Int) + 1) * (len : Int) = (q : Int) := by rw [← hq3]; simp
            have hx : (ByteArray.mk d.toArray).extract p q = ⟨(L[j]).toArray⟩ := by
              apply ByteArray.ext
              rw [ByteArray.data_extract, hgj, hp]
              apply Array.ext'
              simp only [Array.toList_extract, List.extract_eq_take_drop]
              rw [hpq, Nat.add_sub_cancel_left]
            generalize L[j] = x at hst hx
            have q1 : p ≤ q := by omega
            have HST := Lib.hid hst
            have HB := Lib.hid hb
            have HG := Lib.hid hg
            have hgl := lt_of_block hg
            clear hb hg hst hgj hp hq3 hpq
            go_wp2_with fail
            go_roundw
            case rel => exact ⟨j + 1, by omega, by go_num, HB.out.setCell (p := ⟨w.heap.size, j, none⟩) (Nat.le_refl _) _, by rw [← HST.out]; exact cell_row_any _ _ _ _ _ _ _ HG.out⟩
            case measure => simp [intOf]; omega
          · obtain rfl : j = n := by omega
            have HO := Lib.hid (mkS_row HCL.out (by omega) (Nat.le_refl _) hg)
            have HB := Lib.hid hb
            clear hb hg
            go_wp2_with fail
            go_ret2
            exact UPost.yes HF.out HO.out HB.out
      · rw [if_pos (Or.inr (Or.inr h3))] at hF
        have HF := Lib.hid hF
        have e3 : ((k : Int) == 0) = false := by simp; omega
        have e4 : ((k : Int) != 0) = true := by simp; omega
        clear hF h1 h2 h3
        go_enter Tryz.func89, Tryz.ntmps89
        go_wp2_with fail
        refine (fix_valid _ _ _).mono ?_
        rintro e _ ⟨rfl, rfl⟩
        rw [HV.out]
        go_wp2_with fail
        refine (HM.out _).mono ?_
        rintro e _ ⟨rfl, rfl⟩
        go_wp2_with fail
        go_ret2
        exact UPost.no HF.out (Below.refl _ _)
end

section
open Go.RowKit Go.Sort
attribute [local go_sem] strOfNums_size ext_drop ext_take

/-- A word of four bytes. -/
def rw4 (a b c e : UInt8) : Option Nat := if c.toNat = 0 ∧ e.toNat = 0 then some (256 * a.toNat + b.toNat) else none
def rwV (o : Option Nat) : Value := match o with
  | some n => .tuple #[.int .i64 n, .bool true]
  | none => .tuple #[.int .i64 0, .bool false]

set_option maxRecDepth 100000 in
set_option maxHeartbeats 1000000 in
theorem readword_any (a b c e : UInt8) (w : World) :
    Calls Tryz.prog 111 #[.string ⟨([a, b, c, e] : By).toArray⟩] w fun x w' => x = .returned (rwV (rw4 a b c e)) ∧ Below w.heap.size w w' := by
  have ha := a.toNat_lt
  have hb := b.toNat_lt
  have x0 : ∀ h, (ByteArray.mk ([a, b, c, e] : By).toArray)[0]'h = a := fun _ => rfl
  have x1 : ∀ h, (ByteArray.mk ([a, b, c, e] : By).toArray)[1]'h = b := fun _ => rfl
  have x2 : ∀ h, (ByteArray.mk ([a, b, c, e] : By).toArray)[2]'h = c := fun _ => rfl
  have x3 : ∀ h, (ByteArray.mk ([a, b, c, e] : By).toArray)[3]'h = e := fun _ => rfl
  have hl : ([a, b, c, e] : By).length = 4 := rfl
  have hor := or_be a b
  have m1 : IntKind.i64.wrap (a.toNat : Int) = (a.toNat : Int) := IntWalk.i64_in _ (by omega)
  have m2 : IntKind.i64.wrap (b.toNat : Int) = (b.toNat : Int) := IntWalk.i64_in _ (by omega)
  have m3 : IntKind.i64.wrap ((a.toNat : Int) * 256) = (a.toNat : Int) * 256 := IntWalk.i64_in _ (by omega)
  have hR : rw4 a b c e = if c.toNat = 0 ∧ e.toNat = 0 then some (256 * a.toNat + b.toNat) else none := rfl
  generalize 256 * a.toNat + b.toNat = n at hor hR
  generalize rw4 a b c e = R at hR ⊢
  generalize ([a, b, c, e] : By) = s at *
  by_cases hc : c.toNat = 0
  · have e1 : ((c.toNat : Int) == 0) = true := by rw [hc]; rfl
    have e2 : ((c.toNat : Int) != 0) = false := by rw [hc]; rfl
    by_cases he : e.toNat = 0
    · have e3 : ((e.toNat : Int) == 0) = true := by rw [he]; rfl
      have e4 : ((e.toNat : Int) != 0) = false := by rw [he]; rfl
      rw [if_pos ⟨hc, he⟩] at hR
      have HR := Lib.hid hR
      clear hR hc he
      go_enter Tryz.func111, Tryz.ntmps111
      go_wp2_with fail
      go_region
      all_goals
        go_wp2_with fail
        go_ret2
        exact ⟨by rw [HR.out]; rfl, below_drewN (Below.refl _ _) 1⟩
    · have e3 : ((e.toNat : Int) == 0) = false := by simp; omega
      have e4 : ((e.toNat : Int) != 0) = true := by simp; omega
      rw [if_neg (fun h => he h.2)] at hR
      have HR := Lib.hid hR
      clear hR hc he
      go_enter Tryz.func111, Tryz.ntmps111
      go_wp2_with fail
      go_ret2
      exact ⟨by rw [HR.out]; rfl, Below.refl _ _⟩
  · have e1 : ((c.toNat : Int) == 0) = false := by simp; omega
    have e2 : ((c.toNat : Int) != 0) = true := by simp; omega
    rw [if_neg (fun h => hc h.1)] at hR
    have HR := Lib.hid hR
    clear hR hc
    go_enter Tryz.func111, Tryz.ntmps111
    go_wp2_with fail
    go_ret2
    exact ⟨by rw [HR.out]; rfl, Below.refl _ _⟩

/-- The first record of forms, and what is behind it. -/
def firstV (len : Nat) (s : By) : Option (By × By) :=
  match s with
  | a :: b :: c :: e :: r => match rw4 a b c e with
    | none => none
    | some n => if n < 4 ∨ r.length + 4 < n ∨ len < n - 4 then none else some (r.take (n - 4), r.drop (n - 4))
  | _ => none
def fstV (o : Option (By × By)) : Value := match o with
  | some x => .tuple #[.string ⟨x.1.toArray⟩, .string ⟨x.2.toArray⟩, .bool true]
  | none => .tuple #[.string ⟨([] : By).toArray⟩, .string ⟨([] : By).toArray⟩, .bool false]
theorem bodyPost_ret3 {fn : Func} {R : Ending → World → Prop} {a : Act} {w : World} {p0 p1 p2 : Tmp} {v0 v1 v2 : Value} (hr : fn.results = #[.tmp p0, .tmp p1, .tmp p2]) (h0 : a.tmps.getD p0 undef = v0) (h1 : a.tmps.getD p1 undef = v1) (h2 : a.tmps.getD p2 undef = v2)
    (hd : a.defers = []) (hR : R (.returned (.tuple #[v0, v1, v2])) w) : bodyPost Tryz.prog fn R .ret a w := by
  subst h0 h1 h2
  exact bodyPost_ret (by simp [results, hr, go_sem]) hd hR

set_option maxRecDepth 100000 in
set_option maxHeartbeats 2000000 in
theorem first_any (len : Nat) (s : By) (w : World) (hs : s.length ≤ 1000000) :
    Calls Tryz.prog 113 #[.int .i64 len, .string ⟨s.toArray⟩] w fun x w' => x = .returned (fstV (firstV len s)) ∧ Below w.heap.size w w' := by
  by_cases h4 : s.length < 4
  · have HF := Lib.hid (show firstV len s = none from by
      match s, h4 with
      | [], _ => rfl
      | [_], _ => rfl
      | [_, _], _ => rfl
      | [_, _, _], _ => rfl
      | _ :: _ :: _ :: _ :: _, h => simp at h; omega)
    have h4I : (s.length : Int) < 4 := by omega
    clear h4
    go_enter Tryz.func113, Tryz.ntmps113
    go_wp2_with fail
    refine bodyPost_ret3 rfl rfl rfl rfl rfl ?_
    rw [HF.out]
    exact ⟨rfl, Below.refl _ _⟩
  · have h4I : ¬ (s.length : Int) < 4 := by omega
    match s, h4 with
    | [], h => exact absurd (by simp) h
    | [_], h => exact absurd (by simp) h
    | [_, _], h => exact absurd (by simp) h
    | [_, _, _], h => exact absurd (by simp) h
    | a :: b :: c :: e :: r, _ =>
      have hF : firstV len (a :: b :: c :: e :: r) = match rw4 a b c e with
        | none => none
        | some n => if n < 4 ∨ r.length + 4 < n ∨ len < n - 4 then none else some (r.take (n - 4), r.drop (n - 4)) := rfl
      have HW := Lib.hid (fun W => readword_any a b c e W)
      have htk : (a :: b :: c :: e :: r).take 4 = [a, b, c, e] := rfl
      have hln : (a :: b :: c :: e :: r).length = r.length + 4 := rfl
      have hxt : ∀ n, 4 ≤ n → n ≤ r.length + 4 → (ByteArray.mk (a :: b :: c :: e :: r).toArray).extract 4 n = ⟨(r.take (n - 4)).toArray⟩ := fun n h1 h2 => by
        apply ByteArray.ext
        rw [ByteArray.data_extract]
        apply Array.ext'
        simp
      have hxd : ∀ n, 4 ≤ n → (ByteArray.mk (a :: b :: c :: e :: r).toArray).extract n (r.length + 4) = ⟨(r.drop (n - 4)).toArray⟩ := fun n h1 => by
        have h := ext_drop (a :: b :: c :: e :: r) n
        obtain ⟨m, rfl⟩ : ∃ m, n = m + 4 := ⟨n - 4, by omega⟩
        rw [hln, show (a :: b :: c :: e :: r).drop (m + 4) = r.drop m from rfl] at h
        rw [show m + 4 - 4 = m by omega]
        exact h
      have HXT := Lib.hid hxt
      have HXD := Lib.hid hxd
      clear hxt hxd
      have hrn : ∀ n, rw4 a b c e = some n → n ≤ 65535 := fun n hn => by
        have ha := a.toNat_lt
        have hb := b.toNat_lt
        unfold rw4 at hn; split at hn
        · have := Option.some.inj hn; omega
        · cases hn
      generalize firstV len (a :: b :: c :: e :: r) = F at hF ⊢
      generalize rw4 a b c e = R at hF HW hrn
      generalize [a, b, c, e] = q at htk HW
      generalize a :: b :: c :: e :: r = s at *
      cases R with
      | none =>
        have HF := Lib.hid (show F = none from hF)
        clear hF hrn
        go_enter Tryz.func113, Tryz.ntmps113
        go_wp2_with fail
        refine (HW.out _).mono ?_
        rintro x w1 ⟨rfl, hb1⟩
        have HB1 := Lib.hid hb1
        clear hb1
        simp only [rwV]
        go_wp2_with fail
        refine bodyPost_ret3 rfl rfl rfl rfl rfl ?_
        rw [HF.out]
        exact ⟨rfl, HB1.out⟩
      | some n =>
        have hn := hrn n rfl
        simp only at hF
        clear hrn
        by_cases h1 : n < 4
        · rw [if_pos (Or.inl h1)] at hF
          have HF := Lib.hid hF
          have h1I : (n : Int) < 4 := by omega
          clear hF
          go_enter Tryz.func113, Tryz.ntmps113
          go_wp2_with fail
          refine (HW.out _).mono ?_
          rintro x w1 ⟨rfl, hb1⟩
          have HB1 := Lib.hid hb1
          clear hb1
          simp only [rwV]
          go_wp2_with fail
          refine bodyPost_ret3 rfl rfl rfl rfl rfl ?_
          rw [HF.out]
          exact ⟨rfl, HB1.out⟩
        · have h1I : ¬ (n : Int) < 4 := by omega
          by_cases h2 : r.length + 4 < n
          · rw [if_pos (Or.inr (Or.inl h2))] at hF
            have HF := Lib.hid hF
            have h2I : (r.length : Int) + 4 < (n : Int) := by omega
            clear hF
            go_enter Tryz.func113, Tryz.ntmps113
            go_wp2_with fail
            refine (HW.out _).mono ?_
            rintro x w1 ⟨rfl, hb1⟩
            have HB1 := Lib.hid hb1
            clear hb1
            simp only [rwV]
            go_wp2_with fail
            refine bodyPost_ret3 rfl rfl rfl rfl rfl ?_
            rw [HF.out]
            exact ⟨rfl, HB1.out⟩
          · have h2I : ¬ (r.length : Int) + 4 < (n : Int) := by omega
            by_cases h3 : len < n - 4
            · rw [if_pos (Or.inr (Or.inr h3))] at hF
              have HF := Lib.hid hF
              have h3I : (len : Int) < (n : Int) - 4 := by omega
              clear hF
              go_enter Tryz.func113, Tryz.ntmps113
              go_wp2_with fail
              refine (HW.out _).mono ?_
              rintro x w1 ⟨rfl, hb1⟩
              have HB1 := Lib.hid hb1
              clear hb1
              simp only [rwV]
              go_wp2_with fail
              refine bodyPost_ret3 rfl rfl rfl rfl rfl ?_
              rw [HF.out]
              exact ⟨rfl, HB1.out⟩
            · have h3I : ¬ (len : Int) < (n : Int) - 4 := by omega
              rw [if_neg (by omega)] at hF
              have HF := Lib.hid hF
              have hx1 := HXT.out n (by omega) (by omega)
              have hx2 := HXD.out n (by omega)
              clear hF
              go_enter Tryz.func113, Tryz.ntmps113
              go_wp2_with fail
              refine (HW.out _).mono ?_
              rintro x w1 ⟨rfl, hb1⟩
              have HB1 := Lib.hid hb1
              clear hb1
              simp only [rwV]
              go_wp2_with fail
              go_region
              all_goals
                go_wp2_with fail
                refine bodyPost_ret3 rfl rfl rfl rfl rfl ?_
                rw [HF.out]
                exact ⟨rfl, below_drewN HB1.out 1⟩
end

section
open Go.RowKit Go.Sort
attribute [local go_sem] strOfNums_size ext_drop ext_take

/-- The records of forms. -/
def varP (len : Nat) : Nat → By → Option (List By)
  | _, [] => some []
  | 0, _ :: _ => none
  | f + 1, b :: s => match firstV len (b :: s) with
    | none => none
    | some x => (varP len f x.2).map (x.1 :: ·)
def varU2 (len : Nat) (d : By) : Option (List By) :=
  match d with
  | a :: b :: c :: e :: r => if rw4 a b c e = some (r.length + 4) then varP len r.length r else none
  | _ => none
/-- The records of a block. -/
def varU (len blk : Nat) (d : By) : Option (List By) := if d.length ≤ 4 ∨ blk < d.length then none else varU2 len d

/-- What the closure of Unpack works on. -/
structure VnSt (B0 lc oc len : Nat) (W0 W : World) (out : List By) (v : Value) : Prop where
  bel : Below B0 W0 W
  lcell : W.heap[lc]? = some (.cells #[.int .i64 len] 3 (0, 0))
  ocell : W.heap[oc]? = some (.cells #[v] 24 (0, 0))
  own : W.ownsRow (oc + 1) 9 1 v out.length (out.map sv)
  h1 : B0 ≤ lc
  h2 : lc < oc
/-- The record that the closure notes. -/
def noted (o : Option (By × By)) : By := match o with
  | some x => x.1
  | none => []
def nextV (o : Option (By × By)) : Value := match o with
  | some x => .tuple #[.string ⟨x.2.toArray⟩, .bool true]
  | none => .tuple #[.string ⟨([] : By).toArray⟩, .bool false]

set_option maxRecDepth 100000 in
set_option maxHeartbeats 2000000 in
theorem vnext_any (B0 lc oc len : Nat) (W0 w : World) (out : List By) (v : Value) (s : By) (h : VnSt B0 lc oc len W0 w out v) (hs : s.length ≤ 1000000) (ho : out.length ≤ 1000000) :
    Calls Tryz.prog 112 #[.string ⟨s.toArray⟩, .pointer (some ⟨lc, 0, none⟩), .pointer (some ⟨oc, 0, none⟩)] w fun x w' => ∃ v', x = .returned (nextV (firstV len s)) ∧ VnSt B0 lc oc len W0 w' (out ++ [noted (firstV len s)]) v' := by
  obtain ⟨i0, hi0, hz0, hz1, hz2⟩ := info_parts info9
  have HF := Lib.hid (fun W => first_any len s W hs)
  obtain ⟨x, y, k, hF⟩ : ∃ (x y : By) (k : Bool), fstV (firstV len s) = .tuple #[.string ⟨x.toArray⟩, .string ⟨y.toArray⟩, .bool k] ∧ nextV (firstV len s) = .tuple #[.string ⟨y.toArray⟩, .bool k] ∧ noted (firstV len s) = x := by
    cases firstV len s with
    | none => exact ⟨[], [], false, rfl, rfl, rfl⟩
    | some z => exact ⟨z.1, z.2, true, rfl, rfl, rfl⟩
  rw [hF.1] at HF
  rw [hF.2.1, hF.2.2]
  clear hF
  have c1 := cell_at (i := 0) h.lcell rfl
  have HH := Lib.hid h
  clear h
  go_enter Tryz.func112, Tryz.ntmps112
  go_wp2_with fail
  refine (HF.out _).mono ?_
  rintro e w1 ⟨rfl, hb1⟩
  have hH := HH.out
  have hl1 := heap_below hb1 (lt_of_block hH.lcell) hH.lcell
  have ho1 := heap_below hb1 (lt_of_block hH.ocell) hH.ocell
  have hown1 := own_below hH.own hb1
  have hB0 : B0 ≤ w.heap.size := by have := hH.h1; have := lt_of_block hH.lcell; omega
  have hbel1 := hH.bel.trans (hb1.mono hB0)
  have hB1 : B0 ≤ w1.heap.size := Nat.le_trans hB0 hb1.size
  have c2 := cell_at (i := 0) ho1 rfl
  have HL := Lib.hid hl1
  have HOC := Lib.hid ho1
  have HB1 := Lib.hid hbel1
  have holt := lt_of_block ho1
  have hh12 := hH.h2
  have hh1 := hH.h1
  clear hl1 ho1 hbel1 hb1 c1 hH
  go_wp2_with (at_builtin; go_must (refine wpList_append_own _ rfl _ _ 24 rfl (oc + 1) 9 i0 (.string ByteArray.empty) 1 16 Tryz.underlying24 hi0 hz0 hz1 hz2 rfl (by decide) _ _ _ rfl (hown1.alloc _) _ 1 1 [.string ⟨x.toArray⟩] rfl rfl ?e11 ?e21 ?e31 ?e41 ?e51 ?_))
  case e11 => exact news_at (cs := #[.string ⟨x.toArray⟩]) (heap_alloc_new _ _)
  case e21 => simp [Value.oneCell']
  case e31 => unfold maxLen; (try simp); omega
  case e41 => (try simp); omega
  case e51 => simp; omega
  intro v6 w6 hown6 hg6 _
  have hA1 : (w1.alloc (.cells #[.string ⟨x.toArray⟩] 9)).heap.size = w1.heap.size + 1 := by simp
  have hl6 : w6.heap[lc]? = some (.cells #[.int .i64 len] 3 (0, 0)) := (hg6.block lc (by rw [hA1]; omega) (fun e => by have := row_own hown1 e.symm; omega)).trans ((halloc _ _ (by omega)).trans HL.out)
  have ho6 : w6.heap[oc]? = some (.cells #[v] 24 (0, 0)) := (hg6.block oc (by rw [hA1]; omega) (fun e => by have := row_own hown1 e.symm; omega)).trans ((halloc _ _ holt).trans HOC.out)
  have hb6 : Below B0 W0 w6 := (HB1.out.alloc hB1 _).grown hg6 (by rw [hA1]; omega) (fun k hk => by have := row_own hown1 hk; omega)
  have c6 := cell_at (i := 0) ho6 rfl
  have f6 := free_at ho6 0
  have hown7 : w6.ownsRow (oc + 1) 9 1 v6 (out ++ [x]).length ((out ++ [x]).map sv) := by simpa [sv] using hown6
  obtain ⟨va, vc, rfl, _, _⟩ := newsAt_of_row hown7
  have HZ := Lib.hid (show VnSt B0 lc oc len W0 (w6.setCell ⟨oc, 0, none⟩ (.slice va (out ++ [x]).length vc)) (out ++ [x]) (.slice va (out ++ [x]).length vc) from
    ⟨hb6.setCell (p := ⟨oc, 0, none⟩) (by simp; omega) _, (Below.heap_setCell _ _ _ _ (by simp; omega)).trans hl6, cell_row_any _ _ _ _ _ _ _ ho6,
     own_only hown7 ((Only.refl [oc] w6).setCell (p := ⟨oc, 0, none⟩) (Or.inl (by simp)) (.slice va (out ++ [x]).length vc)) (fun k hk => by have := row_own hown7 hk; simp; omega), hh1, hh12⟩)
  clear hown1 hown6 hown7 hg6 hl6 ho6 hb6 hA1
  have hlen : (out ++ [x]).length = out.length + 1 := by simp
  rw [hlen] at HZ
  clear hlen
  go_wp2_with fail
  go_ret2
  exact ⟨_, rfl, HZ.out⟩
end

section
open Go.RowKit Go.Sort
attribute [local go_sem] strOfNums_size ext_drop ext_take

theorem firstV_len {len : Nat} {s : By} {x : By × By} (h : firstV len s = some x) : x.2.length + 4 ≤ s.length := by
  match s, h with
  | a :: b :: c :: e :: r, h =>
    simp only [firstV] at h
    split at h
    · cases h
    · split at h
      · cases h
      · obtain rfl := Option.some.inj h
        simp only [List.length_drop, List.length_cons]; omega
theorem VnSt.B {B0 lc oc len : Nat} {W0 W : World} {out : List By} {v : Value} (h : VnSt B0 lc oc len W0 W out v) : B0 ≤ W.heap.size := by
  have := h.h1; have := lt_of_block h.lcell; omega

set_option maxRecDepth 100000 in
set_option maxHeartbeats 4000000 in
theorem vunpack_any (d : By) (len blk : Nat) (w : World) (hv : varV len blk = true) (hd : d.length ≤ 900000) :
    Calls Tryz.prog 93 #[.int .i64 len, .int .i64 blk, .string ⟨d.toArray⟩] w fun e w' => UPost w (varU len blk d) e w' := by
  have HV := Lib.hid hv
  have HB0 := Lib.hid (box_below w #[.int .i64 len] 3)
  have HL0 := Lib.hid (heap_alloc_new w (.cells #[.int .i64 len] 3))
  clear hv
  by_cases h4 : d.length ≤ 4
  · have HT := Lib.hid (show varU len blk d = none by unfold varU; rw [if_pos (Or.inl h4)])
    have h4I : (d.length : Int) ≤ 4 := by omega
    clear h4
    go_enter Tryz.func93, Tryz.ntmps93
    go_wp2_with fail
    refine (var_valid _ _ _).mono ?_
    rintro e _ ⟨rfl, rfl⟩
    rw [HV.out]
    go_wp2_with fail
    go_ret2
    exact UPost.no HT.out HB0.out
  · have h4I : ¬ (d.length : Int) ≤ 4 := by omega
    by_cases h5 : blk < d.length
    · have HT := Lib.hid (show varU len blk d = none by unfold varU; rw [if_pos (Or.inr h5)])
      have h5I : (blk : Int) < (d.length : Int) := by omega
      clear h4 h5
      go_enter Tryz.func93, Tryz.ntmps93
      go_wp2_with fail
      refine (var_valid _ _ _).mono ?_
      rintro e _ ⟨rfl, rfl⟩
      rw [HV.out]
      go_wp2_with fail
      go_ret2
      exact UPost.no HT.out HB0.out
    · have h5I : ¬ (blk : Int) < (d.length : Int) := by omega
      have hT : varU len blk d = varU2 len d := by unfold varU; rw [if_neg (by omega)]
      generalize varU len blk d = T at hT ⊢
      match d, h4 with
      | [], h => exact absurd (by simp) h
      | [_], h => exact absurd (by simp) h
      | [_, _], h => exact absurd (by simp) h
      | [_, _, _], h => exact absurd (by simp) h
      | a :: b :: c :: e :: r, h4 =>
        have hT : T = if rw4 a b c e = some (a :: b :: c :: e :: r).length then varP len r.length r else none := hT
        have HW := Lib.hid (fun W => readword_any a b c e W)
        have htk : (a :: b :: c :: e :: r).take 4 = [a, b, c, e] := rfl
        have hdr : (a :: b :: c :: e :: r).drop 4 = r := rfl
        have hrl : r.length ≤ 900000 := by simp only [List.length_cons] at hd; omega
        generalize rw4 a b c e = R at hT HW
        generalize [a, b, c, e] = q at htk HW
        generalize a :: b :: c :: e :: r = d at *
        by_cases hR : R = some d.length
        · rw [if_pos hR] at hT
          subst hR
          have HT := Lib.hid hT
          have hdl : ((d.length : Int) == (d.length : Int)) = true := by simp
          have hdl2 : ((d.length : Int) != (d.length : Int)) = false := by simp
          clear hT h4 h5
          go_enter Tryz.func93, Tryz.ntmps93
          go_wp2_with fail
          refine (var_valid _ _ _).mono ?_
          rintro e _ ⟨rfl, rfl⟩
          rw [HV.out]
          go_wp2_with fail
          refine (HW.out _).mono ?_
          rintro x w1 ⟨rfl, hb1⟩
          have hmf : ∀ (fn : Fn) (first cap : Array Value) (w : World), (Instr.makeFunc fn first cap).run Tryz.prog w = .ok (.func fn first cap) w := fun _ _ _ _ => rfl
          have hl1 := heap_below hb1 (lt_of_block HL0.out) HL0.out
          have hlt := lt_of_block hl1
          have HS := Lib.hid (show VnSt w.heap.size w.heap.size w1.heap.size len w (w1.alloc (.cells #[.slice none 0 0] 24)) [] (.slice none 0 0) from
            ⟨(HB0.out.trans (hb1.mono HB0.out.size)).alloc (by omega) _, (halloc _ _ hlt).trans hl1, heap_alloc_new _ _, own_nil _ _ _ _, Nat.le_refl _, hlt⟩)
          clear hb1 hl1
          simp only [rwV]
          go_wp2_with fail
          go_loopw [12, 13] (fun x k wr => ∃ out rem f v b, x = .string ⟨rem.toArray⟩ ∧ k = .bool b ∧ VnSt w.heap.size w.heap.size w1.heap.size len w wr out v ∧ T = (varP len f rem).map (out ++ ·) ∧ rem.length ≤ f ∧ out.length + rem.length ≤ 950000) (fun x _ _ => match x with | .string b => b.data.size | _ => 0)
          case atStart => exact ⟨[], r, r.length, _, true, rfl, rfl, HS.out, by rw [HT.out]; cases varP len r.length r <;> rfl, Nat.le_refl _, by simp; omega⟩
          case round =>
            clear HS HT
            obtain ⟨out, rem, f, v, bk, rfl, rfl, hS, hT, hf, hfw⟩ := hrel
            have HSS := Lib.hid hS
            match rem, f, hf with
            | [], f, _ =>
              have HT := Lib.hid (show T = some out by rw [hT]; cases f <;> simp [varP])
              have c0 := cell_at (i := 0) hS.ocell rfl
              have HO := Lib.hid (own_mono hS.own (show w.heap.size ≤ w1.heap.size + 1 by omega))
              clear hS hT
              go_wp2_with fail
              go_ret2
              exact UPost.yes HT.out HO.out HSS.out.bel
            | b :: s, f + 1, hf =>
              have hC := vnext_any w.heap.size w.heap.size w1.heap.size len w wr out v (b :: s) hS (by simp only [List.length_cons] at hfw ⊢; omega) (by omega)
              have hie : (!(b :: s).isEmpty) = true := rfl
              have hne : b :: s ≠ [] := by simp
              have hlf := fun x (h : firstV len (b :: s) = some x) => firstV_len h
              have hT : T = (match firstV len (b :: s) with
                | none => none
                | some x => (varP len f x.2).map (x.1 :: ·)).map (out ++ ·) := hT
              clear hS
              generalize firstV len (b :: s) = F at hT hC hlf
              generalize b :: s = rem at *
              cases F with
              | none =>
                have HT := Lib.hid (show T = none from hT)
                have HC := Lib.hid hC
                clear hT hC hlf
                go_wp2_with fail
                refine HC.out.mono ?_
                rintro x w2 ⟨v2, rfl, hS2⟩
                have HB2 := Lib.hid hS2.bel
                clear hS2
                simp only [nextV]
                go_wp2_with fail
                go_ret2
                exact UPost.no HT.out HB2.out
              | some x =>
                have hxl := hlf x rfl
                have HT := Lib.hid (show T = (varP len f x.2).map ((out ++ [x.1]) ++ ·) by rw [show T = ((varP len f x.2).map (x.1 :: ·)).map (out ++ ·) from hT]; generalize varP len f x.2 = z; cases z <;> simp)
                have HC := Lib.hid hC
                clear hT hC hlf
                go_wp2_with fail
                refine HC.out.mono ?_
                rintro y w2 ⟨v2, rfl, hS2⟩
                have HS2 := Lib.hid hS2
                clear hS2
                simp only [nextV]
                go_wp2_with fail
                go_roundw
                case rel => exact ⟨out ++ [x.1], x.2, f, v2, true, rfl, rfl, HS2.out, HT.out, by omega, by simp; omega⟩
                case measure => simp; omega
        · rw [if_neg hR] at hT
          have HT := Lib.hid hT
          clear hT h4 h5
          cases R with
          | none =>
            clear hR
            go_enter Tryz.func93, Tryz.ntmps93
            go_wp2_with fail
            refine (var_valid _ _ _).mono ?_
            rintro e _ ⟨rfl, rfl⟩
            rw [HV.out]
            go_wp2_with fail
            refine (HW.out _).mono ?_
            rintro x w1 ⟨rfl, hb1⟩
            have HB1 := Lib.hid (HB0.out.trans (hb1.mono HB0.out.size))
            clear hb1
            simp only [rwV]
            go_wp2_with fail
            go_ret2
            exact UPost.no HT.out HB1.out
          | some n =>
            have hn : ¬ n = d.length := fun h => hR (by rw [h])
            have e1 : ((n : Int) == (d.length : Int)) = false := by simp; omega
            have e2 : ((n : Int) != (d.length : Int)) = true := by simp; omega
            have e3 : (n == d.length) = false := by simp; omega
            clear hR hn
            go_enter Tryz.func93, Tryz.ntmps93
            go_wp2_with fail
            refine (var_valid _ _ _).mono ?_
            rintro e _ ⟨rfl, rfl⟩
            rw [HV.out]
            go_wp2_with fail
            refine (HW.out _).mono ?_
            rintro x w1 ⟨rfl, hb1⟩
            have HB1 := Lib.hid (HB0.out.trans (hb1.mono HB0.out.size))
            clear hb1
            simp only [rwV]
            go_wp2_with fail
            go_ret2
            exact UPost.no HT.out HB1.out
end

end Go.Proofs.YthkpcalopmddpaaGreatDoor
