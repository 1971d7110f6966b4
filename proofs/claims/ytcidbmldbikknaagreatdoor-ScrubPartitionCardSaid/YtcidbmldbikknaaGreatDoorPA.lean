/-
  Plain: runs that are their own clipped forms; sets of tracks. No condition.
  Walk: how many slots a table has. Conditions: none.
  Walk: a valid name. Conditions: a short name.
  Walks: the first two conditions of a valid label (closures). Conditions: the captured variables in memory.
  Walk: the table's size (a closure of a valid label). Conditions: the captured variable in memory.
  Walks: the third and fourth condition of a valid label (closures). Conditions: the captured variables in memory.
  Walk: two rows of runs compared. Conditions: both in memory.
  Walks: whether some run lies outside of a range; the last condition of a valid label. Conditions: runs in memory as a slice; numbers of 64 bits.
-/
import Derived.Test.YtcidbmldbikknaaGreatDoorE9
import Derived.Test.YtcidbmldbikknaaGreatDoorE2
import Derived.Test.YtcidbmldbikknaaGreatDoorE6
namespace Go.Proofs.YtcidbmldbikknaaGreatDoor

section
open Go.RowKit Go.Sort

/-- A run that is its own clipped form. -/
def GoodRn (r : Rn) : Prop := 0 ≤ r.1 ∧ 1 ≤ r.2 ∧ r.1 + r.2 ≤ 128
theorem clip_good (r : Rn) (h : GoodRn r) : clipP r = (r.1.toNat, r.2.toNat) := by
  obtain ⟨a, b⟩ := r
  obtain ⟨h1, h2, h3⟩ := h
  simp only at h1 h2 h3
  unfold clipP hiP loP
  simp only
  rw [if_neg (by split <;> omega)]
  split
  · congr 1 <;> omega
  · congr 1 <;> omega
theorem mem_seq (t : Nat) : ∀ l : List Rn, t ∈ seqP l ↔ ∃ r ∈ l, (clipP r).1 ≤ t ∧ t < (clipP r).1 + (clipP r).2
  | [] => by simp [seqP]
  | r :: l => by
    rw [seqP, List.mem_append, List.mem_range'_1, mem_seq t l]
    simp
theorem idx_isSome (t : Nat) : ∀ (l : List Rn) (n : Nat), (idxP l n (t : Int)).isSome = decide (t ∈ seqP l)
  | [], n => by simp [idxP, seqP]
  | r :: l, n => by
    rw [idxP, seqP]
    split
    · rename_i h
      have : t ∈ List.range' (clipP r).1 (clipP r).2 := List.mem_range'_1.2 ⟨by omega, by omega⟩
      simp [this]
    · rename_i h
      have : t ∉ List.range' (clipP r).1 (clipP r).2 := fun hm => by
        have := List.mem_range'_1.1 hm
        exact h ⟨by omega, by omega⟩
      rw [idx_isSome t l]
      simp [this]
theorem idx_none (t : Nat) (l : List Rn) (n : Nat) (h : t ∉ seqP l) : idxP l n (t : Int) = none := by
  have := idx_isSome t l n
  rw [decide_eq_false h] at this
  simpa using this
theorem idx_at (t : Nat) : ∀ (l : List Rn) (n k : Nat), (seqP l).Nodup → (seqP l)[k]? = some t → idxP l n (t : Int) = some (n + k)
  | [], n, k, _, h => by simp [seqP] at h
  | r :: l, n, k, hn, h => by
    rw [seqP] at hn h
    obtain ⟨_, h2, h3⟩ := List.nodup_append.1 hn
    rw [idxP]
    by_cases hk : k < (clipP r).2
    · rw [List.getElem?_append_left (by simpa using hk)] at h
      obtain ⟨_, e⟩ := List.getElem?_eq_some_iff.1 h
      simp at e
      rw [if_pos (by omega)]
      congr 1; omega
    · rw [List.getElem?_append_right (by simpa using hk)] at h
      simp only [List.length_range'] at h
      have hm : t ∈ seqP l := List.mem_of_getElem? h
      rw [if_neg (fun hc => h3 t (List.mem_range'_1.2 ⟨by omega, by omega⟩) t hm rfl), idx_at t l _ _ h2 h]
      congr 1; omega
theorem filter_or_len (p : Nat → Bool) (a : Nat) (hp : p a = false) : ∀ n, a < n → ((List.range n).filter (fun i => decide (i = a) || p i)).length = ((List.range n).filter p).length + 1
  | 0, h => by omega
  | n + 1, h => by
    rw [List.range_succ, List.filter_append, List.filter_append, List.length_append, List.length_append]
    by_cases e : n = a
    · subst e
      have : (List.range n).filter (fun i => decide (i = n) || p i) = (List.range n).filter p := by
        refine List.filter_congr fun i hi => ?_
        have := List.mem_range.1 hi
        simp; omega
      rw [this]
      simp [hp]
    · rw [filter_or_len p a hp n (by omega)]
      have : (List.filter (fun i => decide (i = a) || p i) [n]).length = (List.filter p [n]).length := by simp [List.filter_cons, e]
      rw [this]; omega
/-- The tracks of a set in order. -/
def setN (p : Nat → Bool) : List Nat := (List.range 128).filter p
def memB (L : List Nat) (i : Nat) : Bool := decide (i ∈ L)
theorem setN_cons (a : Nat) (L : List Nat) (ha : a < 128) : (setN (memB (a :: L))).length = (setN (memB L)).length + (if a ∈ L then 0 else 1) := by
  by_cases h : a ∈ L
  · rw [if_pos h]
    have : memB (a :: L) = memB L := by
      funext i
      unfold memB
      rw [decide_eq_decide]
      simp only [List.mem_cons]
      exact ⟨fun q => q.elim (fun e => e ▸ h) id, Or.inr⟩
    rw [this]; rfl
  · rw [if_neg h]
    have : memB (a :: L) = fun i => decide (i = a) || memB L i := by
      funext i; simp [memB]
    rw [this]
    exact filter_or_len (memB L) a (by simp [memB, h]) 128 ha
theorem setN_le : ∀ L : List Nat, (∀ t ∈ L, t < 128) → (setN (memB L)).length ≤ L.length ∧ ((setN (memB L)).length = L.length → L.Nodup)
  | [], _ => ⟨by simp [setN, memB], fun _ => List.nodup_nil⟩
  | a :: L, h => by
    obtain ⟨h1, h2⟩ := setN_le L (fun t ht => h t (by simp [ht]))
    rw [setN_cons a L (h a (by simp)), List.length_cons]
    by_cases hm : a ∈ L
    · rw [if_pos hm]
      exact ⟨by omega, fun e => by omega⟩
    · rw [if_neg hm]
      exact ⟨by omega, fun e => List.nodup_cons.2 ⟨hm, h2 (by omega)⟩⟩
theorem seq_lt (l : List Rn) : ∀ t ∈ seqP l, t < 128 := by
  intro t ht
  obtain ⟨r, _, h1, h2⟩ := (mem_seq t l).1 ht
  have := clipP_le r
  omega
theorem idx_isSome_set (p : Nat → Bool) (out : List Rn) (h : seqP out = setN p) (i : Nat) (hi : i < 128) : (idxP out 0 (i : Int)).isSome = p i := by
  rw [idx_isSome, h]
  unfold setN
  cases hp : p i with
  | true => simp [hp, hi]
  | false => simp [hp]
theorem seq_app : ∀ l m : List Rn, seqP (l ++ m) = seqP l ++ seqP m
  | [], _ => rfl
  | x :: l, m => by rw [List.cons_append, seqP, seqP, seq_app l m, List.append_assoc]
theorem seq_one (r : Rn) : seqP [r] = List.range' (clipP r).1 (clipP r).2 := by simp [seqP]
/-- Runs that are their own clipped forms, at most n. -/
structure GoodRs (n : Nat) (out : List Rn) : Prop where
  all : ∀ r ∈ out, GoodRn r
  len : out.length ≤ n
theorem GoodRs.mono {n m : Nat} {out : List Rn} (h : GoodRs n out) (hm : n ≤ m) : GoodRs m out := ⟨h.all, Nat.le_trans h.len hm⟩
theorem GoodRs.snoc {n f c : Nat} {out : List Rn} (h : GoodRs n out) (hc : 0 < c) (hf : f + c ≤ 128) : GoodRs (n + 1) (out ++ [((f : Int), (c : Int))]) :=
  ⟨fun r hr => by
    rcases List.mem_append.1 hr with hr | hr
    · exact h.all r hr
    · obtain rfl := List.mem_singleton.1 hr
      exact ⟨by simp only; omega, by simp only; omega, by simp only; omega⟩, by have := h.len; simp; omega⟩
theorem GoodRs.bump {n f c : Nat} {ii : List Rn} {g1 c1 : Int} (h : GoodRs n (ii ++ [(g1, c1)])) (e : g1 + c1 = f) (hf : f + c ≤ 128) : GoodRs (n + 1) (ii ++ [(g1, c1 + c)]) :=
  ⟨fun r hr => by
    rcases List.mem_append.1 hr with hr | hr
    · exact h.all r (by simp [hr])
    · obtain rfl := List.mem_singleton.1 hr
      obtain ⟨q1, q2, q3⟩ := h.all (g1, c1) (by simp)
      simp only at q1 q2 q3
      exact ⟨by simp only; omega, by simp only; omega, by simp only; omega⟩, by have := h.len; simp at this ⊢; omega⟩
theorem own_dr {w : World} {base : Nat} {e : TypeId} {size : Nat} {v : Value} {n : Nat} {xs : List Value} (h : w.ownsRow base e size v n xs) : w.drew.ownsRow base e size v n xs := own_below h (Below.refl _ _).drew
theorem good_ok {r : Rn} (h : GoodRn r) : okRn r := by
  obtain ⟨h1, h2, h3⟩ := h
  exact ⟨⟨by omega, by omega⟩, ⟨by omega, by omega⟩⟩
/-- A truth value; where it is true, p holds. -/
def IfB (p : Prop) (e : Ending) : Prop := ∃ q : Bool, e = .returned (.bool q) ∧ (q = true → p)
theorem ifB_false (p : Prop) : IfB p (.returned (.bool false)) := ⟨false, rfl, fun h => by cases h⟩
theorem ifB_true {p : Prop} (h : p) : IfB p (.returned (.bool true)) := ⟨true, rfl, fun _ => h⟩
end

section
open Go.RowKit Go.Sort

set_option maxRecDepth 100000 in
theorem slots_any (n : Int) (w : World) : Calls Tryz.prog 40 #[.int .i64 n] w fun e w' => e = .returned (.int .i64 (max 0 (ttP n - 1))) ∧ w = w' := by
  have HT := Lib.hid (tabletracks_any n w)
  have h : 0 ≤ ttP n ∧ ttP n ≤ 32 := by unfold ttP; split <;> omega
  generalize ttP n = t at h HT
  have m : IntKind.i64.wrap (t - 1) = t - 1 := IntWalk.i64_in _ (by omega)
  go_enter Tryz.func40, Tryz.ntmps40
  go_wp2_with fail
  refine HT.out.mono ?_
  rintro e w1 ⟨rfl, rfl⟩
  go_wp2_with fail
  all_goals go_ret
  all_goals refine ⟨?_, rfl⟩
  all_goals first
    | (rw [show max 0 (t - 1) = t - 1 by omega]; rfl)
    | (rw [show max 0 (t - 1) = 0 by omega]; rfl)
end

section
open Go.RowKit Go.Sort

/-- Some truth value. -/
def AnyB (e : Ending) : Prop := ∃ q : Bool, e = .returned (.bool q)
def chP (nm : By) (i : Nat) : Nat := (nm.getD i 0).toNat
def okC (c : Nat) : Prop := (65 ≤ c ∧ c ≤ 90) ∨ (48 ≤ c ∧ c ≤ 57)
instance (c : Nat) : Decidable (okC c) := inferInstanceAs (Decidable (_ ∨ _))
/-- Whether a name is one of volumes. -/
def nameP (nm : By) : Bool := decide (1 ≤ nm.length ∧ nm.length ≤ 8 ∧ 65 ≤ chP nm 0 ∧ ∀ i, i < nm.length → okC (chP nm i))
theorem ch_at (nm : By) (i : Nat) (h : i < nm.length) : ((⟨nm.toArray⟩ : ByteArray)[i]'(by simpa [ByteArray.size] using h)).toNat = chP nm i := by
  unfold chP
  rw [List.getD_eq_getElem?_getD, List.getElem?_eq_getElem h]
  rfl

set_option maxRecDepth 100000 in
set_option maxHeartbeats 2000000 in
theorem validname_any (nm : By) (w : World) (hn : nm.length ≤ 100) : Calls Tryz.prog 39 #[.string ⟨nm.toArray⟩] w fun e w' => e = .returned (.bool (nameP nm)) ∧ w = w' := by
  obtain ⟨q, hq⟩ : ∃ q, q = nameP nm := ⟨_, rfl⟩
  rw [← hq]
  have HQ := Lib.hid hq
  clear hq
  by_cases h1 : nm.length < 1
  · have h1I : (nm.length : Int) < 1 := by omega
    have HF := Lib.hid (show q = false by rw [HQ.out]; exact decide_eq_false fun h => by omega)
    go_enter Tryz.func39, Tryz.ntmps39
    go_wp2_with fail
    go_ret
    rw [HF.out]
    exact ⟨rfl, rfl⟩
  · have h1I : ¬ (nm.length : Int) < 1 := by omega
    by_cases h8 : 8 < nm.length
    · have h8I : (8 : Int) < (nm.length : Int) := by omega
      have HF := Lib.hid (show q = false by rw [HQ.out]; exact decide_eq_false fun h => by omega)
      go_enter Tryz.func39, Tryz.ntmps39
      go_wp2_with fail
      all_goals (go_ret; rw [HF.out]; exact ⟨rfl, rfl⟩)
    · have h8I : ¬ (8 : Int) < (nm.length : Int) := by omega
      have h0 : 0 < nm.length := by omega
      have HC0 := Lib.hid (ch_at nm 0 h0)
      have HCH := Lib.hid (ch_at nm)
      have HF0 := Lib.hid (show chP nm 0 < 65 → q = false from fun hc => by rw [HQ.out]; exact decide_eq_false fun h => by omega)
      have HF := Lib.hid (show ∀ i, i < nm.length → ¬ okC (chP nm i) → q = false from fun i hi hc => by rw [HQ.out]; exact decide_eq_false fun h => hc (h.2.2.2 i hi))
      have HT := Lib.hid (show 65 ≤ chP nm 0 → (∀ i, i < nm.length → okC (chP nm i)) → q = true from fun hc ha => by rw [HQ.out]; exact decide_eq_true ⟨by omega, by omega, hc, ha⟩)
      go_enter Tryz.func39, Tryz.ntmps39
      go_wp2_with fail
      all_goals first
        | (go_ret
           rename_i hx
           rw [HF0.out (by have := HC0.out; omega)]
           exact ⟨by first | rfl | simp [hx], rfl⟩)
        | (rename_i hx _ _
           have H65 := Lib.hid (show 65 ≤ chP nm 0 by have := HC0.out; omega)
           go_loop [20] (fun k => ∃ j : Nat, j ≤ nm.length ∧ k = .int .i64 j ∧ ∀ i, i < j → okC (chP nm i)) (fun k => nm.length - (intOf k).toNat)
           case atStart => exact ⟨0, by omega, rfl, fun i hi => by omega⟩
           case round =>
             obtain ⟨j, hj, rfl, hall⟩ := hrel
             have HA := Lib.hid hall
             clear hall
             by_cases hlt : j < nm.length
             · have hltI : (j : Int) < (nm.length : Int) := by omega
               have HCJ := Lib.hid (HCH.out j hlt)
               go_wp2_with fail
               all_goals first
                 | (refine ⟨⟨j + 1, by omega, by go_num, fun i hi => ?_⟩, by simp [intOf]; omega⟩
                    by_cases e : i = j
                    · subst e
                      have := HCJ.out
                      unfold okC
                      omega
                    · exact HA.out i (by omega))
                 | (go_ret
                    rw [HF.out j hlt (by have := HCJ.out; unfold okC; omega)]
                    exact ⟨rfl, rfl⟩)
             · have hltI : ¬ (j : Int) < (nm.length : Int) := by omega
               have hjl : j = nm.length := by omega
               go_wp2_with fail
               go_ret
               rw [HT.out H65.out (fun i hi => HA.out i (by omega))]
               exact ⟨rfl, rfl⟩)
end

section
open Go.RowKit Go.Sort

set_option maxRecDepth 100000 in
set_option maxHeartbeats 2000000 in
theorem lv2_any (g : Nat) (i u : Int) (v2 v3 v4 : Value) (w : World) (h : w.heap[g]? = some (.cells #[.int .i64 i, .int .i64 u, v2, v3, v4] 43 (0, 0))) :
    Calls Tryz.prog 66 #[.pointer (some ⟨g, 0, none⟩)] w fun e w' => IfB (1 ≤ i ∧ 0 ≤ u) e ∧ w = w' := by
  have c0 := cell_at (i := 0) (v := .int .i64 i) h rfl
  have c1 := cell_at (i := 1) (v := .int .i64 u) h rfl
  clear h
  by_cases h1 : 1 ≤ i
  · by_cases h2 : i ≤ 1099511627776
    · by_cases h3 : 0 ≤ u
      · by_cases h4 : u ≤ 1099511627776
        · go_enter Tryz.func66, Tryz.ntmps66
          go_wp2_with fail
          go_ret
          exact ⟨ifB_true ⟨h1, h3⟩, rfl⟩
        · go_enter Tryz.func66, Tryz.ntmps66
          go_wp2_with fail
          go_ret
          exact ⟨ifB_false _, rfl⟩
      · go_enter Tryz.func66, Tryz.ntmps66
        go_wp2_with fail
        go_ret
        exact ⟨ifB_false _, rfl⟩
    · go_enter Tryz.func66, Tryz.ntmps66
      go_wp2_with fail
      go_ret
      exact ⟨ifB_false _, rfl⟩
  · go_enter Tryz.func66, Tryz.ntmps66
    go_wp2_with fail
    go_ret
    exact ⟨ifB_false _, rfl⟩
end

section
open Go.RowKit Go.Sort

set_option maxRecDepth 100000 in
theorem lv1_any (g : Nat) (n : Int) (w : World) (h : w.cell? ⟨g, 0, none⟩ = some (.int .i64 n)) :
    Calls Tryz.prog 65 #[.pointer (some ⟨g, 0, none⟩)] w fun e w' => IfB (tvP n = true) e ∧ w = w' := by
  have HT := Lib.hid (tracksok_any n w)
  generalize tvP n = q at HT ⊢
  go_enter Tryz.func65, Tryz.ntmps65
  go_wp2_with fail
  refine HT.out.mono ?_
  rintro e w1 ⟨rfl, rfl⟩
  go_wp2_with fail
  go_ret
  exact ⟨⟨q, rfl, id⟩, rfl⟩
end

section
open Go.RowKit Go.Sort

set_option maxRecDepth 100000 in
set_option maxHeartbeats 2000000 in
theorem lv4_any (g : Nat) (v0 v1 v2 v3 : Value) (a : Option Addr) (n c : Nat) (w : World) (h : w.heap[g]? = some (.cells #[v0, v1, v2, v3, .slice a n c] 43 (0, 0))) :
    Calls Tryz.prog 68 #[.pointer (some ⟨g, 0, none⟩)] w fun e w' => IfB (1 ≤ n ∧ n ≤ 16) e ∧ w = w' := by
  have c4 := cell_at (i := 4) (v := .slice a n c) h rfl
  clear h
  by_cases h1 : (1 : Int) ≤ (n : Int)
  · by_cases h2 : (n : Int) ≤ 16
    · go_enter Tryz.func68, Tryz.ntmps68
      go_wp2_with fail
      go_ret
      exact ⟨ifB_true ⟨by omega, by omega⟩, rfl⟩
    · go_enter Tryz.func68, Tryz.ntmps68
      go_wp2_with fail
      go_ret
      exact ⟨ifB_false _, rfl⟩
  · go_enter Tryz.func68, Tryz.ntmps68
    go_wp2_with fail
    go_ret
    exact ⟨ifB_false _, rfl⟩

set_option maxRecDepth 100000 in
set_option maxHeartbeats 2000000 in
theorem lv3_any (g : Nat) (v0 v1 : Value) (s t : By) (v4 : Value) (w : World) (h : w.heap[g]? = some (.cells #[v0, v1, .string ⟨s.toArray⟩, .string ⟨t.toArray⟩, v4] 43 (0, 0))) :
    Calls Tryz.prog 67 #[.pointer (some ⟨g, 0, none⟩)] w fun e w' => AnyB e ∧ w = w' := by
  have c2 := cell_at (i := 2) (v := .string ⟨s.toArray⟩) h rfl
  have c3 := cell_at (i := 3) (v := .string ⟨t.toArray⟩) h rfl
  clear h
  by_cases h1 : (s.length : Int) ≤ 31
  · go_enter Tryz.func67, Tryz.ntmps67
    go_wp2_with fail
    go_ret
    exact ⟨⟨_, rfl⟩, rfl⟩
  · have h1d : decide ((s.length : Int) ≤ 31) = false := decide_eq_false h1
    go_enter Tryz.func67, Tryz.ntmps67
    go_wp2_with fail
    go_ret
    exact ⟨⟨_, rfl⟩, rfl⟩
end

section
open Go.RowKit Go.Sort
attribute [local go_sem ↓] loadRn_down

set_option maxRecDepth 100000 in
set_option maxHeartbeats 4000000 in
theorem eqruns_any (w : World) (B B2 : Nat) (a b : Option Addr) (c d : Nat) (l m : List Rn) (ha : Runs w B a l) (hb : Runs w B2 b m) (hl : l.length ≤ 4000000000) :
    Calls Tryz.prog 70 #[.slice a l.length c, .slice b m.length d] w fun e w' => e = .returned (.bool (decide (l = m))) ∧ Below w.heap.size w w' := by
  obtain ⟨d, hd⟩ : ∃ d, d = decide (l = m) := ⟨_, rfl⟩
  rw [← hd]
  have HD := Lib.hid hd
  clear hd
  by_cases hlm : l.length = m.length
  · have hlm' : m.length = l.length := hlm.symm
    rw [hlm']
    have HLM := Lib.hid hlm
    clear hlm hlm'
    go_enter Tryz.func70, Tryz.ntmps70
    go_wp2_with fail
    go_loopw [13] (fun k wr => ∃ j : Nat, j ≤ l.length ∧ k = .int .i64 j ∧ (∀ i, i < j → l[i]? = m[i]?) ∧ Below w.heap.size w wr) (fun k _ => l.length - (intOf k).toNat)
    case atStart => exact ⟨0, by omega, rfl, fun i hi => by omega, Below.refl _ _⟩
    case round =>
      obtain ⟨j, hj, rfl, he, hbw⟩ := hrel
      have HBW := Lib.hid hbw
      have HE := Lib.hid he
      by_cases hlt : j < l.length
      · have hltI : (j : Int) < (l.length : Int) := by omega
        have hlt2 : j < m.length := by have := HLM.out; omega
        obtain ⟨b1, o1, rfl, _, x1, x2⟩ := ha.get hlt
        obtain ⟨b2, o2, rfl, _, y1, y2⟩ := hb.get hlt2
        replace x1 := (hbw.cell (block_lt_of_cell x1)).trans x1
        replace x2 := (hbw.cell (block_lt_of_cell x2)).trans x2
        replace y1 := (hbw.cell (block_lt_of_cell y1)).trans y1
        replace y2 := (hbw.cell (block_lt_of_cell y2)).trans y2
        have HLI := Lib.hid (List.getElem?_eq_getElem hlt)
        have HMI := Lib.hid (List.getElem?_eq_getElem hlt2)
        clear hbw he
        generalize l[j] = r at x1 x2 HLI
        generalize m[j] = s at y1 y2 HMI
        obtain ⟨p, q⟩ := r
        obtain ⟨p2, q2⟩ := s
        simp only at x1 x2 y1 y2
        have d1 : (loadRn ⟨b1, o1 + j * 2, none⟩).run Tryz.prog wr.drew = .ok (.agg #[.int .i64 p, .int .i64 q]) wr.drew := loadRn_mid (w := wr.drew) x1 x2
        have d2 : (loadRn ⟨b2, o2 + j * 2, none⟩).run Tryz.prog wr.drew = .ok (.agg #[.int .i64 p2, .int .i64 q2]) wr.drew := loadRn_mid (w := wr.drew) y1 y2
        clear x1 x2 y1 y2 hlt2
        by_cases hpq : p = p2 ∧ q = q2
        · obtain ⟨rfl, rfl⟩ := hpq
          go_wp2_with fail
          go_region
          go_wp2_with fail
          go_roundw
          case rel => exact ⟨j + 1, by omega, by go_num, fun i hi => by
            by_cases e : i = j
            · subst e; rw [HLI.out, HMI.out]
            · exact HE.out i (by omega), below_drewN HBW.out 1⟩
          case measure => simp [intOf]; omega
        · have HDF := Lib.hid (show d = false by
            rw [HD.out]
            refine decide_eq_false fun e => hpq ?_
            have hx := HLI.out
            rw [e, HMI.out] at hx
            simpa [eq_comm] using hx)
          by_cases e : p = p2
          · subst e
            have e2 : ¬ q = q2 := fun e2 => hpq ⟨rfl, e2⟩
            clear hpq
            go_wp2_with fail
            go_region
            go_wp2_with fail
            go_ret
            rw [HDF.out]
            exact ⟨rfl, below_drewN HBW.out 1⟩
          · clear hpq
            go_wp2_with fail
            go_region
            go_wp2_with fail
            go_ret
            rw [HDF.out]
            exact ⟨rfl, below_drewN HBW.out 1⟩
      · have hltI : ¬ (j : Int) < (l.length : Int) := by omega
        have hjl : j = l.length := by omega
        have HEQ := Lib.hid (show l = m from List.ext_getElem? fun i => by
          by_cases hi : i < j
          · exact he i hi
          · rw [List.getElem?_eq_none (by omega), List.getElem?_eq_none (by have := HLM.out; omega)])
        clear hbw he
        go_wp2_with fail
        go_ret
        rw [show d = true by rw [HD.out]; exact decide_eq_true HEQ.out]
        exact ⟨rfl, HBW.out⟩
  · have HLM := Lib.hid hlm
    have hI : ¬ (l.length : Int) = (m.length : Int) := by omega
    have HB := Lib.hid (Below.refl w.heap.size w)
    go_enter Tryz.func70, Tryz.ntmps70
    go_wp2_with fail
    go_ret
    rw [show d = false by rw [HD.out]; exact decide_eq_false fun e => HLM.out (by rw [e])]
    exact ⟨rfl, HB.out⟩
end

section
open Go.RowKit Go.Sort
attribute [local go_sem ↓] loadRn_down storeRn_down

/-- A truth value; where it is false, p holds. -/
def IfF (p : Prop) (e : Ending) : Prop := ∃ q : Bool, e = .returned (.bool q) ∧ (q = false → p)
theorem ifF_true (p : Prop) : IfF p (.returned (.bool true)) := ⟨true, rfl, fun h => by cases h⟩
theorem ifF_false {p : Prop} (h : p) : IfF p (.returned (.bool false)) := ⟨false, rfl, fun _ => h⟩
/-- A run within a range. -/
def inR (f t : Int) (r : Rn) : Prop := f ≤ r.1 ∧ wrap64 (r.1 + r.2) ≤ t
instance (f t : Int) (r : Rn) : Decidable (inR f t r) := inferInstanceAs (Decidable (_ ∧ _))

theorem not_inR (x y f t : Int) : (!(decide (inR f t (x, y)))) = (decide (x < f) || decide (t < wrap64 (x + y))) := by
  rw [Bool.eq_iff_iff]
  generalize hz : wrap64 (x + y) = z
  have he : inR f t (x, y) ↔ f ≤ x ∧ z ≤ t := by unfold inR; simp only; rw [hz]
  simp only [Bool.not_eq_true', decide_eq_false_iff_not, Bool.or_eq_true, decide_eq_true_eq, he]
  omega

set_option maxRecDepth 100000 in
set_option maxHeartbeats 2000000 in
theorem out_any (x y f t : Int) (a b : Nat) (w : World) (ha : w.cell? ⟨a, 0, none⟩ = some (.int .i64 f)) (hb : w.cell? ⟨b, 0, none⟩ = some (.int .i64 t)) :
    Calls Tryz.prog 74 #[.agg #[.int .i64 x, .int .i64 y], .pointer (some ⟨a, 0, none⟩), .pointer (some ⟨b, 0, none⟩)] w fun e w' => e = .returned (.bool (!(decide (inR f t (x, y))))) ∧ Below w.heap.size w w' := by
  have hbx := box_below w #[.int .i64 x, .int .i64 y] 68
  have hg := heap_alloc_new w (.cells #[.int .i64 x, .int .i64 y] 68)
  have d0 := cell_at (i := 0) (v := .int .i64 x) hg rfl
  have d1 := cell_at (i := 1) (v := .int .i64 y) hg rfl
  have ha := (hbx.cell (block_lt_of_cell ha)).trans ha
  have hb := (hbx.cell (block_lt_of_cell hb)).trans hb
  have HB := Lib.hid hbx
  have HQ := Lib.hid (not_inR x y f t)
  generalize (!(decide (inR f t (x, y)))) = q at HQ ⊢
  clear hbx hg
  by_cases h1 : x < f
  · have HQ1 := Lib.hid (show q = true by rw [HQ.out]; simp [h1])
    clear HQ
    go_enter Tryz.func74, Tryz.ntmps74
    go_wp2_with fail
    go_ret
    rw [HQ1.out]
    exact ⟨rfl, HB.out⟩
  · by_cases h2 : t < wrap64 (x + y)
    · have HQ1 := Lib.hid (show q = true by rw [HQ.out]; simp [h2])
      clear HQ
      go_enter Tryz.func74, Tryz.ntmps74
      go_wp2_with fail
      go_ret
      rw [HQ1.out]
      exact ⟨by first | rfl | simp [h2], HB.out⟩
    · have HQ1 := Lib.hid (show q = false by rw [HQ.out]; simp [h1, h2])
      clear HQ
      go_enter Tryz.func74, Tryz.ntmps74
      go_wp2_with fail
      go_ret
      rw [HQ1.out]
      exact ⟨by first | rfl | simp [h2], HB.out⟩

/-- The first run outside of a range. -/
def outP (f t : Int) : List Rn → Nat → Option Nat
  | [], _ => none
  | r :: l, n => if decide (inR f t r) = true then outP f t l (n + 1) else some n
theorem outP_none (f t : Int) : ∀ (l : List Rn) (n : Nat), outP f t l n = none → ∀ r ∈ l, inR f t r
  | [], _, _ => by simp
  | r :: l, n, h => by
    unfold outP at h
    split at h
    · rename_i hr
      intro x hx
      rcases List.mem_cons.1 hx with rfl | hx
      · exact of_decide_eq_true hr
      · exact outP_none f t l _ h x hx
    · cases h
def outV : Option Nat → Value
  | some n => .int .i64 n
  | none => .int .i64 (-1)

set_option maxRecDepth 100000 in
set_option maxHeartbeats 4000000 in
theorem indexrn_any (w : World) (B : Nat) (a : Option Addr) (cap : Nat) (l : List Rn) (f t : Int) (ba bb : Nat) (h : Runs w B a l) (hB : B ≤ w.heap.size) (hl : l.length ≤ 1000000) (hf : w.cell? ⟨ba, 0, none⟩ = some (.int .i64 f)) (ht : w.cell? ⟨bb, 0, none⟩ = some (.int .i64 t)) :
    Calls Tryz.prog 91 #[.slice a l.length cap, .func (.func 74) #[] #[.pointer (some ⟨ba, 0, none⟩), .pointer (some ⟨bb, 0, none⟩)]] w fun e w' => e = .returned (outV (outP f t l 0)) ∧ Below w.heap.size w w' := by
  have HT0 := Lib.hid (show outP f t l 0 = outP f t (l.drop 0) 0 from rfl)
  generalize outP f t l 0 = T at HT0 ⊢
  have HR := Lib.hid h
  have HF := Lib.hid hf
  have HT1 := Lib.hid ht
  have hfl := block_lt_of_cell hf
  have htl := block_lt_of_cell ht
  clear h hf ht
  go_enter Tryz.func91, Tryz.ntmps91
  go_wp2_with fail
  go_loopw [8] (fun k wr => ∃ j : Nat, j ≤ l.length ∧ k = .int .i64 j ∧ T = outP f t (l.drop j) j ∧ Below w.heap.size w wr) (fun k _ => l.length - (intOf k).toNat)
  case atStart => exact ⟨0, by omega, rfl, HT0.out, Below.refl _ _⟩
  case round =>
    clear HT0
    obtain ⟨j, hj, rfl, hT, hb⟩ := hrel
    have HB := Lib.hid hb
    by_cases hlt : j < l.length
    · have hltI : (j : Int) < (l.length : Int) := by omega
      obtain ⟨b, off, rfl, hbb, hx, hy⟩ := HR.out.get hlt
      have x0 := (hb.cell (p := ⟨b, off + j * 2, none⟩) (Nat.lt_of_lt_of_le hbb hB)).trans hx
      have x1 := (hb.cell (p := ⟨b, off + j * 2 + 1, none⟩) (Nat.lt_of_lt_of_le hbb hB)).trans hy
      have hf := (hb.cell hfl).trans HF.out
      have ht := (hb.cell htl).trans HT1.out
      rw [List.drop_eq_getElem_cons hlt, outP] at hT
      clear hx hy hb
      generalize l[j] = r at hT x0 x1
      obtain ⟨p, q⟩ := r
      simp only at x0 x1
      have dl0 := loadRn_mid x0 x1
      have HM := Lib.hid (out_any p q f t ba bb wr hf ht)
      clear x0 x1 hf ht
      generalize decide (inR f t (p, q)) = d at hT HM
      have HTT := Lib.hid hT
      clear hT
      go_wp2_with fail
      refine HM.out.mono ?_
      rintro e w2 ⟨rfl, hb2⟩
      have HB2 := Lib.hid (HB.out.trans (hb2.mono HB.out.size))
      clear hb2 dl0
      cases d with
      | false =>
        have HQ := Lib.hid (show T = some j by rw [HTT.out, if_neg (by simp)])
        go_wp2_with fail
        go_ret
        rw [HQ.out]
        exact ⟨rfl, HB2.out⟩
      | true =>
        have HQ := Lib.hid (show T = outP f t (l.drop (j + 1)) (j + 1) by rw [HTT.out, if_pos rfl])
        go_wp2_with fail
        go_roundw
        case rel => exact ⟨j + 1, by omega, by go_num, HQ.out, HB2.out⟩
        case measure => simp [intOf]; omega
    · have hltI : ¬ (j : Int) < (l.length : Int) := by omega
      have HQ := Lib.hid (show T = none by rw [hT, List.drop_eq_nil_of_le (by omega)]; rfl)
      clear hT hb
      go_wp2_with fail
      go_ret
      rw [HQ.out]
      exact ⟨rfl, HB.out⟩

set_option maxRecDepth 100000 in
set_option maxHeartbeats 2000000 in
theorem containsrn_any (w : World) (B : Nat) (a : Option Addr) (cap : Nat) (l : List Rn) (f t : Int) (ba bb : Nat) (h : Runs w B a l) (hB : B ≤ w.heap.size) (hl : l.length ≤ 1000000) (hf : w.cell? ⟨ba, 0, none⟩ = some (.int .i64 f)) (ht : w.cell? ⟨bb, 0, none⟩ = some (.int .i64 t)) :
    Calls Tryz.prog 73 #[.slice a l.length cap, .func (.func 74) #[] #[.pointer (some ⟨ba, 0, none⟩), .pointer (some ⟨bb, 0, none⟩)]] w fun e w' => e = .returned (.bool (outP f t l 0).isSome) ∧ Below w.heap.size w w' := by
  have HI := Lib.hid (indexrn_any w B a cap l f t ba bb h hB hl hf ht)
  generalize outP f t l 0 = T at HI ⊢
  clear h hf ht
  go_enter Tryz.func73, Tryz.ntmps73
  go_wp2_with fail
  refine HI.out.mono ?_
  rintro e w1 ⟨rfl, hb1⟩
  have HB1 := Lib.hid hb1
  clear hb1
  cases T with
  | none =>
    simp only [outV]
    go_wp2_with fail
    go_ret
    exact ⟨rfl, HB1.out⟩
  | some n =>
    have h0 : (0 : Int) ≤ (n : Int) := by omega
    simp only [outV]
    go_wp2_with fail
    go_ret
    exact ⟨by first | rfl | simp [h0], HB1.out⟩

set_option maxRecDepth 100000 in
set_option maxHeartbeats 2000000 in
theorem lv6_any (w : World) (B g ba bb : Nat) (v0 v1 v2 v3 : Value) (ea : Option Addr) (ec : Nat) (l : List Rn) (f t : Int) (hg : w.heap[g]? = some (.cells #[v0, v1, v2, v3, .slice ea l.length ec] 43 (0, 0))) (h : Runs w B ea l) (hB : B ≤ w.heap.size) (hl : l.length ≤ 1000000) (hf : w.cell? ⟨ba, 0, none⟩ = some (.int .i64 f)) (ht : w.cell? ⟨bb, 0, none⟩ = some (.int .i64 t)) :
    Calls Tryz.prog 72 #[.pointer (some ⟨g, 0, none⟩), .pointer (some ⟨ba, 0, none⟩), .pointer (some ⟨bb, 0, none⟩)] w fun e w' => IfB (∀ r ∈ l, inR f t r) e ∧ Below w.heap.size w w' := by
  have HI := Lib.hid (containsrn_any w B ea ec l f t ba bb h hB hl hf ht)
  have HP := Lib.hid (outP_none f t l 0)
  have c4 := cell_at (i := 4) (v := .slice ea l.length ec) hg rfl
  have hmf : ∀ (fn : Fn) (first cap : Array Value) (W : World), (Instr.makeFunc fn first cap).run Tryz.prog W = .ok (.func fn first cap) W := fun _ _ _ _ => rfl
  generalize outP f t l 0 = T at HI HP
  clear h hf ht hg
  go_enter Tryz.func72, Tryz.ntmps72
  go_wp2_with fail
  refine HI.out.mono ?_
  rintro e w1 ⟨rfl, hb1⟩
  have HB1 := Lib.hid hb1
  clear hb1
  cases T with
  | none =>
    simp only [Option.isSome_none]
    go_wp2_with fail
    go_ret
    exact ⟨ifB_true (by first | exact HP.out rfl | exact HP.out trivial | exact fun a b q => HP.out rfl (a, b) q | exact fun a b q => HP.out trivial (a, b) q), HB1.out⟩
  | some n =>
    simp only [Option.isSome_some]
    go_wp2_with fail
    go_ret
    exact ⟨ifB_false _, HB1.out⟩
end

end Go.Proofs.YtcidbmldbikknaaGreatDoor
