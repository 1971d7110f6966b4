/-
  Appends of whole lists. No condition but lengths.
  Walks: slices.Clone of changes, reads, lengths and locks; what a unit has changed and read. Condition: the lists lie in memory.
  What a unit has changed in a data set is turned: the unit in memory behind it. No walk, no condition.
  Walk: what a unit has changed in a data set, made where it is not there. Condition: the unit lies in memory.
  Walks: the encoding of a record of the log, or why there is none, by the program. Condition: it lies in memory; its texts are not too long.
  Plain: what further changes do to a unit; the unit in memory behind one of them. No walk, no condition.
-/
import Derived.Test.YtcefkngblddpoaaGreatDoorG37
import Derived.Test.YtcefkngblddpoaaGreatDoorG25
namespace Go.Proofs.YtcefkngblddpoaaGreatDoor

section
set_option linter.unusedSimpArgs false
set_option linter.unusedVariables false
open Go.RowKit Go.Sort
section
variable {α : Type} {P : Program} {enc : α → Array Value} {t e : TypeId} {z : Nat}
/-- The cells of a list that is appended. -/
def NewsE (enc : α → Array Value) (w : World) (a : Option Addr) (cap : Nat) (m : List α) : Prop :=
 (∃ p, a = some p ∧ ∀ (j : Nat) (u : Value), (flatE enc m)[j]? = some u → w.cell? (p.add j) = some u) ∨ (a = none ∧ cap = 0 ∧ m = [])
theorem NewsE.of (E : Enc P enc t e z) {w : World} {a : Option Addr} {cap : Nat} {m : List α} (hn : a = none → cap = 0)
 (h : m ≠ [] → ∃ b off, a = some ⟨b, off, none⟩ ∧ ∀ i (hi : i < m.length) j u, (enc m[i])[j]? = some u → w.cell? ⟨b, off + (i * z + j), none⟩ = some u) : NewsE enc w a cap m := by
 by_cases hm : m = []
 · subst hm
   cases a with
   | none => exact Or.inr ⟨rfl, hn rfl, rfl⟩
   | some p => exact Or.inl ⟨p, rfl, fun j u hj => by simp [flatE] at hj⟩
 · obtain ⟨b, off, rfl, hc⟩ := h hm
   refine Or.inl ⟨_, rfl, fun j u hj => ?_⟩
   have hz : 0 < z := by obtain ⟨_, _, _, _, _, _, _, h⟩ := E.hi; exact h
   have hl := (List.getElem?_eq_some_iff.1 hj).1
   rw [flatE_len E] at hl
   have hi : j / z < m.length := by rw [Nat.div_lt_iff_lt_mul hz]; exact hl
   have hr := Nat.mod_lt j hz
   have hjj : j / z * z + j % z = j := by rw [Nat.mul_comm]; exact Nat.div_add_mod j z
   have hg := flatE_get E m (j / z) hi (j % z) hr
   rw [hjj, hj] at hg
   have := hc (j / z) hi (j % z) u hg.symm
   rw [hjj] at this
   have ea : (⟨b, off, none⟩ : Addr).add j = ⟨b, off + j, none⟩ := by
    unfold Addr.add
    split
    · rename_i h0; subst h0; rfl
    · rfl
   rw [ea]
   exact this
theorem run_append_many (E : Enc P enc t e z) (w : World) (base : Nat) (ty : TypeId) (v : Value) (l m : List α) (a : Option Addr) (cap : Nat) (hown : RowE enc e z w base v l) (hm : NewsE enc w a cap m) (hlen : l.length + m.length ≤ 1000000) (hbase : base ≤ w.heap.size) :
 ∃ v' w', (Builtin.append_ #[t, t] ty #[v, .slice a m.length cap]).run P w = .ok v' w' ∧ RowE enc e z w' base v' (l ++ m) ∧ w.grownBy w' v.ownBlock := by
 obtain ⟨i, zv, hi, hz, hs, hby, hzs, h0⟩ := E.hi
 rcases hm with ⟨p, rfl, hc⟩ | ⟨rfl, rfl, rfl⟩
 · obtain ⟨v', w', h1, h2, h3, _, _⟩ := run_append_own_at (P := P) (w := w) base t ty e i zv z i.bytes E.ht hi hz hs rfl hzs h0 v l.length (flatE enc l) hown p m.length cap (flatE enc m) (flatE_len E m) hc (fun u hu => by
    unfold flatE at hu
    obtain ⟨x, _, hx⟩ := List.mem_flatMap.1 hu
    exact E.one x u hx) (by simp only [maxLen]; omega) (by
    have : (l.length + m.length) * i.bytes ≤ 1000000 * 100 := Nat.mul_le_mul hlen hby
    omega) hbase
   refine ⟨v', w', h1, ?_, h3⟩
   show w'.ownsRow base e z v' (l ++ m).length (flatE enc (l ++ m))
   rw [List.length_append, flatE_app]
   exact h2
 · refine ⟨v, w, run_append_owned_none (P := P) w base t ty e i z E.ht hi v l.length (flatE enc l) hown, by rw [List.append_nil]; exact hown, ⟨rfl, rfl, rfl, Nat.le_refl _, fun _ _ _ => rfl⟩⟩
theorem wpList_append_many {ops : Array Oper} {rest : List Oper} {o : Oper} {a : Act} {Q : Exit → Act → World → Prop} {w : World} (hgd : o.guard = none) (s x : Operand) (ho : o.op = .call { callee := .builtin .append, args := #[s, x], argTypes := #[t, t] }) (E : Enc P enc t e z)
 (base : Nat) (v : Value) (l m : List α) (ad : Option Addr) (cap : Nat) (hs : a.eval s = v) (hown : RowE enc e z w base v l) (hx : a.eval x = .slice ad m.length cap) (hm : NewsE enc w ad cap m) (hlen : l.length + m.length ≤ 1000000) (hbase : base ≤ w.heap.size)
 (h : ∀ v' w', RowE enc e z w' base v' (l ++ m) → w.grownBy w' v.ownBlock → wpList P ops Q rest (a.put o.dst v') w') : wpList P ops Q (o :: rest) a w := by
 refine wpList_plain hgd fun K hK => ?_
 obtain ⟨v', w', hr, h2, h3⟩ := run_append_many E w base o.type v l m ad cap hown hm hlen hbase
 unfold Oper.wp execOp
 simp only [ho, resolve, invoke, builtin, Sem.run_bind, Sem.run_pure, Result.andThen_ok, List.map_toArray, List.map_cons, List.map_nil, hs, hx, hr]
 exact hK _ _ (h v' w' h2 h3)
end
theorem row_empty50 {α : Type} {P : Program} {enc : α → Array Value} {t e : TypeId} {z : Nat} (_E : Enc P enc t e z) (w : World) {base : Nat} (hb : base ≤ w.heap.size) : RowE enc e z (w.alloc (.cells #[] e)) base (.slice (some ⟨w.heap.size, 0, none⟩) 0 0) [] :=
 ⟨by simp [flatE], Or.inr ⟨w.heap.size, 0, #[], rfl, hb, heap_alloc_new _ _, Nat.le_refl _, by simp [maxLen], by simp, by simp [flatE]⟩⟩
/-- A row can be read as a list that is appended. -/
theorem RowE.news {α : Type} {P : Program} {enc : α → Array Value} {t e : TypeId} {z : Nat} (E : Enc P enc t e z) {w : World} {base : Nat} {a : Option Addr} {n c : Nat} {l : List α} (h : RowE enc e z w base (.slice a n c) l) : NewsE enc w a c l ∧ n = l.length := by
 obtain ⟨a', c', hv, h1, h2, h3⟩ := RowE.cells E h
 injection hv with e1 e2 e3
 subst e1 e2 e3
 refine ⟨NewsE.of E (fun hn => ?_) (fun hl => ?_), rfl⟩
 · rcases h.2 with ⟨hv, _⟩ | ⟨g, cap, cur, hv, _⟩
   · injection hv with _ _ e3
   · injection hv with e1 _ _
     rw [hn] at e1; cases e1
 · obtain ⟨g, ha, _, _, _, hc⟩ := h3 hl
   exact ⟨g, 0, ha, fun i hi j u hu => by rw [Nat.zero_add]; exact hc i hi j u hu⟩
theorem NewsE.below {α : Type} {enc : α → Array Value} {w w' : World} {a : Option Addr} {cap : Nat} {m : List α} (h : NewsE enc w a cap m) (hb : ∀ p, a = some p → m ≠ [] → p.block < w.heap.size) (hw : Below w.heap.size w w') : NewsE enc w' a cap m := by
 rcases h with ⟨p, rfl, hc⟩ | h
 · refine Or.inl ⟨p, rfl, fun j u hj => ?_⟩
   have hm : m ≠ [] := fun e => by subst e; simp [flatE] at hj
   rw [hw.cell (by
    have := hb p rfl hm
    unfold Addr.add
    split <;> exact this)]
   exact hc j u hj
 · exact Or.inr h
end

section
set_option maxRecDepth 100000
set_option maxHeartbeats 4000000
set_option linter.unusedSimpArgs false
set_option linter.unusedVariables false
open Go.RowKit Go.Sort
theorem clonech_w (w : World) (a : Option Addr) (cap : Nat) (l : List Ch) (h : NewsE chE w a cap l) (hb : ∀ p, a = some p → l ≠ [] → p.block < w.heap.size) (hl : l.length ≤ 900000) :
 Calls Tryz.prog 65 #[.slice a l.length cap] w fun e w' => ∃ v, e = .returned v ∧ ChRow w' w.heap.size v l ∧ Below w.heap.size w w' := by
 cases a with
 | none =>
   obtain ⟨rfl, rfl⟩ : cap = 0 ∧ l = [] := by
    rcases h with ⟨p, hp, _⟩ | ⟨_, h2, h3⟩
    · cases hp
    · exact ⟨h2, h3⟩
   have hq : ∀ W : World, (binOp .eql 68 (.slice none 0 0) (.slice none 0 0)).run Tryz.prog W = .ok (.bool true) W := fun _ => by kernel_rfl
   clear h hb
   go_enter Tryz.func65, Tryz.ntmps65
   go_wp2_with fail
   go_ret
   exact ⟨_, rfl, RowE.nil _ _, Below.refl _ _⟩
 | some p =>
   have hq : ∀ W : World, (binOp .eql 68 (.slice (some p) l.length cap) (.slice none 0 0)).run Tryz.prog W = .ok (.bool false) W := fun _ => by kernel_rfl
   have hb0 := box_below0 w #[] 36
   have HNW := Lib.hid (h.below hb hb0)
   have HROW := Lib.hid (row_empty50 encCh w (Nat.le_refl w.heap.size))
   have HB0 := Lib.hid hb0
   clear h hb hb0
   go_enter Tryz.func65, Tryz.ntmps65
   go_wp2_with (at_builtin; go_must (refine wpList_append_many rfl _ _ rfl encCh w.heap.size _ [] l (some p) cap rfl HROW.out rfl HNW.out ?e1 ?e2 ?_))
   case e1 => simp; omega
   case e2 => simp
   intro v6 w6 hr6 hg6
   have HB6 := Lib.hid (show Below w.heap.size w w6 from ((Only.of_below (S := []) HB0.out).grown hg6 (fun x hx => Or.inr (row_own HROW.out hx))).to_below)
   have HR6 := Lib.hid (show ChRow w6 w.heap.size v6 l by simpa using hr6)
   clear hr6 hg6
   go_wp2_with fail
   go_ret
   exact ⟨v6, rfl, HR6.out, HB6.out⟩
theorem cloneln_w (w : World) (a : Option Addr) (cap : Nat) (l : List Nat) (h : NewsE lnE w a cap l) (hb : ∀ p, a = some p → l ≠ [] → p.block < w.heap.size) (hl : l.length ≤ 900000) :
 Calls Tryz.prog 178 #[.slice a l.length cap] w fun e w' => ∃ v, e = .returned v ∧ LnRow w' w.heap.size v l ∧ Below w.heap.size w w' := by
 cases a with
 | none =>
   obtain ⟨rfl, rfl⟩ : cap = 0 ∧ l = [] := by
    rcases h with ⟨p, hp, _⟩ | ⟨_, h2, h3⟩
    · cases hp
    · exact ⟨h2, h3⟩
   have hq : ∀ W : World, (binOp .eql 81 (.slice none 0 0) (.slice none 0 0)).run Tryz.prog W = .ok (.bool true) W := fun _ => by kernel_rfl
   clear h hb
   go_enter Tryz.func178, Tryz.ntmps178
   go_wp2_with fail
   go_ret
   exact ⟨_, rfl, RowE.nil _ _, Below.refl _ _⟩
 | some p =>
   have hq : ∀ W : World, (binOp .eql 81 (.slice (some p) l.length cap) (.slice none 0 0)).run Tryz.prog W = .ok (.bool false) W := fun _ => by kernel_rfl
   have hb0 := box_below0 w #[] 3
   have HNW := Lib.hid (h.below hb hb0)
   have HROW := Lib.hid (row_empty50 encLn w (Nat.le_refl w.heap.size))
   have HB0 := Lib.hid hb0
   clear h hb hb0
   go_enter Tryz.func178, Tryz.ntmps178
   go_wp2_with (at_builtin; go_must (refine wpList_append_many rfl _ _ rfl encLn w.heap.size _ [] l (some p) cap rfl HROW.out rfl HNW.out ?e1 ?e2 ?_))
   case e1 => simp; omega
   case e2 => simp
   intro v6 w6 hr6 hg6
   have HB6 := Lib.hid (show Below w.heap.size w w6 from ((Only.of_below (S := []) HB0.out).grown hg6 (fun x hx => Or.inr (row_own HROW.out hx))).to_below)
   have HR6 := Lib.hid (show LnRow w6 w.heap.size v6 l by simpa using hr6)
   clear hr6 hg6
   go_wp2_with fail
   go_ret
   exact ⟨v6, rfl, HR6.out, HB6.out⟩
theorem uchanges_w (w : World) (S : List Nat) (p : Nat) (bv lv : Value) (u : Un) (h : UnAt w S p bv lv u) : Calls Tryz.prog 24 #[.pointer (some ⟨p, 0, none⟩)] w fun e w' => ∃ v, e = .returned v ∧ ChRow w' w.heap.size v u.chs ∧ Below w.heap.size w w' := by
 obtain ⟨k, rfl, _, _, _, hk⟩ := h
 obtain ⟨a, c, hv, _, _, hcl⟩ := hk.chs.cells encCh
 have c0 : w.cell? ⟨k.p, 3, none⟩ = some (.slice a u.chs.length c) := cell_at (i := 3) hk.row (by rw [← hv]; rfl)
 have HC := Lib.hid (clonech_w w a c u.chs ((hv ▸ hk.chs : ChRow w 0 (.slice a u.chs.length c) u.chs).news encCh).1 (fun q hq hl => by
  obtain ⟨g, hg, _, _, hlt, _⟩ := hcl hl
  rw [hq] at hg; cases hg; exact hlt) (by have := hk.few; omega))
 clear hk hv hcl
 go_enter Tryz.func24, Tryz.ntmps24
 go_wp2_with fail
 refine HC.out.mono ?_
 rintro e w2 ⟨v, rfl, hr2, hb2⟩
 have HR2 := Lib.hid hr2
 have HB2 := Lib.hid hb2
 obtain ⟨va, vc, rfl⟩ := RowE.spell encCh hr2
 clear hr2 hb2
 go_wp2_with fail
 go_ret
 exact ⟨_, rfl, HR2.out, HB2.out⟩
end

section
set_option linter.unusedSimpArgs false
set_option linter.unusedVariables false
open Go.RowKit Go.Sort
theorem mem_aset {κ ν : Type} [DecidableEq κ] {m : List (κ × ν)} (hn : (m.map Prod.fst).Nodup) {k : κ} {v : ν} {q : κ × ν} (h : q ∈ aset m k v) : q = (k, v) ∨ (q ∈ m ∧ q.1 ≠ k) := by
 have hn2 := aset_nodup hn k v
 have h1 := alook_of_mem hn2 (show (q.1, q.2) ∈ aset m k v from h)
 rw [alook_aset] at h1
 by_cases e : k = q.1
 · rw [if_pos e] at h1
   exact Or.inl (Prod.ext e.symm (Option.some.inj h1).symm)
 · rw [if_neg e] at h1
   exact Or.inr ⟨alook_mem h1, fun e2 => e e2.symm⟩
theorem aset_map {κ ν μ : Type} [DecidableEq κ] (f : ν → μ) (m : List (κ × ν)) (k : κ) (v : ν) : (aset m k v).map (fun q => (q.1, f q.2)) = aset (m.map (fun q => (q.1, f q.2))) k (f v) := by
 unfold aset
 have e : (m.map (fun q => (q.1, f q.2))).any (fun p => p.1 == k) = m.any (fun p => p.1 == k) := by
  rw [List.any_map]; rfl
 rw [e]
 split
 · rw [List.map_map, List.map_map]
   refine List.map_congr_left fun q _ => ?_
   simp only [Function.comp]
   split <;> rfl
 · simp
/-- A map does not see a change of what it does not hold. -/
theorem amap_same {κ ν : Type} [DecidableEq κ] {w : World} {b : Nat} {kv : κ → Value} {vv : ν → Value} {ok : κ → Prop} {m : List (κ × ν)} (h : amap w b kv vv ok m) {k : κ} {o o' : ν} (ho : alook m k = some o) (hv : vv o' = vv o) : amap w b kv vv ok (aset m k o') := by
 have hn := amap_nodup h
 have hm := alook_mem ho
 have hk : k ∈ m.map Prod.fst := List.mem_map.2 ⟨_, hm, rfl⟩
 have e1 : (aset m k o').map (fun p => (kv p.1, vv p.2)) = m.map (fun p => (kv p.1, vv p.2)) := by
  unfold aset
  rw [if_pos ((any_iff m k).2 hk), List.map_map]
  refine List.map_congr_left fun q hq => ?_
  simp only [Function.comp]
  by_cases e : q.1 = k
  · rw [if_pos e, hv]
    have : alook m q.1 = some q.2 := alook_of_mem hn hq
    rw [e, ho] at this
    rw [e, Option.some.inj this]
  · rw [if_neg e]
 have e2 : (aset m k o').map Prod.fst = m.map Prod.fst := by rw [aset_keys, if_pos hk]
 obtain ⟨es, cl, h1, h2, h3, h4, h5, h6⟩ := h
 refine ⟨es, cl, h1, by rw [e1]; exact h2, fun p hp => ?_, by rw [e2]; exact h4, h5, h6⟩
 have : p.1 ∈ m.map Prod.fst := by rw [← e2]; exact List.mem_map.2 ⟨p, hp, rfl⟩
 obtain ⟨q, hq, e⟩ := List.mem_map.1 this
 rw [← e]; exact h3 q hq
/-- The blocks of what was changed in two data sets lie apart. -/
theorem UnIn.owns_apart {w : World} {k : Uk} {u : Un} (h : UnIn w k u) {a b : Int × OwK} (ha : a ∈ k.os) (hb : b ∈ k.os) (hne : a.1 ≠ b.1) : ∀ x ∈ a.2.m, x ∉ b.2.m := by
 have oa := h.owns a ha
 have ob := h.owns b hb
 obtain ⟨p1, p2, p3⟩ := (h.apart a ha).2 b hb hne
 obtain ⟨ea, ca, ma⟩ := amap_block oa.keys
 obtain ⟨eb, cb, mb⟩ := amap_block ob.keys
 intro x hx hy
 simp only [OwK.m, List.mem_append, List.mem_cons, List.not_mem_nil, or_false] at hx hy
 rcases hx with (e | e) | hx
 · subst e
   rcases hy with (e | e) | hy
   · exact p1 e
   · exact map_apart oa.row mb e
   · obtain ⟨cs, hc⟩ := own_block ob.lens (by simpa using hy)
     exact types_apart oa.row hc (by decide) rfl
 · subst e
   rcases hy with (e | e) | hy
   · exact map_apart ob.row ma e.symm
   · exact p2 e
   · obtain ⟨cs, hc⟩ := own_block ob.lens (by simpa using hy)
     exact map_apart hc ma rfl
 · have hx : a.2.lv.ownBlock = some x := by simpa using hx
   obtain ⟨ca2, hca⟩ := own_block oa.lens hx
   rcases hy with (e | e) | hy
   · subst e; exact types_apart hca ob.row (by decide) rfl
   · subst e; exact map_apart hca mb rfl
   · exact p3 x hx (by simpa using hy)
theorem UnIn.own_p {w : World} {k : Uk} {u : Un} (h : UnIn w k u) {q : Int × OwK} (hq : q ∈ k.os) : k.p ∉ q.2.m ∧ k.mb ∉ q.2.m := by
 have ho := h.owns q hq
 obtain ⟨es2, cl2, hm2⟩ := amap_block ho.keys
 obtain ⟨es, cl, hm⟩ := amap_block h.sets
 constructor <;> intro hx <;> simp only [OwK.m, List.mem_append, List.mem_cons, List.not_mem_nil, or_false] at hx
 · rcases hx with (e | e) | hx
   · have := ho.row; rw [← e] at this; exact types_apart h.row this (by decide) rfl
   · exact map_apart h.row (e ▸ hm2) rfl
   · obtain ⟨cs', hb⟩ := own_block ho.lens (by simpa using hx)
     exact types_apart h.row hb (by decide) rfl
 · rcases hx with (e | e) | hx
   · exact map_apart ho.row hm e.symm
   · exact (h.apart q hq).1 e.symm
   · obtain ⟨cs', hb⟩ := own_block ho.lens (by simpa using hx)
     exact map_apart hb hm rfl
/-- What was changed in a data set is turned. -/
theorem UnIn.reown {w w1 : World} {k : Uk} {u : Un} (h : UnIn w k u) {T : List Nat} (ho : Only T w w1) (id : Int) (o' : OwK)
 (hT : ∀ x ∈ T, x = k.mb ∨ ∃ o, alook k.os id = some o ∧ x ∈ o.m)
 (hs : amap w1 k.mb (Value.int .i64) ptrO I64 (aset k.os id o')) (hw : OwIn w1 o')
 (hp : (∃ o, alook k.os id = some o ∧ o'.p = o.p) ∨ w.heap.size ≤ o'.p) (hkb : (∃ o, alook k.os id = some o ∧ o'.kb = o.kb) ∨ w.heap.size ≤ o'.kb)
 (hlv : ∀ x, o'.lv.ownBlock = some x → (∃ o, alook k.os id = some o ∧ o.lv.ownBlock = some x) ∨ w.heap.size ≤ x) :
 UnIn w1 { k with os := aset k.os id o' } { u with sets := aset u.sets id o'.x } ∧ Mv k.m w ({ k with os := aset k.os id o' } : Uk).m w1 := by
 have hn := amap_nodup h.sets
 have hold : ∀ o, alook k.os id = some o → (id, o) ∈ k.os := fun o ho => alook_mem ho
 obtain ⟨es, cl, hmb⟩ := amap_block h.sets
 have hTp : k.p ∉ T := fun hx => by
  rcases hT _ hx with e | ⟨o, hol, hm⟩
  · exact map_apart h.row (e ▸ hmb) rfl
  · exact (h.own_p (hold o hol)).1 hm
 have hTr : ∀ (x : Nat) (cs : Array Value) (t : TypeId), w.heap[x]? = some (.cells cs t (0, 0)) → t ≠ 121 → t ≠ 203 → t ≠ 3 → x ∉ T := fun x cs t hx h1 h2 h3 hm => by
  have hl := h.lone hx h1 h2 h3
  rcases hT _ hm with e | ⟨o, hol, hm⟩
  · exact hl.mb e
  · exact hl.os _ (hold o hol) hm
 have hTo : ∀ q ∈ k.os, q.1 ≠ id → ∀ x ∈ q.2.m, x ∉ T := fun q hq hne x hx hm => by
  rcases hT _ hm with e | ⟨o, hol, hm⟩
  · subst e; exact (h.own_p hq).2 hx
  · exact h.owns_apart hq (hold o hol) hne x hx hm
 have hlt := h.lt
 have hnew : ∀ q ∈ k.os, q.1 ≠ id → o'.p ≠ q.2.p ∧ o'.kb ≠ q.2.kb ∧ ∀ x, o'.lv.ownBlock = some x → q.2.lv.ownBlock ≠ some x := fun q hq hne => by
  have hqm : ∀ x ∈ q.2.m, x < w.heap.size := (h.owns q hq).lt
  refine ⟨fun e => ?_, fun e => ?_, fun x hx e => ?_⟩
  · rcases hp with ⟨o, hol, e2⟩ | e2
    · exact ((h.apart q hq).2 _ (hold o hol) hne).1 (by rw [← e, e2])
    · have := hqm q.2.p (by simp); omega
  · rcases hkb with ⟨o, hol, e2⟩ | e2
    · exact ((h.apart q hq).2 _ (hold o hol) hne).2.1 (by rw [← e, e2])
    · have := hqm q.2.kb (by simp); omega
  · rcases hlv x hx with ⟨o, hol, e2⟩ | e2
    · exact ((h.apart q hq).2 _ (hold o hol) hne).2.2 x e e2
    · have := hqm x (by simp [e]); omega
 have hkm : o'.kb ≠ k.mb := fun e => by
  rcases hkb with ⟨o, hol, e2⟩ | e2
  · exact (h.apart _ (hold o hol)).1 (by rw [← e2, e])
  · have := amap_lt h.sets; omega
 refine ⟨⟨ho.heap h.row hTp, ?_, ?_, hs, ?_, ?_, ?_, h.num, h.few⟩, ⟨ho.mono (fun x hx _ => ?_), fun x hx => ?_⟩⟩
 · refine h.chs.only ho (fun x hx => ?_)
   obtain ⟨cs, hb⟩ := own_block h.chs hx
   exact hTr x cs _ hb (by decide) (by decide) (by decide)
 · refine h.reads.only ho (fun x hx => ?_)
   obtain ⟨cs, hb⟩ := own_block h.reads hx
   exact hTr x cs _ hb (by decide) (by decide) (by decide)
 · show aset u.sets id o'.x = (aset k.os id o').map (fun q => (q.1, q.2.x))
   rw [aset_map (fun o : OwK => o.x), ← h.eq]
 · intro q hq
   rcases mem_aset hn hq with rfl | ⟨hq, hne⟩
   · exact hw
   · exact (h.owns q hq).only ho (hTo q hq hne)
 · intro a ha
   rcases mem_aset hn ha with rfl | ⟨ha, hane⟩
   · refine ⟨hkm, fun b hb hne => ?_⟩
     rcases mem_aset hn hb with rfl | ⟨hb, hbne⟩
     · exact absurd rfl hne
     · exact hnew b hb hbne
   · refine ⟨(h.apart a ha).1, fun b hb hne => ?_⟩
     rcases mem_aset hn hb with rfl | ⟨hb, hbne⟩
     · obtain ⟨q1, q2, q3⟩ := hnew a ha hane
       exact ⟨fun e => q1 e.symm, fun e => q2 e.symm, fun x hx e => q3 x e hx⟩
     · exact (h.apart a ha).2 b hb hne
 · rcases hT x hx with rfl | ⟨o, hol, hm⟩
   · simp
   · exact Uk.mem_own (hold o hol) hm
 · have hx : x ∈ [k.p, k.mb] ++ k.cv.ownBlock.toList ++ k.rv.ownBlock.toList ++ (aset k.os id o').flatMap (fun q => q.2.m) := hx
   rcases List.mem_append.1 hx with hx | hx
   · exact Or.inl (List.mem_append_left _ hx)
   · obtain ⟨q, hq, hx⟩ := List.mem_flatMap.1 hx
     rcases mem_aset hn hq with rfl | ⟨hq, _⟩
     · have hl := hw.lt x hx
       simp only [OwK.m, List.mem_append, List.mem_cons, List.not_mem_nil, or_false] at hx
       rcases hx with (rfl | rfl) | hx
       · rcases hp with ⟨o, hol, e⟩ | e
         · exact Or.inl (Uk.mem_own (hold o hol) (by rw [e]; simp))
         · exact Or.inr ⟨e, hl⟩
       · rcases hkb with ⟨o, hol, e⟩ | e
         · exact Or.inl (Uk.mem_own (hold o hol) (by rw [e]; simp))
         · exact Or.inr ⟨e, hl⟩
       · rcases hlv x (by simpa using hx) with ⟨o, hol, e⟩ | e
         · exact Or.inl (Uk.mem_own (hold o hol) (by simp [e]))
         · exact Or.inr ⟨e, hl⟩
     · exact Or.inl (Uk.mem_own hq hx)
end

section
set_option maxRecDepth 100000
set_option maxHeartbeats 4000000
set_option linter.unusedSimpArgs false
set_option linter.unusedVariables false
open Go.RowKit Go.Sort
def touchU (u : Un) (id : Int) : Un := if (alook u.sets id).isSome = true then u else { u with sets := aset u.sets id ⟨false, [], []⟩ }
/-- The unit lies where it lay, but for what it has changed. -/
structure Uk.Like (k k' : Uk) : Prop where
 p : k'.p = k.p
 mb : k'.mb = k.mb
 bv : k'.bv = k.bv
 lv : k'.lv = k.lv
theorem Uk.Like.refl (k : Uk) : k.Like k := ⟨rfl, rfl, rfl, rfl⟩
theorem Uk.Like.trans {a b c : Uk} (h : a.Like b) (g : b.Like c) : a.Like c := ⟨g.p.trans h.p, g.mb.trans h.mb, g.bv.trans h.bv, g.lv.trans h.lv⟩
theorem UnIn.at' {w : World} {S : List Nat} {k k' : Uk} {u : Un} {bv lv : Value} (h : UnIn w k' u) (hl : k.Like k') (hb : k.bv = bv) (hv : k.lv = lv) (hS : S = k'.m) : UnAt w S k.p bv lv u := ⟨k', hl.p, hl.bv.trans hb, hl.lv.trans hv, hS, h⟩
theorem alook_aset_same {κ ν : Type} [DecidableEq κ] (m : List (κ × ν)) (k : κ) (v : ν) : alook (aset m k v) k = some v := by rw [alook_aset, if_pos rfl]
/-- What set returns. -/
def SetE (k : Uk) (u U : Un) (id : Int) (w : World) (e : Ending) (w' : World) : Prop := ∃ k' o, e = .returned (ptrO o) ∧ k.Like k' ∧ alook k'.os id = some o ∧ UnIn w' k' U ∧ Mv k.m w k'.m w' ∧ k'.cv = k.cv ∧ o.x = (alook u.sets id).getD ⟨false, [], []⟩
theorem set_w (w : World) (k : Uk) (u : Un) (id : Int) (h : UnIn w k u) (hi : I64 id) :
 Calls Tryz.prog 176 #[.pointer (some ⟨k.p, 0, none⟩), .int .i64 id] w fun e w' => SetE k u (touchU u id) id w e w' := by
 have c4 := cell_at (i := 4) (v := .map (some k.mb)) h.row rfl
 have hlk := look_os h hi
 have hue := h.look id
 have HK := Lib.hid h
 have HI := Lib.hid hi
 obtain ⟨U, hU⟩ : ∃ U, U = touchU u id := ⟨_, rfl⟩
 rw [← hU]
 unfold touchU at hU
 rw [hue] at hU
 have HUE := Lib.hid hue
 cases ho : alook k.os id with
 | some o =>
   rw [ho] at hlk hU
   simp only [Option.map_some, Option.isSome_some, if_true, Option.getD_some] at hlk hU
   have HO := Lib.hid ho
   have HU := Lib.hid hU
   clear hU h hi hue ho
   go_enter Tryz.func176, Tryz.ntmps176
   go_wp2_with fail
   go_ret
   exact ⟨k, o, rfl, Uk.Like.refl k, HO.out, by rw [HU.out]; exact HK.out, Mv.refl _ _, rfl, by rw [HUE.out, HO.out]; rfl⟩
 | none =>
   rw [ho] at hlk hU
   simp only [Option.map_none, Option.isSome_none, Bool.false_eq_true, if_false, Option.getD_none] at hlk hU
   have HU := Lib.hid hU
   have HO := Lib.hid ho
   have hmm := @run_makeMap Tryz.prog
   obtain ⟨w1, hw1⟩ : ∃ w1, w1 = w.alloc (.map #[] 0) := ⟨_, rfl⟩
   obtain ⟨W, hW⟩ : ∃ W, W = w1.alloc (.cells #[.bool false, .map (some w.heap.size), .slice none 0 0] 203) := ⟨_, rfl⟩
   have s1 : w1.heap.size = w.heap.size + 1 := by rw [hw1]; simp
   have hb : Below w.heap.size w W := by rw [hW, hw1]; exact ((Below.refl _ w).alloc (Nat.le_refl _) _).alloc (by simp) _
   have g0 : W.heap[w.heap.size]? = some (.map #[] 0) := by rw [hW]; exact (halloc _ _ (by omega)).trans (by rw [hw1]; exact heap_alloc_new _ _)
   have g1 : W.heap[w.heap.size + 1]? = some (.cells #[.bool false, .map (some w.heap.size), .slice none 0 0] 203 (0, 0)) := by rw [hW, ← s1]; exact heap_alloc_new _ _
   have hm : amap W w.heap.size kS seenV okS [] := amap_keep (amap_new w kS seenV okS) (by rw [g0]; exact (heap_alloc_new _ _).symm)
   have hws : W.heap.size = w.heap.size + 2 := by rw [hW, World.size_alloc, s1]
   have HWE := Lib.hid (show W = (w.alloc (.map #[] 0)).alloc (.cells #[.bool false, .map (some w.heap.size), .slice none 0 0] 203) by rw [hW, hw1])
   have HKW := Lib.hid (h.below hb)
   have c4' := (hb.cell (p := ⟨k.p, 4, none⟩) (block_lt_of_cell c4)).trans c4
   have HB := Lib.hid hb
   have HG1 := Lib.hid g1
   have HM := Lib.hid hm
   have HWS := Lib.hid hws
   clear hU h hi hue ho hb g0 g1 hm hws hW hw1 s1 w1
   go_enter Tryz.func176, Tryz.ntmps176
   go_upto_region 4 with fail
   rw [← HWE.out]
   clear hmm
   go_wp2_with (refine wpList_aupdate rfl _ _ _ rfl keyInt Tryz.underlying119 HKW.out.sets rfl id rfl HI.out (⟨w.heap.size + 1, w.heap.size, .slice none 0 0, ⟨false, [], []⟩⟩ : OwK) rfl ?_)
   intro W3 hm3 hg3 _
   have hon : Only [k.mb] W W3 := (Only.refl [k.mb] W).grown hg3 (fun x hx => Or.inl (by rw [Option.some.inj hx.symm]; simp))
   have honw : Only [k.mb] w W3 := (Only.of_below HB.out).trans hon
   have hmbl : k.mb < w.heap.size := amap_lt HK.out.sets
   have how : OwIn W3 ⟨w.heap.size + 1, w.heap.size, .slice none 0 0, ⟨false, [], []⟩⟩ :=
    ⟨hon.heap HG1.out (by simp; omega), amap_keep HM.out (hon.block _ (by have := HWS.out; show w.heap.size < _; omega) (by rw [List.mem_singleton]; exact Nat.ne_of_gt hmbl)), RowE.nil _ _⟩
   have h3 := HK.out.reown honw id ⟨w.heap.size + 1, w.heap.size, .slice none 0 0, ⟨false, [], []⟩⟩ (fun x hx => Or.inl (by simpa using hx)) hm3 how (Or.inr (by simp)) (Or.inr (by simp)) (fun x hx => by cases hx)
   have HFIN := Lib.hid h3
   clear hm3 hg3 hon honw hmbl how h3 c4 c4' hlk
   go_wp2_with fail
   go_ret
   exact ⟨{ k with os := aset k.os id ⟨w.heap.size + 1, w.heap.size, .slice none 0 0, ⟨false, [], []⟩⟩ }, ⟨w.heap.size + 1, w.heap.size, .slice none 0 0, ⟨false, [], []⟩⟩, rfl, ⟨rfl, rfl, rfl, rfl⟩, alook_aset_same _ _ _, by rw [HU.out]; exact HFIN.out.1, HFIN.out.2, rfl, by rw [HUE.out, HO.out]; rfl⟩
end

section
set_option maxRecDepth 100000
set_option maxHeartbeats 2000000
set_option linter.unusedSimpArgs false
set_option linter.unusedVariables false
open Go.RowKit Go.Sort
section
attribute [local go_sem ↓] loadLr_down storeLr_down
/-- What Encode returns. -/
def encT (x : Lr) : Array Value := if soundP x = false then #[.string ⟨#[]⟩, .int .i64 1] else if 16384 < (lrB x).length then #[.string ⟨#[]⟩, .int .i64 8] else #[.string ⟨(lrB x).toArray⟩, .int .i64 0]
theorem encode_w (w : World) (B : Nat) (x : Lr) (h : Chs w B x.a x.l) (hB : B ≤ w.heap.size) (hl : x.l.length ≤ 1000000) (hc : ∀ c ∈ x.l, ChLen c) :
 Calls Tryz.prog 175 #[.agg x.cs] w fun e w' => e = .returned (.tuple (encT x)) ∧ Below w.heap.size w w' := by
 obtain ⟨w0, hw0⟩ : ∃ w0, w0 = w.alloc (.cells x.cs 103) := ⟨_, rfl⟩
 have hx : w0.heap[w.heap.size]? = some (.cells x.cs 103 (0, 0)) := by rw [hw0]; exact heap_alloc_new w _
 have hb0 : Below w.heap.size w w0 := by rw [hw0]; exact box_below0 _ _ _
 have HW := Lib.hid hw0
 have HX := Lib.hid hx
 have HB0 := Lib.hid hb0
 have HS := Lib.hid (sound_any w0 B x (h.below (hb0.mono hB)) (Nat.le_trans hB hb0.size) hl hc)
 have ld0 := loadLr_at hx rfl
 cases hs : soundP x with
 | false =>
   rw [hs] at HS
   have HE := Lib.hid (show encT x = #[.string ⟨#[]⟩, .int .i64 1] by unfold encT; rw [if_pos hs])
   clear hw0 hx hb0 h hc hs
   go_enter Tryz.func175, Tryz.ntmps175
   go_upto_region 1 with fail
   rw [← HW.out]
   go_wp2_with fail
   refine HS.out.mono ?_
   rintro e w1 ⟨rfl, hb1⟩
   have HB1 := Lib.hid (HB0.out.trans (hb1.mono HB0.out.size))
   clear hb1
   go_wp2_with fail
   go_ret2
   exact ⟨by rw [HE.out]; rfl, HB1.out⟩
 | true =>
   rw [hs] at HS
   obtain ⟨⟨h1, h2, h3, h4⟩, h5⟩ := sound_of hs
   have hok : ∀ c ∈ x.l, ChOk c := fun c hm => chOk_of (hc c hm) (h5 c hm)
   have HEn := Lib.hid (fun (W : World) (hb : Below w.heap.size w W) => encode_any W B x x.num.toNat x.unit.toNat (h.below (hb.mono hB)) (Nat.le_trans hB hb.size) (by omega) (by omega) (by omega) (by omega) h2.2 hok)
   have HE := Lib.hid (show encT x = if 16384 < (lrB x).length then #[.string ⟨#[]⟩, .int .i64 8] else #[.string ⟨(lrB x).toArray⟩, .int .i64 0] by unfold encT; rw [if_neg (by rw [hs]; simp)])
   clear hw0 hx hb0 h hc hs h1 h2 h3 h4 h5 hok
   generalize lrB x = s at HEn HE
   go_enter Tryz.func175, Tryz.ntmps175
   go_upto_region 1 with fail
   rw [← HW.out]
   go_wp2_with fail
   refine HS.out.mono ?_
   rintro e w1 ⟨rfl, hb1⟩
   have HB1 := Lib.hid (HB0.out.trans (hb1.mono HB0.out.size))
   have ld1 := loadLr_at (heap_below hb1 (lt_of_block HX.out) HX.out) rfl
   clear hb1 ld0
   go_wp2_with fail
   refine (HEn.out w1 HB1.out).mono ?_
   rintro e w2 ⟨rfl, hb2⟩
   have HB2 := Lib.hid (HB1.out.trans (hb2.mono HB1.out.size))
   clear hb2 ld1
   by_cases hg : 16384 < s.length
   · have hgI : (16384 : Int) < (s.length : Int) := by omega
     rw [if_pos hg] at HE
     clear hg
     go_wp2_with fail
     go_ret2
     exact ⟨by rw [HE.out]; rfl, HB2.out⟩
   · have hgI : ¬ (16384 : Int) < (s.length : Int) := by omega
     rw [if_neg hg] at HE
     clear hg
     go_wp2_with fail
     go_ret2
     exact ⟨by rw [HE.out]; rfl, HB2.out⟩
end
end

section
set_option linter.unusedSimpArgs false
set_option linter.unusedVariables false
open Go.RowKit Go.Sort
def ownOf (u : Un) (id : Int) : Ow := (alook u.sets id).getD ⟨false, [], []⟩
def putOw (u : Un) (id : Int) (x : Ow) : Un := { u with sets := aset u.sets id x }
/-- What a change does to what the unit sees; s: the key that it concerns. -/
def applyC (u : Un) (c : Ch) (s : By) : Un :=
 if c.kind = 0 then putOw u c.id { ownOf u c.id with keys := aset (ownOf u c.id).keys s (some c.dat) }
 else if c.kind = 1 then putOw u c.id { ownOf u c.id with keys := aset (ownOf u c.id).keys s none }
 else if c.kind = 2 then putOw u c.id { ownOf u c.id with keys := aset (ownOf u c.id).keys s (some c.dat), lens := (ownOf u c.id).lens ++ [c.dat.length] }
 else if c.kind = 3 then putOw u c.id ⟨true, [], []⟩ else u
/-- What several changes do; k: the key of the first one. -/
def applyL (u : Un) (k : By) : List Ch → Un
 | [] => u
 | c :: l => l.foldl (fun u c => applyC u c c.key) (applyC u c k)
def lrU (u : Un) (l : List Ch) : Lr := ⟨549755813888, u.num, none, 0, l⟩
def tooB (u : Un) (l : List Ch) : Bool := decide (300 < l.length) || (soundP (lrU u l) && decide (16384 < (lrB (lrU u l)).length))
def addU (u : Un) (k : By) (l : List Ch) : Int × Un := if tooB u (u.chs ++ l) = true then (8, u) else (0, applyL { u with chs := u.chs ++ l } k l)
theorem applyL_snoc (u : Un) (k : By) (l : List Ch) (j : Nat) (h : j < l.length) : applyL u k (l.take (j + 1)) = applyC (applyL u k (l.take j)) l[j] (if j = 0 then k else l[j].key) := by
 cases l with
 | nil => simp at h
 | cons c l =>
   cases j with
   | zero => rfl
   | succ j =>
     have hj : j < l.length := by simpa using h
     rw [List.take_succ_cons, List.take_succ_cons, if_neg (by omega), applyL, applyL, tk_snoc l j hj, List.foldl_append]
     rfl
theorem aset_aset {κ ν : Type} [DecidableEq κ] (m : List (κ × ν)) (k : κ) (v v' : ν) : aset (aset m k v) k v' = aset m k v' := by
 have hk : k ∈ (aset m k v).map Prod.fst := by
  rw [aset_keys]; split
  · assumption
  · simp
 by_cases h : k ∈ m.map Prod.fst
 · have e1 : ∀ (m' : List (κ × ν)) w, k ∈ m'.map Prod.fst → aset m' k w = m'.map (fun p => if p.1 = k then (k, w) else p) := fun m' w h' => by unfold aset; rw [if_pos ((any_iff m' k).2 h')]
   rw [e1 (aset m k v) v' hk, e1 m v h, e1 m v' h, List.map_map]
   refine List.map_congr_left fun q _ => ?_
   simp only [Function.comp]
   by_cases e : q.1 = k
   · simp [e]
   · simp [e]
 · have hn : m.any (fun p => p.1 == k) = false := by
    rw [← Bool.not_eq_true, any_iff]; exact h
   have e1 : ∀ w, aset m k w = m ++ [(k, w)] := fun w => by unfold aset; rw [hn]; rfl
   rw [e1 v, e1 v']
   unfold aset
   rw [if_pos (by rw [List.any_append]; simp), List.map_append]
   congr 1
   · have : m.map (fun p => if p.1 = k then (k, v') else p) = m.map id := List.map_congr_left fun q hq => by
      rw [if_neg (fun e => h (List.mem_map.2 ⟨q, hq, e⟩))]; rfl
     rw [this, List.map_id]
   · simp
theorem putOw_putOw (u : Un) (id : Int) (x y : Ow) : putOw (putOw u id x) id y = putOw u id y := by unfold putOw; simp only [aset_aset]
theorem putOw_touch (u : Un) (id : Int) (y : Ow) : putOw (touchU u id) id y = putOw u id y := by
 unfold touchU
 split
 · rfl
 · exact putOw_putOw u id _ y
/-- A key is put among those that were changed. -/
theorem UnIn.keyed {w w1 : World} {k : Uk} {u : Un} {id : Int} {o : OwK} {s : By} {v : Option By} (h : UnIn w k u) (ho : alook k.os id = some o) (hm : amap w1 o.kb kS seenV okS (aset o.x.keys s v)) (hg : w.grownBy w1 (some o.kb)) :
 UnIn w1 { k with os := aset k.os id { o with x := { o.x with keys := aset o.x.keys s v } } } (putOw u id { o.x with keys := aset o.x.keys s v }) ∧ Mv k.m w ({ k with os := aset k.os id { o with x := { o.x with keys := aset o.x.keys s v } } } : Uk).m w1 := by
 have hon : Only [o.kb] w w1 := (Only.refl _ w).grown hg (fun x hx => Or.inl (by rw [Option.some.inj hx.symm]; simp))
 have hmem := alook_mem ho
 have hq := h.own_p hmem
 have hw := h.at ho
 obtain ⟨es, cl, hkm⟩ := amap_block hw.keys
 refine h.reown hon id _ (fun x hx => Or.inr ⟨o, ho, by simp at hx; simp [hx]⟩) (amap_same (amap_keep h.sets (hon.block _ (amap_lt h.sets) (fun hx => hq.2 (by simp at hx; simp [hx])))) ho rfl) ⟨hon.heap hw.row (fun hx => ?_), hm, hw.lens.only hon (fun x hx hx2 => ?_)⟩ (Or.inl ⟨o, ho, rfl⟩) (Or.inl ⟨o, ho, rfl⟩) (fun x hx => Or.inl ⟨o, ho, hx⟩)
 · rw [List.mem_singleton] at hx
   exact map_apart hw.row hkm hx
 · rw [List.mem_singleton] at hx2
   obtain ⟨cs, hc⟩ := own_block hw.lens hx
   exact map_apart hc hkm hx2
/-- The lengths of what was appended are another row now. -/
theorem UnIn.lensed {w w1 : World} {k : Uk} {u : Un} {id : Int} {o : OwK} {v' : Value} {l : List Nat} (h : UnIn w k u) (ho : alook k.os id = some o) (hon : Only o.lv.ownBlock.toList w w1) (hr : LnRow w1 0 v' l) (hov : ∀ x, v'.ownBlock = some x → o.lv.ownBlock = some x ∨ w.heap.size ≤ x) :
 UnIn (w1.setCell ⟨o.p, 2, none⟩ v') { k with os := aset k.os id { o with lv := v', x := { o.x with lens := l } } } (putOw u id { o.x with lens := l }) ∧ Mv k.m w ({ k with os := aset k.os id { o with lv := v', x := { o.x with lens := l } } } : Uk).m (w1.setCell ⟨o.p, 2, none⟩ v') := by
 have hw := h.at ho
 have hmem := alook_mem ho
 have hq := h.own_p hmem
 have hnp : o.p ∉ o.lv.ownBlock.toList := fun hx => by
  obtain ⟨cs, hc⟩ := own_block hw.lens (show o.lv.ownBlock = some o.p by simpa using hx)
  exact types_apart hc hw.row (by decide) rfl
 have hrow := hon.heap hw.row hnp
 have hT : Only (o.p :: o.lv.ownBlock.toList) w (w1.setCell ⟨o.p, 2, none⟩ v') := (hon.mono (fun x hx _ => List.mem_cons_of_mem _ hx)).setCell (Or.inl (by simp)) _
 have o1 : Only [o.p] w1 (w1.setCell ⟨o.p, 2, none⟩ v') := (Only.refl _ _).setCell (Or.inl (by simp)) _
 obtain ⟨es, cl, hkm⟩ := amap_block hw.keys
 have hTm : ∀ x ∈ o.p :: o.lv.ownBlock.toList, x ∈ o.m := fun x hx => by
  rcases List.mem_cons.1 hx with rfl | hx
  · simp
  · simp at hx; simp [hx]
 refine h.reown hT id _ (fun x hx => Or.inr ⟨o, ho, hTm x hx⟩) (amap_same (amap_keep h.sets (hT.block _ (amap_lt h.sets) (fun hx => hq.2 (hTm _ hx)))) ho rfl) ⟨?_, amap_keep hw.keys (hT.block _ (amap_lt hw.keys) (fun hx => ?_)), hr.only o1 (fun x hx hx2 => ?_)⟩ (Or.inl ⟨o, ho, rfl⟩) (Or.inl ⟨o, ho, rfl⟩) (fun x hx => ?_)
 · have := cell_row_any w1 o.p 2 _ _ _ v' hrow
   exact this
 · rcases List.mem_cons.1 hx with e | hx
   · exact map_apart hw.row hkm e.symm
   · obtain ⟨cs, hc⟩ := own_block hw.lens (show o.lv.ownBlock = some o.kb by simpa using hx)
     exact map_apart hc hkm rfl
 · rw [List.mem_singleton] at hx2
   rcases hov x hx with q | q
   · exact hnp (by rw [← hx2]; simpa using q)
   · have := hw.lt o.p (by simp); omega
 · rcases hov x hx with q | q
   · exact Or.inl ⟨o, ho, q⟩
   · exact Or.inr q
/-- A data set is emptied. -/
theorem UnIn.emptied {w V w1 : World} {k : Uk} {u : Un} {id : Int} (h : UnIn w k u) (hb : Below w.heap.size w V) (g1 : V.heap[w.heap.size + 1]? = some (.cells #[.bool true, .map (some w.heap.size), .slice none 0 0] 203 (0, 0))) (hk : amap V w.heap.size kS seenV okS [])
 (hm : amap w1 k.mb (Value.int .i64) ptrO I64 (aset k.os id ⟨w.heap.size + 1, w.heap.size, .slice none 0 0, ⟨true, [], []⟩⟩)) (hg : V.grownBy w1 (some k.mb)) :
 UnIn w1 { k with os := aset k.os id ⟨w.heap.size + 1, w.heap.size, .slice none 0 0, ⟨true, [], []⟩⟩ } (putOw u id ⟨true, [], []⟩) ∧ Mv k.m w ({ k with os := aset k.os id ⟨w.heap.size + 1, w.heap.size, .slice none 0 0, ⟨true, [], []⟩⟩ } : Uk).m w1 := by
 have hon : Only [k.mb] V w1 := (Only.refl [k.mb] V).grown hg (fun x hx => Or.inl (by rw [Option.some.inj hx.symm]; simp))
 have honw : Only [k.mb] w w1 := (Only.of_below hb).trans hon
 have hmbl : k.mb < w.heap.size := amap_lt h.sets
 exact h.reown honw id ⟨w.heap.size + 1, w.heap.size, .slice none 0 0, ⟨true, [], []⟩⟩ (fun x hx => Or.inl (by simpa using hx)) hm
  ⟨hon.heap g1 (by simp; omega), amap_keep hk (hon.block _ (amap_lt hk) (by rw [List.mem_singleton]; exact Nat.ne_of_gt hmbl)), RowE.nil _ _⟩ (Or.inr (by simp)) (Or.inr (by simp)) (fun x hx => by cases hx)
/-- The changes are another row now. -/
theorem UnIn.setC {w : World} {k : Uk} {u : Un} (h : UnIn w k u) {v' : Value} {l : List Ch} (hr : ChRow w 0 v' l) (hn : l.length ≤ 1000) (hov : ∀ x, v'.ownBlock = some x → x ∉ k.m) :
 UnIn (w.setCell ⟨k.p, 3, none⟩ v') { k with cv := v' } { u with chs := l } ∧ Only [k.p] w (w.setCell ⟨k.p, 3, none⟩ v') := by
 have o1 : Only [k.p] w (w.setCell ⟨k.p, 3, none⟩ v') := (Only.refl _ _).setCell (Or.inl (by simp)) _
 obtain ⟨es, cl, hmb⟩ := amap_block h.sets
 refine ⟨⟨?_, hr.only o1 (fun x hx hm => ?_), h.reads.only o1 (fun x hx hm => ?_), amap_keep h.sets (o1.block _ (amap_lt h.sets) (fun hm => ?_)), h.eq, fun q hq => (h.owns q hq).only o1 (fun x hx hm => ?_), h.apart, h.num, ⟨hn, h.few.2⟩⟩, o1⟩
 · have := cell_row_any w k.p 3 _ _ _ v' h.row
   exact this
 · rw [List.mem_singleton] at hm
   exact hov x hx (by rw [hm]; simp)
 · rw [List.mem_singleton] at hm
   obtain ⟨cs, hc⟩ := own_block h.reads hx
   exact types_apart hc h.row (by decide) hm
 · rw [List.mem_singleton] at hm
   exact map_apart h.row hmb hm.symm
 · rw [List.mem_singleton] at hm
   exact (h.own_p hq).1 (by rw [← hm]; exact hx)
end

end Go.Proofs.YtcefkngblddpoaaGreatDoor
