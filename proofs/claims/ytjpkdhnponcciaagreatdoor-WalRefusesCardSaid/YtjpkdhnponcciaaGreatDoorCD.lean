/-
  Rows of structs that a call owns, for structs of any length: reading them, and an append of one. No condition but lengths.
  Walks: the head is written into a copy. Condition: the copy lies in memory.
  Walks: something is done with each copy. Condition: the log and its copies lie in memory.
  Walks: the heads of both copies are written; a list and then the head are written into a copy. Condition: the log and its copies lie in memory.
  Walks: a copy is made like another one. Condition: both lie in memory, apart.
-/
import Derived.Test.YtjpkdhnponcciaaGreatDoorCC
import Derived.Maps.AppendAt
import Derived.Maps.OwnIn
import Derived.Deep.RegionHeld3
namespace Go.Proofs.YtjpkdhnponcciaaGreatDoor

section
open Go.RowKit Go.Sort

/-- How a struct lies, cell by cell. -/
structure Enc {α : Type} (P : Program) (enc : α → Array Value) (t e : TypeId) (z : Nat) : Prop where
  ht : P.underlying t = some (.slice e)
  hi : ∃ i zv, P.info? e = some i ∧ i.zero = some zv ∧ i.size = z ∧ i.bytes ≤ 100 ∧ zv.cells.size = z ∧ 0 < z
  len : ∀ x, (enc x).size = z
  one : ∀ x, ∀ u ∈ (enc x).toList, u.oneCell' = true
section
variable {α : Type} {P : Program} {enc : α → Array Value} {t e : TypeId} {z : Nat}
def flatE (enc : α → Array Value) (l : List α) : List Value := l.flatMap fun x => (enc x).toList
theorem flatE_app (enc : α → Array Value) (l m : List α) : flatE enc (l ++ m) = flatE enc l ++ flatE enc m := by simp [flatE]
theorem flatE_len (E : Enc P enc t e z) : ∀ l : List α, (flatE enc l).length = l.length * z
  | [] => by simp [flatE]
  | x :: l => by
    have h1 := flatE_len E l
    have h2 := E.len x
    unfold flatE at h1 ⊢
    rw [List.flatMap_cons, List.length_append, h1, List.length_cons, Array.length_toList, h2, Nat.add_mul]; omega
theorem flatE_get (E : Enc P enc t e z) : ∀ (l : List α) (i : Nat) (hi : i < l.length) (j : Nat), j < z → (flatE enc l)[i * z + j]? = (enc l[i])[j]?
  | x :: l, 0, _, j, hj => by
    have h2 := E.len x
    unfold flatE
    rw [List.flatMap_cons, List.getElem?_append_left (by rw [Array.length_toList, h2]; omega)]
    simp
  | x :: l, i + 1, hi, j, hj => by
    have h2 := E.len x
    have ih := flatE_get E l i (by simpa using hi) j hj
    unfold flatE at ih ⊢
    rw [List.flatMap_cons, List.getElem?_append_right (by rw [Array.length_toList, h2, Nat.add_mul]; omega), Array.length_toList, h2, Nat.add_mul]
    rw [show i * z + 1 * z + j - z = i * z + j by omega, ih]
    rfl
def RowE (enc : α → Array Value) (e : TypeId) (z : Nat) (w : World) (base : Nat) (v : Value) (l : List α) : Prop := w.ownsRow base e z v l.length (flatE enc l)
theorem RowE.nil (w : World) (base : Nat) : RowE enc e z w base (.slice none 0 0) [] := own_nil _ _ _ _
theorem RowE.below {w w' : World} {base : Nat} {v : Value} {l : List α} (h : RowE enc e z w base v l) (hb : Below w.heap.size w w') : RowE enc e z w' base v l := own_below h hb
theorem RowE.only {w w' : World} {base : Nat} {v : Value} {l : List α} {S : List Nat} (h : RowE enc e z w base v l) (ho : Only S w w') (hs : ∀ k, v.ownBlock = some k → k ∉ S) : RowE enc e z w' base v l := own_only h ho hs
theorem RowE.mono {w : World} {base base' : Nat} {v : Value} {l : List α} (h : RowE enc e z w base v l) (hb : base' ≤ base) : RowE enc e z w base' v l := own_mono h hb
theorem RowE.cells (E : Enc P enc t e z) {w : World} {base : Nat} {v : Value} {l : List α} (h : RowE enc e z w base v l) : ∃ a cap, v = .slice a l.length cap ∧ l.length ≤ cap ∧ cap ≤ maxLen ∧
    (l ≠ [] → ∃ g, a = some ⟨g, 0, none⟩ ∧ v.ownBlock = some g ∧ base ≤ g ∧ g < w.heap.size ∧ ∀ i (hi : i < l.length) j u, (enc l[i])[j]? = some u → w.cell? ⟨g, i * z + j, none⟩ = some u) := by
  rcases h.2 with ⟨rfl, hn⟩ | ⟨g, cap, cur, rfl, hbase, hblk, q1, q2, q3, q4⟩
  · have : l = [] := List.length_eq_zero_iff.1 (by simpa using hn)
    subst this; exact ⟨none, 0, rfl, Nat.le_refl _, by simp, fun h => absurd rfl h⟩
  · refine ⟨_, cap, rfl, q1, q2, fun _ => ⟨g, rfl, rfl, hbase, lt_of_block hblk, fun i hi j u hu => ?_⟩⟩
    have hj : j < z := by
      have := (Array.getElem?_eq_some_iff.1 hu).1
      rwa [E.len] at this
    have e1 := flatE_get E l i hi j hj
    rw [← q4, List.getElem?_take, if_pos (by
      have : i * z + z ≤ l.length * z := by rw [← Nat.succ_mul]; exact Nat.mul_le_mul_right _ hi
      omega)] at e1
    rw [cell_of_row w g _ cur e (0, 0) hblk]
    rw [hu] at e1
    simpa using e1
theorem RowE.spell (E : Enc P enc t e z) {w : World} {base : Nat} {v : Value} {l : List α} (h : RowE enc e z w base v l) : ∃ a cap, v = .slice a l.length cap := by
  obtain ⟨a, cap, hv, _⟩ := h.cells E
  exact ⟨a, cap, hv⟩
/-- An append of one struct that lies in a block of its own. -/
theorem run_append_one (E : Enc P enc t e z) (w : World) (base : Nat) (ty : TypeId) (v : Value) (l : List α) (x : α) (hown : RowE enc e z w base v l) (g : Nat) {cs : Array Value} {t' : TypeId} {fr : Nat × Nat} (hg : w.heap[g]? = some (.cells cs t' fr)) (hcs : cs = enc x) (hlen : l.length ≤ 1000000) (hbase : base ≤ w.heap.size) :
    ∃ v' w', (Builtin.append_ #[t, t] ty #[v, .slice (some ⟨g, 0, none⟩) 1 1]).run P w = .ok v' w' ∧ RowE enc e z w' base v' (l ++ [x]) ∧ w.grownBy w' v.ownBlock ∧ (v'.ownBlock = v.ownBlock ∨ v'.ownBlock = some w.heap.size) := by
  subst hcs
  obtain ⟨i, zv, hi, hz, hs, hby, hzs, h0⟩ := E.hi
  obtain ⟨v', w', h1, h2, h3, _, h5⟩ := run_append_own_at (P := P) (w := w) base t ty e i zv z i.bytes E.ht hi hz hs rfl hzs h0 v l.length (flatE enc l) hown ⟨g, 0, none⟩ 1 1 (enc x).toList (by rw [Array.length_toList, E.len]; omega) (news_at hg) (E.one x) (by simp only [maxLen]; omega) (by
    have : (l.length + 1) * i.bytes ≤ 1000001 * 100 := Nat.mul_le_mul (by omega) hby
    omega) hbase
  refine ⟨v', w', h1, ?_, h3, h5⟩
  show w'.ownsRow base e z v' (l ++ [x]).length (flatE enc (l ++ [x]))
  rw [List.length_append, flatE_app]
  have e1 : flatE enc [x] = (enc x).toList := by simp [flatE]
  rw [e1]
  exact h2
theorem wpList_append_one {ops : Array Oper} {rest : List Oper} {o : Oper} {a : Act} {Q : Exit → Act → World → Prop} {w : World} (hgd : o.guard = none) (s x : Operand) (ho : o.op = .call { callee := .builtin .append, args := #[s, x], argTypes := #[t, t] }) (E : Enc P enc t e z)
    (base : Nat) (v : Value) (l : List α) (y : α) (hs : a.eval s = v) (hown : RowE enc e z w base v l) (g : Nat) {cs : Array Value} {t' : TypeId} {fr : Nat × Nat} (hx : a.eval x = .slice (some ⟨g, 0, none⟩) 1 1) (hg : w.heap[g]? = some (.cells cs t' fr)) (hcs : cs = enc y) (hlen : l.length ≤ 1000000) (hbase : base ≤ w.heap.size)
    (h : ∀ v' w', RowE enc e z w' base v' (l ++ [y]) → w.grownBy w' v.ownBlock → (v'.ownBlock = v.ownBlock ∨ v'.ownBlock = some w.heap.size) → wpList P ops Q rest (a.put o.dst v') w') : wpList P ops Q (o :: rest) a w := by
  refine wpList_plain hgd fun K hK => ?_
  obtain ⟨v', w', hr, h2, h3, h4⟩ := run_append_one E w base o.type v l y hown g hg hcs hlen hbase
  unfold Oper.wp execOp
  simp only [ho, resolve, invoke, builtin, Sem.run_bind, Sem.run_pure, Result.andThen_ok, List.map_toArray, List.map_cons, List.map_nil, hs, hx, hr]
  exact hK _ _ (h v' w' h2 h3 h4)
theorem step_append_one {ops : Array Oper} {o : Oper} {a : Act} {K : Act → World → Prop} {Q : Exit → Act → World → Prop} {E' : Prop} {w : World} (hg' : o.guard = none) (s x : Operand) (ho : o.op = .call { callee := .builtin .append, args := #[s, x], argTypes := #[t, t] }) (E : Enc P enc t e z)
    (base : Nat) (v : Value) (l : List α) (y : α) (hs : a.eval s = v) (hown : RowE enc e z w base v l) (g : Nat) {cs : Array Value} {t' : TypeId} {fr : Nat × Nat} (hx : a.eval x = .slice (some ⟨g, 0, none⟩) 1 1) (hg : w.heap[g]? = some (.cells cs t' fr)) (hcs : cs = enc y) (hlen : l.length ≤ 1000000) (hbase : base ≤ w.heap.size)
    (h : ∀ v' w', RowE enc e z w' base v' (l ++ [y]) → w.grownBy w' v.ownBlock → (v'.ownBlock = v.ownBlock ∨ v'.ownBlock = some w.heap.size) → K (a.put o.dst v') w') : if Region.wanted o (yielded ops a.tmps) = true then Oper.wp P o a w K Q else E' := by
  have hw : Region.wanted o (yielded ops a.tmps) = true := by simp [Region.wanted, hg']
  rw [if_pos hw]
  obtain ⟨v', w', hr, h2, h3, h4⟩ := run_append_one E w base o.type v l y hown g hg hcs hlen hbase
  unfold Oper.wp
  simp [execOp, ho, resolve, invoke, builtin, hs, hx, hr, Result.andThen]
  exact h v' w' h2 h3 h4
end
end

section
open Go.RowKit Go.Sort

theorem encWt : Enc Tryz.prog (fun x : Nat × By => wtC x.1 x.2) 139 135 2 := by
  obtain ⟨i, h1, h2, h3, h4⟩ := info_parts (show (Tryz.prog.info? 135).map (fun i => (i.zero, i.size, i.bytes)) = some (some (.agg #[.int .i64 0, .string ⟨#[]⟩]), 2, 24) by kernel_rfl)
  exact ⟨Tryz.underlying139, ⟨i, _, h1, h2, h3, by omega, rfl, by omega⟩, fun _ => rfl, fun x u hu => by simp at hu; rcases hu with rfl | rfl <;> rfl⟩
abbrev WtRow (w : World) (base : Nat) (v : Value) (l : List (Nat × By)) : Prop := RowE (fun x : Nat × By => wtC x.1 x.2) 135 2 w base v l
theorem wts_of_row {w : World} {base : Nat} {v : Value} {l : List (Nat × By)} (h : WtRow w base v l) (S : List Nat) (hS : ∀ x ∈ S, x < base) : ∃ a cap, v = .slice a l.length cap ∧ l.length ≤ cap ∧ Wts w S a l := by
  obtain ⟨a, cap, hv, hc, _, h2⟩ := h.cells encWt
  refine ⟨a, cap, hv, hc, ⟨fun hl => ?_⟩⟩
  obtain ⟨g, rfl, _, hb, hg, hx⟩ := h2 hl
  refine ⟨g, 0, rfl, hg, fun hm => by have := hS g hm; omega, fun i hi => ?_⟩
  have h0 := hx i hi 0 (.int .i64 l[i].1) rfl
  have h1 := hx i hi 1 (.string ⟨l[i].2.toArray⟩) rfl
  rw [Nat.zero_add]
  exact ⟨h0, h1⟩
/-- One write in a block of its own. -/
theorem wts_one {w : World} {g n : Nat} {s : By} {t : TypeId} {fr : Nat × Nat} (hg : w.heap[g]? = some (.cells (wtC n s) t fr)) (S : List Nat) (hS : g ∉ S) : Wts w S (some ⟨g, 0, none⟩) [(n, s)] :=
  ⟨fun _ => ⟨g, 0, rfl, lt_of_block hg, hS, fun i hi => by
    obtain rfl : i = 0 := by simpa using hi
    exact ⟨cell_at (i := 0) hg rfl, cell_at (i := 1) hg rfl⟩⟩⟩
theorem nilA_w (p : Nat) (W : World) : (nilAhead 513 25 (memV p) "Write").run Tryz.prog W = .ok (some false) W := by kernel_rfl
theorem meth_w (p : Nat) (W : World) : (method 513 25 (memV p) "Write").run Tryz.prog W = .ok (303, memV p) W := by kernel_rfl
section
attribute [local go_sem ↓] loadWt_down storeWt_down loadHd_down storeHd_down
set_option maxRecDepth 100000 in
set_option maxHeartbeats 4000000 in
theorem headw_w (w : World) (c : Nat) (k : Bk) (h : Hw) (M : Mm) (ok : HwOk h) (hh : w.heap[c]? = some (.cells h.cs 105 (0, 0))) (hM : MmAt w k M) (hc : c ∉ k.s) :
    Calls Tryz.prog 85 #[ifC k (some M), .pointer (some ⟨c, 0, none⟩)] w fun e w' => e = .returned (.int .i64 (M.wr [(0, h.s)]).1) ∧ MmAt w' k (M.wr [(0, h.s)]).2 ∧ Only k.s w w' := by
  have ld := loadHd_at (w := w.drew) hh rfl
  have HM := Lib.hid hM
  have HH := Lib.hid hh
  have hsl : h.s.length ≤ 1000000 := by
    have := sectL_len h.b (by have := h.b_len ok; omega)
    show (sectL h.b).length ≤ _; omega
  have hlt : k.p < w.heap.size ∧ k.rb < w.heap.size ∧ k.mb < w.heap.size := hM.lt
  have HLT := Lib.hid hlt
  clear hh hM hlt
  have nA := nilA_w k.p
  have mE := meth_w k.p
  unfold ifC
  go_enter Tryz.func85, Tryz.ntmps85
  go_wp2_with fail
  go_region_held3 (fun w' => (loadHd ⟨c, 0, none⟩).run Tryz.prog w' = .ok (.agg h.cs) w') (first | exact wl | exact ql | exact gl | exact ld | fail)
    ((first
      | (go_at_call 81
         refine (hwrite_w h ok _).mono ?_
         rintro e w2 ⟨rfl, hb2⟩
         have hb2 : Below w.heap.size w w2 := below_drew1.trans hb2
         have gl := loadHd_at (heap_below hb2 (lt_of_block HH.out) HH.out) rfl
         have hb3 : Below w2.heap.size w2 (w2.alloc (.cells (wtC 0 h.s) 135)) := box_below0 _ _ _
         have HG3 := Lib.hid (heap_alloc_new w2 (.cells (wtC 0 h.s) 135))
         have ql := loadHd_at (heap_below (hb2.trans (hb3.mono hb2.size)) (lt_of_block HH.out) HH.out) rfl
         have HB3 := Lib.hid (hb2.trans (hb3.mono hb2.size))
         have HS2 := Lib.hid hb2.size
         clear hb2 hb3)
      | (go_at_call 303
         refine (write_w (w2.alloc (.cells (wtC 0 h.s) 135)) k M (some ⟨w2.heap.size, 0, none⟩) 1 [(0, h.s)] (HM.out.below HB3.out) (wts_one HG3.out k.s (fun hm => by
           have h1 := HS2.out
           have h2 := HLT.out
           simp only [Bk.s, List.mem_cons, List.not_mem_nil, or_false] at hm
           omega)) (by simp) (fun x hx => by simp at hx; subst hx; exact ⟨by simp, hsl⟩)).mono ?_
         rintro e w4 ⟨rfl, hN, ho4⟩
         have HO4 := Lib.hid ((Only.of_below (S := k.s) HB3.out).trans ho4)
         have wl := loadHd_at (HO4.out.heap HH.out hc) rfl
         have HN := Lib.hid hN
         clear hN ho4)
      | fail))
  all_goals
    go_wp2_with fail
    go_ret
    exact ⟨rfl, HN.out, HO4.out⟩
end
end

section
open Go.RowKit Go.Sort

/-- The blocks of a copy that is there. -/
def cS (k : Bk) : Cp → List Nat
  | none => []
  | some _ => k.s
theorem cS_sub {k : Bk} {c : Cp} {x : Nat} (h : x ∈ cS k c) : x ∈ k.s := by
  cases c with
  | none => cases h
  | some M => exact h
theorem cS_eq {k : Bk} {c d : Cp} (h : c.isNone = d.isNone) : cS k c = cS k d := by cases c <;> cases d <;> simp_all [cS]
theorem ifC_eq {k : Bk} {c d : Cp} (h : c.isNone = d.isNone) : ifC k c = ifC k d := by cases c <;> cases d <;> simp_all [ifC]
def oneV (f : Mm → Int × Mm) : Cp → Int × Cp
  | none => (0, none)
  | some M => ((f M).1, some (f M).2)
theorem eachV_one (f : Mm → Int × Mm) (A B : Cp) : eachV f A B = (if (oneV f A).1 ≠ 0 then ((oneV f A).1, (oneV f A).2, B) else ((oneV f B).1, (oneV f A).2, (oneV f B).2)) := by
  cases A <;> cases B <;> simp only [eachV, oneV] <;> (repeat' split) <;> simp_all
theorem oneV_none (f : Mm → Int × Mm) (A : Cp) : (oneV f A).2.isNone = A.isNone := by cases A <;> rfl
/-- Where the loop over the copies stands. -/
structure EaSt (w : World) (ka kb : Bk) (A B : Cp) (f : Mm → Int × Mm) (F : List Nat) (j : Nat) (W : World) : Prop where
  a : CpAt W ka (if j = 0 then A else (oneV f A).2)
  b : CpAt W kb (if j = 2 then (oneV f B).2 else B)
  ea : 1 ≤ j → (oneV f A).1 = 0
  eb : j = 2 → (oneV f B).1 = 0
  only : Only F w W
theorem infoLog2 : (Tryz.prog.info? 101).map (·.size) = some 2 := by kernel_rfl
def loadA2 (p : Addr) : Sem Value := loadVar 101 p
theorem loadA2_down (p : Addr) : loadVar 101 p = loadA2 p := rfl
theorem loadA2_at {w : World} {g : Nat} {cs : Array Value} {t : TypeId} {fr : Nat × Nat} (hg : w.heap[g]? = some (.cells cs t fr)) (hi : cs.size = 2) : (loadA2 ⟨g, 0, none⟩).run Tryz.prog w = .ok (.agg cs) w :=
  run_loadVar_row (P := Tryz.prog) w g t 101 cs fr _ hg Tryz.underlying101 rfl (by rw [infoLog2, hi])
theorem idx0 (x y : Value) (w : World) : (Instr.index 101 (.agg #[x, y]) (.int .i64 0)).run Tryz.prog w = .ok x w := by kernel_rfl
theorem idx1 (x y : Value) (w : World) : (Instr.index 101 (.agg #[x, y]) (.int .i64 1)).run Tryz.prog w = .ok y w := by kernel_rfl
section
attribute [local go_sem ↓] loadA2_down
set_option maxRecDepth 100000 in
set_option maxHeartbeats 4000000 in
theorem eachH_w (w : World) (lb : Nat) (ka kb : Bk) (A B : Cp) (f : Mm → Int × Mm) (hp : Nat) (hL : w.heap[lb]? = some (.cells #[ifC ka A, ifC kb B] 103 (0, 0))) (ha : CpAt w ka A) (hb : CpAt w kb B) (hd : ∀ x ∈ ka.s, x ∉ kb.s)
    (HF : ∀ k M W, (k = ka ∨ k = kb) → Only (cS ka A ++ cS kb B) w W → MmAt W k M → Calls Tryz.prog 85 #[ifC k (some M), .pointer (some ⟨hp, 0, none⟩)] W fun e w' => e = .returned (.int .i64 (f M).1) ∧ MmAt w' k (f M).2 ∧ Only k.s W w') :
    Calls Tryz.prog 78 #[.pointer (some ⟨lb, 0, none⟩), .func (.func 85) #[] #[.pointer (some ⟨hp, 0, none⟩)]] w fun e w' =>
      e = .returned (.int .i64 (eachV f A B).1) ∧ CpAt w' ka (eachV f A B).2.1 ∧ CpAt w' kb (eachV f A B).2.2 ∧ Only (cS ka A ++ cS kb B) w w' := by
  have ld := loadA2_at hL rfl
  have HFa := Lib.hid (show ∀ M, A = some M → ∀ x ∈ ka.s, x ∈ cS ka A ++ cS kb B from fun M e x hx => by rw [e]; exact List.mem_append_left _ hx)
  have HFb := Lib.hid (show ∀ M, B = some M → ∀ x ∈ kb.s, x ∈ cS ka A ++ cS kb B from fun M e x hx => by rw [e]; exact List.mem_append_right _ hx)
  generalize cS ka A ++ cS kb B = F at *
  have HE := Lib.hid (eachV_one f A B)
  have HF := Lib.hid HF
  have HD := Lib.hid hd
  have HS := Lib.hid (show EaSt w ka kb A B f F 0 w from ⟨by simpa using ha, by simpa using hb, fun h => by omega, fun h => by omega, Only.refl _ _⟩)
  clear hL ha hb hd
  generalize eachV f A B = q at HE ⊢
  go_enter Tryz.func78, Tryz.ntmps78
  go_wp2_with fail
  clear ld
  go_loopw [12] (fun i wr => ∃ j : Nat, j ≤ 2 ∧ i = .int .i64 j ∧ EaSt w ka kb A B f F j wr) (fun i _ => 3 - (intOf i).toNat)
  case atStart => exact ⟨0, by omega, rfl, HS.out⟩
  case round =>
    clear HS
    obtain ⟨j, hj, rfl, hs⟩ := hrel
    have i0 := idx0
    have i1 := idx1
    rcases (show j = 0 ∨ j = 1 ∨ j = 2 by omega) with rfl | rfl | rfl
    · cases hA : A with
      | none =>
        have HN := Lib.hid (show EaSt w ka kb A B f F 1 wr from ⟨by have := hs.a; rw [hA] at this ⊢; exact this, hs.b, fun _ => by rw [hA]; rfl, fun h => by omega, hs.only⟩)
        clear hs HFa HFb
        rw [show ifC ka none = .nilIface from rfl]
        go_wp2_with fail
        go_roundw
        case rel => exact ⟨1, by omega, by simp, hA ▸ HN.out⟩
        case measure => simp [intOf]
      | some M =>
        have hM : MmAt wr ka M := hs.a M (by rw [if_pos rfl]; exact hA)
        have hIf : ifC ka (some M) = .iface 25 (memV ka.p) := rfl
        have HC := Lib.hid (HF.out ka M wr (Or.inl rfl) hs.only hM)
        have HN := Lib.hid (fun (W : World) (hMW : MmAt W ka (f M).2) (ho : Only ka.s wr W) (h0 : (f M).1 = 0) => show EaSt w ka kb A B f F 1 W from
          ⟨fun N e => by rw [hA] at e; cases e; exact hMW, fun N e => (hs.b N e).only ho (fun x hx hm => HD.out x hm hx), fun _ => by rw [hA]; exact h0, fun h => by omega, hs.only.then ho (fun x hx => Or.inl (HFa.out M hA x hx))⟩)
        have HX := Lib.hid (fun (W : World) (hMW : MmAt W ka (f M).2) (ho : Only ka.s wr W) (h0 : (f M).1 ≠ 0) => show (f M).1 = q.1 ∧ CpAt W ka q.2.1 ∧ CpAt W kb q.2.2 ∧ Only F w W by
          rw [HE.out, hA, if_pos (show (oneV f (some M)).1 ≠ 0 from h0)]
          exact ⟨rfl, fun N e => (by cases e; exact hMW), fun N e => (hs.b N e).only ho (fun x hx hm => HD.out x hm hx), hs.only.then ho (fun x hx => Or.inl (HFa.out M hA x hx))⟩)
        clear hs hM HF HFa HFb
        generalize f M = r at HC HN HX
        obtain ⟨er, N⟩ := r
        simp only at HC HN HX
        rw [hIf] at HC ⊢
        clear hIf
        go_wp2_with fail
        refine HC.out.mono ?_
        rintro e w2 ⟨rfl, hN, ho⟩
        by_cases he : er = 0
        · subst he
          have HR := Lib.hid (HN.out w2 hN ho rfl)
          clear hN ho
          go_wp2_with fail
          go_roundw
          case rel => exact ⟨1, by omega, by simp, hA ▸ HR.out⟩
          case measure => simp [intOf]
        · have hb0 : (er != 0) = true := by rw [bne_iff_ne]; exact he
          have HR := Lib.hid (HX.out w2 hN ho he)
          clear hN ho he
          go_wp2_with fail
          go_ret
          exact ⟨by rw [HR.out.1]; rfl, HR.out.2⟩
    · cases hB : B with
      | none =>
        have HN := Lib.hid (show EaSt w ka kb A B f F 2 wr from ⟨hs.a, by have := hs.b; rw [hB] at this ⊢; exact this, fun _ => hs.ea (by omega), fun _ => by rw [hB]; rfl, hs.only⟩)
        clear hs HFa HFb
        rw [show ifC kb none = .nilIface from rfl]
        go_wp2_with fail
        go_roundw
        case rel => exact ⟨2, by omega, by simp, hB ▸ HN.out⟩
        case measure => simp [intOf]
      | some M =>
        have hM : MmAt wr kb M := hs.b M (by rw [if_neg (by omega)]; exact hB)
        have hIf : ifC kb (some M) = .iface 25 (memV kb.p) := rfl
        have HC := Lib.hid (HF.out kb M wr (Or.inr rfl) hs.only hM)
        have HN := Lib.hid (fun (W : World) (hMW : MmAt W kb (f M).2) (ho : Only kb.s wr W) (h0 : (f M).1 = 0) => show EaSt w ka kb A B f F 2 W from
          ⟨fun N e => (hs.a N e).only ho (fun x hx hm => HD.out x hx hm), fun N e => by rw [hB] at e; cases e; exact hMW, fun _ => hs.ea (by omega), fun _ => by rw [hB]; exact h0, hs.only.then ho (fun x hx => Or.inl (HFb.out M hB x hx))⟩)
        have HX := Lib.hid (fun (W : World) (hMW : MmAt W kb (f M).2) (ho : Only kb.s wr W) (h0 : (f M).1 ≠ 0) => show (f M).1 = q.1 ∧ CpAt W ka q.2.1 ∧ CpAt W kb q.2.2 ∧ Only F w W by
          rw [HE.out, hB, if_neg (by rw [hs.ea (by omega)]; simp)]
          exact ⟨rfl, fun N e => (hs.a N e).only ho (fun x hx hm => HD.out x hx hm), fun N e => (by cases e; exact hMW), hs.only.then ho (fun x hx => Or.inl (HFb.out M hB x hx))⟩)
        clear hs hM HF HFa HFb
        generalize f M = r at HC HN HX
        obtain ⟨er, N⟩ := r
        simp only at HC HN HX
        rw [hIf] at HC ⊢
        clear hIf
        go_wp2_with fail
        refine HC.out.mono ?_
        rintro e w2 ⟨rfl, hN, ho⟩
        by_cases he : er = 0
        · subst he
          have HR := Lib.hid (HN.out w2 hN ho rfl)
          clear hN ho
          go_wp2_with fail
          go_roundw
          case rel => exact ⟨2, by omega, by simp, hB ▸ HR.out⟩
          case measure => simp [intOf]
        · have hb0 : (er != 0) = true := by rw [bne_iff_ne]; exact he
          have HR := Lib.hid (HX.out w2 hN ho he)
          clear hN ho he
          go_wp2_with fail
          go_ret
          exact ⟨by rw [HR.out.1]; rfl, HR.out.2⟩
    · have HR := Lib.hid (show (0 : Int) = q.1 ∧ CpAt wr ka q.2.1 ∧ CpAt wr kb q.2.2 ∧ Only F w wr by
        rw [HE.out, if_neg (by rw [hs.ea (by omega)]; simp)]
        exact ⟨(hs.eb rfl).symm, hs.a, hs.b, hs.only⟩)
      clear hs HF HFa HFb
      go_wp2_with fail
      go_ret
      exact ⟨by rw [← HR.out.1]; rfl, HR.out.2⟩
set_option maxRecDepth 100000 in
set_option maxHeartbeats 4000000 in
theorem eachA_w (w : World) (lb : Nat) (ka kb : Bk) (A B : Cp) (f : Mm → Int × Mm) (lp hp : Nat) (hL : w.heap[lb]? = some (.cells #[ifC ka A, ifC kb B] 103 (0, 0))) (ha : CpAt w ka A) (hb : CpAt w kb B) (hd : ∀ x ∈ ka.s, x ∉ kb.s)
    (HF : ∀ k M W, (k = ka ∨ k = kb) → Only (cS ka A ++ cS kb B) w W → MmAt W k M → Calls Tryz.prog 79 #[ifC k (some M), .pointer (some ⟨lp, 0, none⟩), .pointer (some ⟨hp, 0, none⟩)] W fun e w' => e = .returned (.int .i64 (f M).1) ∧ MmAt w' k (f M).2 ∧ Only k.s W w') :
    Calls Tryz.prog 78 #[.pointer (some ⟨lb, 0, none⟩), .func (.func 79) #[] #[.pointer (some ⟨lp, 0, none⟩), .pointer (some ⟨hp, 0, none⟩)]] w fun e w' =>
      e = .returned (.int .i64 (eachV f A B).1) ∧ CpAt w' ka (eachV f A B).2.1 ∧ CpAt w' kb (eachV f A B).2.2 ∧ Only (cS ka A ++ cS kb B) w w' := by
  have ld := loadA2_at hL rfl
  have HFa := Lib.hid (show ∀ M, A = some M → ∀ x ∈ ka.s, x ∈ cS ka A ++ cS kb B from fun M e x hx => by rw [e]; exact List.mem_append_left _ hx)
  have HFb := Lib.hid (show ∀ M, B = some M → ∀ x ∈ kb.s, x ∈ cS ka A ++ cS kb B from fun M e x hx => by rw [e]; exact List.mem_append_right _ hx)
  generalize cS ka A ++ cS kb B = F at *
  have HE := Lib.hid (eachV_one f A B)
  have HF := Lib.hid HF
  have HD := Lib.hid hd
  have HS := Lib.hid (show EaSt w ka kb A B f F 0 w from ⟨by simpa using ha, by simpa using hb, fun h => by omega, fun h => by omega, Only.refl _ _⟩)
  clear hL ha hb hd
  generalize eachV f A B = q at HE ⊢
  go_enter Tryz.func78, Tryz.ntmps78
  go_wp2_with fail
  clear ld
  go_loopw [12] (fun i wr => ∃ j : Nat, j ≤ 2 ∧ i = .int .i64 j ∧ EaSt w ka kb A B f F j wr) (fun i _ => 3 - (intOf i).toNat)
  case atStart => exact ⟨0, by omega, rfl, HS.out⟩
  case round =>
    clear HS
    obtain ⟨j, hj, rfl, hs⟩ := hrel
    have i0 := idx0
    have i1 := idx1
    rcases (show j = 0 ∨ j = 1 ∨ j = 2 by omega) with rfl | rfl | rfl
    · cases hA : A with
      | none =>
        have HN := Lib.hid (show EaSt w ka kb A B f F 1 wr from ⟨by have := hs.a; rw [hA] at this ⊢; exact this, hs.b, fun _ => by rw [hA]; rfl, fun h => by omega, hs.only⟩)
        clear hs HFa HFb
        rw [show ifC ka none = .nilIface from rfl]
        go_wp2_with fail
        go_roundw
        case rel => exact ⟨1, by omega, by simp, hA ▸ HN.out⟩
        case measure => simp [intOf]
      | some M =>
        have hM : MmAt wr ka M := hs.a M (by rw [if_pos rfl]; exact hA)
        have hIf : ifC ka (some M) = .iface 25 (memV ka.p) := rfl
        have HC := Lib.hid (HF.out ka M wr (Or.inl rfl) hs.only hM)
        have HN := Lib.hid (fun (W : World) (hMW : MmAt W ka (f M).2) (ho : Only ka.s wr W) (h0 : (f M).1 = 0) => show EaSt w ka kb A B f F 1 W from
          ⟨fun N e => by rw [hA] at e; cases e; exact hMW, fun N e => (hs.b N e).only ho (fun x hx hm => HD.out x hm hx), fun _ => by rw [hA]; exact h0, fun h => by omega, hs.only.then ho (fun x hx => Or.inl (HFa.out M hA x hx))⟩)
        have HX := Lib.hid (fun (W : World) (hMW : MmAt W ka (f M).2) (ho : Only ka.s wr W) (h0 : (f M).1 ≠ 0) => show (f M).1 = q.1 ∧ CpAt W ka q.2.1 ∧ CpAt W kb q.2.2 ∧ Only F w W by
          rw [HE.out, hA, if_pos (show (oneV f (some M)).1 ≠ 0 from h0)]
          exact ⟨rfl, fun N e => (by cases e; exact hMW), fun N e => (hs.b N e).only ho (fun x hx hm => HD.out x hm hx), hs.only.then ho (fun x hx => Or.inl (HFa.out M hA x hx))⟩)
        clear hs hM HF HFa HFb
        generalize f M = r at HC HN HX
        obtain ⟨er, N⟩ := r
        simp only at HC HN HX
        rw [hIf] at HC ⊢
        clear hIf
        go_wp2_with fail
        refine HC.out.mono ?_
        rintro e w2 ⟨rfl, hN, ho⟩
        by_cases he : er = 0
        · subst he
          have HR := Lib.hid (HN.out w2 hN ho rfl)
          clear hN ho
          go_wp2_with fail
          go_roundw
          case rel => exact ⟨1, by omega, by simp, hA ▸ HR.out⟩
          case measure => simp [intOf]
        · have hb0 : (er != 0) = true := by rw [bne_iff_ne]; exact he
          have HR := Lib.hid (HX.out w2 hN ho he)
          clear hN ho he
          go_wp2_with fail
          go_ret
          exact ⟨by rw [HR.out.1]; rfl, HR.out.2⟩
    · cases hB : B with
      | none =>
        have HN := Lib.hid (show EaSt w ka kb A B f F 2 wr from ⟨hs.a, by have := hs.b; rw [hB] at this ⊢; exact this, fun _ => hs.ea (by omega), fun _ => by rw [hB]; rfl, hs.only⟩)
        clear hs HFa HFb
        rw [show ifC kb none = .nilIface from rfl]
        go_wp2_with fail
        go_roundw
        case rel => exact ⟨2, by omega, by simp, hB ▸ HN.out⟩
        case measure => simp [intOf]
      | some M =>
        have hM : MmAt wr kb M := hs.b M (by rw [if_neg (by omega)]; exact hB)
        have hIf : ifC kb (some M) = .iface 25 (memV kb.p) := rfl
        have HC := Lib.hid (HF.out kb M wr (Or.inr rfl) hs.only hM)
        have HN := Lib.hid (fun (W : World) (hMW : MmAt W kb (f M).2) (ho : Only kb.s wr W) (h0 : (f M).1 = 0) => show EaSt w ka kb A B f F 2 W from
          ⟨fun N e => (hs.a N e).only ho (fun x hx hm => HD.out x hx hm), fun N e => by rw [hB] at e; cases e; exact hMW, fun _ => hs.ea (by omega), fun _ => by rw [hB]; exact h0, hs.only.then ho (fun x hx => Or.inl (HFb.out M hB x hx))⟩)
        have HX := Lib.hid (fun (W : World) (hMW : MmAt W kb (f M).2) (ho : Only kb.s wr W) (h0 : (f M).1 ≠ 0) => show (f M).1 = q.1 ∧ CpAt W ka q.2.1 ∧ CpAt W kb q.2.2 ∧ Only F w W by
          rw [HE.out, hB, if_neg (by rw [hs.ea (by omega)]; simp)]
          exact ⟨rfl, fun N e => (hs.a N e).only ho (fun x hx hm => HD.out x hx hm), fun N e => (by cases e; exact hMW), hs.only.then ho (fun x hx => Or.inl (HFb.out M hB x hx))⟩)
        clear hs hM HF HFa HFb
        generalize f M = r at HC HN HX
        obtain ⟨er, N⟩ := r
        simp only at HC HN HX
        rw [hIf] at HC ⊢
        clear hIf
        go_wp2_with fail
        refine HC.out.mono ?_
        rintro e w2 ⟨rfl, hN, ho⟩
        by_cases he : er = 0
        · subst he
          have HR := Lib.hid (HN.out w2 hN ho rfl)
          clear hN ho
          go_wp2_with fail
          go_roundw
          case rel => exact ⟨2, by omega, by simp, hB ▸ HR.out⟩
          case measure => simp [intOf]
        · have hb0 : (er != 0) = true := by rw [bne_iff_ne]; exact he
          have HR := Lib.hid (HX.out w2 hN ho he)
          clear hN ho he
          go_wp2_with fail
          go_ret
          exact ⟨by rw [HR.out.1]; rfl, HR.out.2⟩
    · have HR := Lib.hid (show (0 : Int) = q.1 ∧ CpAt wr ka q.2.1 ∧ CpAt wr kb q.2.2 ∧ Only F w wr by
        rw [HE.out, if_neg (by rw [hs.ea (by omega)]; simp)]
        exact ⟨(hs.eb rfl).symm, hs.a, hs.b, hs.only⟩)
      clear hs HF HFa HFb
      go_wp2_with fail
      go_ret
      exact ⟨by rw [← HR.out.1]; rfl, HR.out.2⟩
end
end

section
open Go.RowKit Go.Sort

/-- A log in memory. -/
structure LgAt (w : World) (lb : Nat) (ka kb : Bk) (A B : Cp) : Prop where
  row : w.heap[lb]? = some (.cells #[ifC ka A, ifC kb B] 103 (0, 0))
  a : CpAt w ka A
  b : CpAt w kb B
  dis : ∀ x ∈ ka.s, x ∉ kb.s
  lt : ∀ x, x ∈ ka.s ∨ x ∈ kb.s → x < w.heap.size
  lbn : lb ∉ ka.s ∧ lb ∉ kb.s
abbrev fS (ka kb : Bk) (A B : Cp) : List Nat := cS ka A ++ cS kb B
theorem fS_mem {ka kb : Bk} {A B : Cp} {x : Nat} (h : x ∈ fS ka kb A B) : x ∈ ka.s ∨ x ∈ kb.s := by
  rcases List.mem_append.1 h with h | h
  · exact Or.inl (cS_sub h)
  · exact Or.inr (cS_sub h)
theorem fS_eq {ka kb : Bk} {A B A' B' : Cp} (ha : A'.isNone = A.isNone) (hb : B'.isNone = B.isNone) : fS ka kb A' B' = fS ka kb A B := by unfold fS; rw [cS_eq ha, cS_eq hb]
theorem LgAt.below {w w' : World} {lb : Nat} {ka kb : Bk} {A B : Cp} (h : LgAt w lb ka kb A B) (hb : Below w.heap.size w w') : LgAt w' lb ka kb A B :=
  ⟨heap_below hb (lt_of_block h.row) h.row, h.a.below hb, h.b.below hb, h.dis, fun x hx => Nat.lt_of_lt_of_le (h.lt x hx) hb.size, h.lbn⟩
theorem LgAt.lbf {w : World} {lb : Nat} {ka kb : Bk} {A B : Cp} (h : LgAt w lb ka kb A B) : lb ∉ fS ka kb A B := fun hm => (fS_mem hm).elim h.lbn.1 h.lbn.2
theorem LgAt.upd {w w' : World} {lb : Nat} {ka kb : Bk} {A B A' B' : Cp} (h : LgAt w lb ka kb A B) (ho : Only (fS ka kb A B) w w') (ha : CpAt w' ka A') (hb : CpAt w' kb B') (na : A'.isNone = A.isNone) (nb : B'.isNone = B.isNone) : LgAt w' lb ka kb A' B' :=
  ⟨by rw [ifC_eq na, ifC_eq nb]; exact ho.heap h.row h.lbf, ha, hb, h.dis, fun x hx => Nat.lt_of_lt_of_le (h.lt x hx) ho.size, h.lbn⟩
theorem LgAt.new {w : World} {lb : Nat} {ka kb : Bk} {A B : Cp} (h : LgAt w lb ka kb A B) {n : Nat} (hn : w.heap.size ≤ n) : n ∉ ka.s ∧ n ∉ kb.s :=
  ⟨fun hm => by have := h.lt n (Or.inl hm); omega, fun hm => by have := h.lt n (Or.inr hm); omega⟩
theorem eachV_none (f : Mm → Int × Mm) (A B : Cp) : (eachV f A B).2.1.isNone = A.isNone ∧ (eachV f A B).2.2.isNone = B.isNone := by
  rw [eachV_one]
  split
  · exact ⟨oneV_none f A, rfl⟩
  · exact ⟨oneV_none f A, oneV_none f B⟩
section
attribute [local go_sem ↓] loadWt_down storeWt_down loadHd_down storeHd_down
set_option maxRecDepth 100000 in
set_option maxHeartbeats 2000000 in
theorem heads_w (w : World) (lb : Nat) (ka kb : Bk) (A B : Cp) (h : Hw) (ok : HwOk h) (hL : LgAt w lb ka kb A B) :
    Calls Tryz.prog 47 #[.pointer (some ⟨lb, 0, none⟩), .agg h.cs] w fun e w' => e = .returned (.int .i64 (headsV A B h).1) ∧ LgAt w' lb ka kb (headsV A B h).2.1 (headsV A B h).2.2 ∧ Only (fS ka kb A B) w w' := by
  obtain ⟨w1, hw1⟩ : ∃ w1, w1 = w.alloc (.cells h.cs 105) := ⟨_, rfl⟩
  have hg1 : w1.heap[w.heap.size]? = some (.cells h.cs 105 (0, 0)) := by rw [hw1]; exact heap_alloc_new _ _
  have hb1 : Below w.heap.size w w1 := by rw [hw1]; exact box_below0 _ _ _
  have hL1 := hL.below hb1
  have hnew := hL.new (Nat.le_refl w.heap.size)
  have HE := Lib.hid (eachH_w w1 lb ka kb A B (fun M => M.wr [(0, h.s)]) w.heap.size hL1.row hL1.a hL1.b hL.dis (fun k M W hk ho hM => headw_w W w.heap.size k h M ok (ho.heap hg1 (fun hm => (fS_mem hm).elim hnew.1 hnew.2)) hM (by rcases hk with rfl | rfl; exact hnew.1; exact hnew.2)))
  have HW := Lib.hid hw1
  have HR := Lib.hid (fun (w' : World) (ha : CpAt w' ka (headsV A B h).2.1) (hb : CpAt w' kb (headsV A B h).2.2) (ho : Only (fS ka kb A B) w1 w') => show LgAt w' lb ka kb (headsV A B h).2.1 (headsV A B h).2.2 ∧ Only (fS ka kb A B) w w' from
    ⟨hL1.upd ho ha hb (eachV_none _ A B).1 (eachV_none _ A B).2, (Only.of_below hb1).trans ho⟩)
  clear hw1 hg1 hb1 hL1 hnew hL
  go_enter Tryz.func47, Tryz.ntmps47
  go_wp2_with fail
  rw [← HW.out]
  refine HE.out.mono ?_
  rintro e w2 ⟨rfl, ha, hb, ho⟩
  have HZ := Lib.hid (HR.out w2 ha hb ho)
  clear ha hb ho
  go_wp2_with fail
  go_ret
  exact ⟨rfl, HZ.out⟩
set_option maxRecDepth 100000 in
set_option maxHeartbeats 4000000 in
theorem addc_w (w : World) (lp hp : Nat) (k : Bk) (h : Hw) (M : Mm) (a : Option Addr) (cap : Nat) (l : List (Nat × By)) (ok : HwOk h) (hh : w.heap[hp]? = some (.cells h.cs 105 (0, 0))) (hlp : w.cell? ⟨lp, 0, none⟩ = some (.slice a l.length cap)) (hM : MmAt w k M) (hc : hp ∉ k.s)
    (hl : Wts w k.s a l) (hcap : l.length ≤ cap) (hn : l.length ≤ 5000) (hll : ∀ x ∈ l, x.1 ≤ 1000000 ∧ x.2.length ≤ 1000000) :
    Calls Tryz.prog 79 #[ifC k (some M), .pointer (some ⟨lp, 0, none⟩), .pointer (some ⟨hp, 0, none⟩)] w fun e w' =>
      e = .returned (.int .i64 (let q := M.wrs l; if q.1 ≠ 0 then q else q.2.wr [(0, h.s)]).1) ∧ MmAt w' k (let q := M.wrs l; if q.1 ≠ 0 then q else q.2.wr [(0, h.s)]).2 ∧ Only k.s w w' := by
  have HC := Lib.hid (writes_w w k M a cap l hM hl hcap hn hll)
  have HH := Lib.hid hh
  have hsl : h.s.length ≤ 1000000 := by
    have := sectL_len h.b (by have := h.b_len ok; omega)
    show (sectL h.b).length ≤ _; omega
  have hlt : ∀ x ∈ k.s, x < w.heap.size := by
    intro x hx
    have := hM.lt
    simp only [Bk.s, List.mem_cons, List.not_mem_nil, or_false] at hx
    omega
  have HLT := Lib.hid hlt
  clear hh hM hlt hl hll
  have nA := nilA_w k.p
  have mE := meth_w k.p
  have hIf : ifC k (some M) = .iface 25 (memV k.p) := rfl
  rw [hIf] at HC ⊢
  clear hIf
  generalize M.wrs l = q at HC ⊢
  obtain ⟨er, M1⟩ := q
  simp only at HC ⊢
  go_enter Tryz.func79, Tryz.ntmps79
  go_wp2_with fail
  refine HC.out.mono ?_
  rintro e w1 ⟨rfl, hM1, ho1⟩
  have HM1 := Lib.hid hM1
  have HO1 := Lib.hid ho1
  by_cases he : er = 0
  · subst he
    have hh1 := ho1.heap HH.out hc
    have ld := loadHd_at (w := w1.drew) hh1 rfl
    have HH1 := Lib.hid hh1
    have HLT1 := Lib.hid (fun x (hx : x ∈ k.s) => Nat.lt_of_lt_of_le (HLT.out x hx) ho1.size)
    clear hM1 ho1 hh1
    go_wp2_with fail
    go_region_held3 (fun w' => (loadHd ⟨hp, 0, none⟩).run Tryz.prog w' = .ok (.agg h.cs) w') (first | exact wl | exact ql | exact gl | exact ld | fail)
      ((first
        | (go_at_call 81
           refine (hwrite_w h ok _).mono ?_
           rintro e v2 ⟨rfl, hb2⟩
           have hb2 : Below w1.heap.size w1 v2 := below_drew1.trans hb2
           have gl := loadHd_at (heap_below hb2 (lt_of_block HH1.out) HH1.out) rfl
           have hb3 : Below v2.heap.size v2 (v2.alloc (.cells (wtC 0 h.s) 135)) := box_below0 _ _ _
           have HG3 := Lib.hid (heap_alloc_new v2 (.cells (wtC 0 h.s) 135))
           have ql := loadHd_at (heap_below (hb2.trans (hb3.mono hb2.size)) (lt_of_block HH1.out) HH1.out) rfl
           have HB3 := Lib.hid (hb2.trans (hb3.mono hb2.size))
           have HS2 := Lib.hid hb2.size
           clear hb2 hb3)
        | (go_at_call 303
           refine (write_w (v2.alloc (.cells (wtC 0 h.s) 135)) k M1 (some ⟨v2.heap.size, 0, none⟩) 1 [(0, h.s)] (HM1.out.below HB3.out) (wts_one HG3.out k.s (fun hm => by
             have h1 := HS2.out
             have h2 := HLT1.out _ hm
             omega)) (by simp) (fun x hx => by simp at hx; subst hx; exact ⟨by simp, hsl⟩)).mono ?_
           rintro e v4 ⟨rfl, hN, ho4⟩
           have HO4 := Lib.hid ((Only.of_below (S := k.s) HB3.out).trans ho4)
           have wl := loadHd_at (HO4.out.heap HH1.out hc) rfl
           have HN := Lib.hid hN
           clear hN ho4)
        | fail))
    all_goals
      go_wp2_with fail
      go_ret
      exact ⟨by simp, by simpa using HN.out, HO1.out.trans HO4.out⟩
  · have hb0 : (er != 0) = true := by rw [bne_iff_ne]; exact he
    have HQ := Lib.hid he
    clear hM1 ho1 he
    go_wp2_with fail
    go_ret
    exact ⟨rfl, HM1.out, HO1.out⟩
end
end

section
open Go.RowKit Go.Sort

/-- What is read of the sectors from 1 on, before sector j. -/
def dupP (F : Mm) (j : Nat) : List (Nat × By) := (List.range' 1 (j - 1)).filterMap fun k => (F.rd k).map fun s => (k, s)
theorem dupP_all (F : Mm) (h : Hw) : dupP F h.n = dupL F h := rfl
theorem dupP_step (F : Mm) (j : Nat) (hj : 1 ≤ j) : dupP F (j + 1) = (match F.rd j with | some s => dupP F j ++ [(j, s)] | none => dupP F j) := by
  unfold dupP
  obtain ⟨i, rfl⟩ : ∃ i, j = i + 1 := ⟨j - 1, by omega⟩
  rw [show i + 1 + 1 - 1 = i + 1 by omega, show i + 1 - 1 = i by omega, List.range'_concat, List.filterMap_append, show 1 + 1 * i = i + 1 by omega]
  cases h : F.rd (i + 1) with
  | none => simp [h]
  | some s => simp [h]
theorem dupP_len (F : Mm) (j : Nat) : (dupP F j).length ≤ j := by
  unfold dupP
  have := List.length_filterMap_le (fun k => (F.rd k).map fun s => (k, s)) (List.range' 1 (j - 1))
  rw [List.length_range'] at this; omega
theorem dupP_mem {F : Mm} {j : Nat} {x : Nat × By} (hx : x ∈ dupP F j) : 1 ≤ x.1 ∧ x.1 < j ∧ F.rd x.1 = some x.2 := by
  unfold dupP at hx
  rw [List.mem_filterMap] at hx
  obtain ⟨k, hk, e⟩ := hx
  rw [List.mem_range'_1] at hk
  cases hr : F.rd k with
  | none => rw [hr] at e; cases e
  | some s => rw [hr] at e; cases e; exact ⟨by simp; omega, by simp; omega, hr⟩
section
attribute [local go_sem ↓] loadWt_down storeWt_down loadHd_down storeHd_down
set_option maxRecDepth 100000 in
set_option maxHeartbeats 8000000 in
theorem dup_w (w : World) (kt kf : Bk) (T F : Mm) (h : Hw) (ok : HwOk h) (hT : MmAt w kt T) (hF : MmAt w kf F) (_hd : ∀ x ∈ kt.s, x ∉ kf.s) (hn : h.n ≤ F.secs.length) :
    Calls Tryz.prog 57 #[ifC kt (some T), ifC kf (some F), .agg h.cs] w fun e w' => e = .returned (.int .i64 (dupV T F h).1) ∧ MmAt w' kt (dupV T F h).2 ∧ Only kt.s w w' := by
  obtain ⟨w1, hw1⟩ : ∃ w1, w1 = w.alloc (.cells h.cs 105) := ⟨_, rfl⟩
  have hg1 : w1.heap[w.heap.size]? = some (.cells h.cs 105 (0, 0)) := by rw [hw1]; exact heap_alloc_new _ _
  have hb1 : Below w.heap.size w w1 := by rw [hw1]; exact box_below0 _ _ _
  have hs1 : w1.heap.size = w.heap.size + 1 := by rw [hw1]; simp
  have HW := Lib.hid hw1
  have HG1 := Lib.hid hg1
  have HB1 := Lib.hid hb1
  have HS1 := Lib.hid hs1
  have HT1 := Lib.hid (hT.below hb1)
  have HF1 := Lib.hid (hF.below hb1)
  have hsl : h.s.length ≤ 1000000 := by
    have := sectL_len h.b (by have := h.b_len ok; omega)
    show (sectL h.b).length ≤ _; omega
  have HLT := Lib.hid (show ∀ x ∈ kt.s, x < w.heap.size from fun x hx => by
    have := hT.lt
    simp only [Bk.s, List.mem_cons, List.not_mem_nil, or_false] at hx
    omega)
  have HFU := Lib.hid hF.full
  have hn16 := ok.n
  have HNZ := Lib.hid (fun hm => show False from by have := HLT.out w.heap.size hm; omega)
  clear hw1 hg1 hb1 hs1 hT hF
  have nA := nilA_w kt.p
  have mE := meth_w kt.p
  have hIt : ifC kt (some T) = .iface 25 (memV kt.p) := rfl
  have hIf : ifC kf (some F) = .iface 25 (memV kf.p) := rfl
  have HV := Lib.hid (show dupV T F h = (let r := T.wrs (dupP F h.n); if r.1 ≠ 0 then r else r.2.wr [(0, h.s)]) from rfl)
  rw [hIt, hIf]
  generalize dupV T F h = q at HV ⊢
  go_enter Tryz.func57, Tryz.ntmps57
  go_upto_region 1 with fail
  rw [← HW.out]
  go_wp2_with fail
  go_loopw [7, 8] (fun v i wr => ∃ j : Nat, 1 ≤ j ∧ j ≤ h.n ∧ i = .int .i64 j ∧ WtRow wr w1.heap.size v (dupP F j) ∧ Below w1.heap.size w1 wr) (fun _ i _ => h.n - (intOf i).toNat)
  case atStart => exact ⟨1, by omega, by omega, rfl, RowE.nil _ _, Below.refl _ _⟩
  case round =>
    obtain ⟨j, hj1, hj, rfl, hrow, hb⟩ := hrel
    have HB := Lib.hid hb
    have HRow := Lib.hid hrow
    have c0 := cell_at (i := 0) (v := .int .i64 h.n) (heap_below hb (lt_of_block HG1.out) HG1.out) rfl
    obtain ⟨a, cap, rfl⟩ := RowE.spell encWt hrow
    have hpl := dupP_len F j
    clear hb hrow
    by_cases hlt : j < h.n
    · have hltI : (j : Int) < (h.n : Int) := by omega
      have HRd := Lib.hid (read_w wr kf F j (HF1.out.below HB.out) (by omega))
      have HStep := Lib.hid (dupP_step F j hj1)
      cases hr : F.rd j with
      | none =>
        rw [hr] at HRd HStep
        unfold rdT at HRd
        clear hr
        go_wp2_with (go_at_call 301; refine HRd.out.mono ?_; rintro e w2 ⟨rfl, rfl⟩)
        go_roundw
        case rel => exact ⟨j + 1, by omega, by omega, by go_num, by rw [HStep.out]; exact HRow.out, HB.out⟩
        case measure => simp [intOf]; omega
      | some s =>
        rw [hr] at HRd HStep
        unfold rdT at HRd
        clear hr
        generalize dupP F j = P at HRow HStep hpl ⊢
        go_wp2_with first | (go_at_call 301; refine HRd.out.mono ?_; rintro e w2 ⟨rfl, rfl⟩) | (at_builtin; go_must (refine wpList_append_one rfl _ _ rfl encWt w1.heap.size (.slice a P.length cap) P (j, s) rfl (HRow.out.below (box_below0 wr (wtC j s) 135)) wr.heap.size rfl (heap_alloc_new wr (.cells (wtC j s) 135)) rfl ?e1 ?e2 ?_))
        case e1 => omega
        case e2 => have := HB.out.size; simp; omega
        intro v' w2 hrow2 hg2 _
        have HB2 := Lib.hid (show Below w1.heap.size w1 w2 from (HB.out.alloc HB.out.size (.cells (wtC j s) 135)).grown hg2 (by have := HB.out.size; simp; omega) (fun k hk => row_own HRow.out hk))
        have HRow2 := Lib.hid hrow2
        clear hrow2 hg2
        go_wp2_with fail
        go_roundw
        case rel => exact ⟨j + 1, by omega, by omega, by go_num, by rw [HStep.out]; exact HRow2.out, HB2.out⟩
        case measure => simp [intOf]; omega
    · obtain rfl : j = h.n := by omega
      have hltI : ¬ (h.n : Int) < (h.n : Int) := by omega
      obtain ⟨a', cap', e', hcap, hwts⟩ := wts_of_row HRow.out kt.s (fun x hx => by have := HLT.out x hx; have := HS1.out; omega)
      cases e'
      have hmem : ∀ x ∈ dupP F h.n, x.1 ≤ 1000000 ∧ x.2.length ≤ 1000000 := by
        intro x hx
        obtain ⟨m1, m2, m3⟩ := dupP_mem hx
        have := HFU.out x.2 (List.mem_of_getElem? (rd_secs m3))
        omega
      have HC := Lib.hid (writes_w wr kt T a cap (dupP F h.n) (HT1.out.below HB.out) hwts hcap (by omega) hmem)
      rw [hIt] at HC
      clear hwts hmem hcap
      generalize T.wrs (dupP F h.n) = r at HC HV
      generalize dupP F h.n = P at HC hpl HRow
      obtain ⟨er, T1⟩ := r
      simp only at HC HV
      go_wp2_with fail
      refine HC.out.mono ?_
      rintro e w2 ⟨rfl, hT2, ho2⟩
      have HM1 := Lib.hid hT2
      have HOa := Lib.hid (((Only.of_below (S := kt.s) HB1.out).trans (Only.of_below HB.out)).trans ho2)
      have hh2 := ho2.heap (heap_below HB.out (lt_of_block HG1.out) HG1.out) (fun hm => HNZ.out hm)
      by_cases he : er = 0
      · subst he
        have ld := loadHd_at (w := w2.drew) hh2 rfl
        have HH1 := Lib.hid hh2
        have HLT1 := Lib.hid (fun x (hx : x ∈ kt.s) => Nat.lt_of_lt_of_le (HLT.out x hx) HOa.out.size)
        clear hT2 ho2 hh2 c0 HRow
        go_wp2_with fail
        go_region_held3 (fun w' => (loadHd ⟨w.heap.size, 0, none⟩).run Tryz.prog w' = .ok (.agg h.cs) w') (first | exact wl | exact ql | exact gl | exact ld | fail)
          ((first
            | (go_at_call 81
               refine (hwrite_w h ok _).mono ?_
               rintro e v2 ⟨rfl, hb2⟩
               have hb2 : Below w2.heap.size w2 v2 := below_drew1.trans hb2
               have gl := loadHd_at (heap_below hb2 (lt_of_block HH1.out) HH1.out) rfl
               have hb3 : Below v2.heap.size v2 (v2.alloc (.cells (wtC 0 h.s) 135)) := box_below0 _ _ _
               have HG3 := Lib.hid (heap_alloc_new v2 (.cells (wtC 0 h.s) 135))
               have ql := loadHd_at (heap_below (hb2.trans (hb3.mono hb2.size)) (lt_of_block HH1.out) HH1.out) rfl
               have HB3 := Lib.hid (hb2.trans (hb3.mono hb2.size))
               have HS2 := Lib.hid hb2.size
               clear hb2 hb3)
            | (go_at_call 303
               refine (write_w (v2.alloc (.cells (wtC 0 h.s) 135)) kt T1 (some ⟨v2.heap.size, 0, none⟩) 1 [(0, h.s)] (HM1.out.below HB3.out) (wts_one HG3.out kt.s (fun hm => by
                 have h1 := HS2.out
                 have h2 := HLT1.out _ hm
                 omega)) (by simp) (fun x hx => by simp at hx; subst hx; exact ⟨by simp, hsl⟩)).mono ?_
               rintro e v4 ⟨rfl, hN, ho4⟩
               have HO4 := Lib.hid ((Only.of_below (S := kt.s) HB3.out).trans ho4)
               have wl := loadHd_at (HO4.out.heap HH1.out (fun hm => HNZ.out hm)) rfl
               have HN := Lib.hid hN
               clear hN ho4)
            | fail))
        all_goals
          go_wp2_with fail
          go_ret
          refine ⟨by rw [HV.out]; rfl, by rw [HV.out]; exact HN.out, HOa.out.trans HO4.out⟩
      · have hb0 : (er != 0) = true := by rw [bne_iff_ne]; exact he
        have HQ := Lib.hid he
        clear hT2 ho2 he hh2 c0 HRow
        go_wp2_with fail
        go_ret
        refine ⟨by rw [HV.out, if_pos HQ.out]; rfl, by rw [HV.out, if_pos HQ.out]; exact HM1.out, HOa.out⟩
end
end

end Go.Proofs.YtjpkdhnponcciaaGreatDoor
