/-
  Walks: blocks are unpacked one by one; a list is cloned. Conditions: valid sizes.
  Walks: segments are joined to records. No condition but sizes.
-/
import Derived.Test.YthkpcalopmddpaaGreatDoorGL
import Derived.Test.YthkpcalopmddpaaGreatDoorGD
import Derived.Test.YthkpcalopmddpaaGreatDoorGE
import Derived.Test.YthkpcalopmddpaaGreatDoorGM
namespace Go.Proofs.YthkpcalopmddpaaGreatDoor

section
open Go.RowKit Go.Sort
attribute [local go_sem] strOfNums_size ext_drop ext_take

section
variable {P : Program} {w : World}
/-- A row that lies in cells is appended to an own row. -/
theorem wpList_append_rows {ops : Array Oper} {rest : List Oper} {o : Oper} {a : Act} {Q : Exit → Act → World → Prop} (hgd : o.guard = none) (s x : Operand) (t : TypeId)
    (ho : o.op = .call { callee := .builtin .append, args := #[s, x], argTypes := #[t, t] })
    (base : Nat) (e : TypeId) (i : TypeInfo) (z : Value) (size bytes : Nat) (ht : P.underlying t = some (.slice e)) (hi : P.info? e = some i) (hz : i.zero = some z)
    (hsize : i.size = size) (hby : i.bytes = bytes) (hzs : z.cells.size = size) (hsz : 0 < size)
    (v : Value) (n : Nat) (xs : List Value) (hs : a.eval s = v) (hown : w.ownsRow base e size v n xs)
    (ad : Option Addr) (m c : Nat) (news : List Value) (hx : a.eval x = .slice ad m c) (hl : news.length = m * size)
    (hnews : (∃ p, ad = some p ∧ ∀ (j : Nat) (u : Value), news[j]? = some u → w.cell? (p.add j) = some u) ∨ (ad = none ∧ c = 0 ∧ m = 0)) (h1 : ∀ u ∈ news, u.oneCell' = true)
    (h63 : n + m ≤ maxLen) (hbytes : (n + m) * bytes ≤ 140737488355328) (hbase : base ≤ w.heap.size)
    (h : ∀ v' w', w'.ownsRow base e size v' (n + m) (xs ++ news) → w.grownBy w' v.ownBlock → wpList P ops Q rest (a.put o.dst v') w') : wpList P ops Q (o :: rest) a w := by
  rcases hnews with ⟨p, rfl, hc⟩ | ⟨rfl, rfl, rfl⟩
  · exact wpList_append_own w hgd s x t ho base e i z size bytes ht hi hz hsize hby hzs hsz v n xs hs hown p m c news hx hl hc h1 h63 hbytes hbase fun v' w' h2 h3 _ => h v' w' h2 h3
  · have hn : news = [] := List.length_eq_zero_iff.1 (by rw [hl]; simp)
    subst hn
    refine wpList_plain hgd fun K hK => ?_
    unfold Oper.wp execOp
    simp only [ho, resolve, invoke, builtin, Sem.run_bind, Sem.run_pure, Result.andThen_ok, List.map_toArray, List.map_cons, List.map_nil, hs, hx, run_append_owned_none (P := P) w base t o.type e i size ht hi v n xs hown]
    exact hK _ _ (h v w (by rw [List.append_nil]; exact hown) ⟨rfl, rfl, rfl, Nat.le_refl _, fun _ _ _ => rfl⟩)
end

/-- The records of blocks, one by one. -/
def eachU (u : By → Option (List By)) : List By → Option (List By)
  | [] => some []
  | b :: l => match u b with
    | none => none
    | some x => (eachU u l).map (x ++ ·)
theorem eachU_drop (u : By → Option (List By)) (l : List By) (j : Nat) (h : j < l.length) : eachU u (l.drop j) = match u l[j] with
    | none => none
    | some x => (eachU u (l.drop (j + 1))).map (x ++ ·) := by
  rw [List.drop_eq_getElem_cons h]; rfl
/-- What the loop of each holds. -/
structure EaSt (w : World) (u : By → Option (List By)) (l : List By) (T : Option (List By)) (W : World) (j : Nat) (out : List By) (v : Value) : Prop where
  bel : Below w.heap.size w W
  own : W.ownsRow w.heap.size 9 1 v out.length (out.map sv)
  tot : T = (eachU u (l.drop j)).map (out ++ ·)
  few : out.length ≤ 1000000 * j
theorem news_slice {w : World} {base : Nat} {e : TypeId} {v : Value} {l : List By} (h : w.ownsRow base e 1 v l.length (l.map sv)) : ∃ ad c, v = .slice ad l.length c ∧ NewsAt w w.heap.size ad l.length c (l.map sv) := by
  obtain ⟨ad, c, h1, h2, _⟩ := newsAt_of_row h
  exact ⟨ad, c, h1, h2⟩

set_option maxRecDepth 100000 in
set_option maxHeartbeats 2000000 in
theorem each1_fix (g B : Nat) (a : Option Addr) (cap : Nat) (l : List By) (len blk : Nat) (u : By → Option (List By)) (w : World) (hg : w.cell? ⟨g, 0, none⟩ = some (fnv 89)) (h : Strs w B a l) (hB : B ≤ w.heap.size) (hl : l.length ≤ 1000000)
    (HU : ∀ (W : World) (d : By), d ∈ l → Calls Tryz.prog 89 #[.int .i64 len, .int .i64 blk, .string ⟨d.toArray⟩] W fun e w' => UPost W (u d) e w') (HL : ∀ d ∈ l, ∀ L, u d = some L → L.length ≤ 1000000) :
    Calls Tryz.prog 108 #[.int .i64 len, .int .i64 blk, .slice a l.length cap, .pointer (some ⟨g, 0, none⟩)] w fun e w' => UPost w (eachU u l) e w' := by
  have hgl := block_lt_of_cell hg
  obtain ⟨i0, hi0, hz0, hz1, hz2⟩ := info_parts info9
  have HS := Lib.hid (show EaSt w u l (eachU u l) w 0 [] (.slice none 0 0) from ⟨Below.refl _ _, own_nil _ _ _ _, by rw [List.drop_zero]; cases eachU u l <;> rfl, by simp⟩)
  generalize eachU u l = T at HS ⊢
  have HUU := Lib.hid HU
  have HLL := Lib.hid HL
  clear HU HL
  go_enter Tryz.func108, Tryz.ntmps108
  go_wp2_with fail
  go_loopw [9, 16] (fun v k wr => ∃ (j : Nat) (out : List By), j ≤ l.length ∧ k = .int .i64 j ∧ EaSt w u l T wr j out v) (fun _ k _ => l.length - (intOf k).toNat)
  case atStart => exact ⟨0, [], by omega, rfl, HS.out⟩
  case round =>
    clear HS
    obtain ⟨j, out, hj, rfl, hS⟩ := hrel
    have HB := Lib.hid hS.bel
    have HO := Lib.hid hS.own
    have hfew := hS.few
    by_cases hlt : j < l.length
    · obtain ⟨b, off, rfl, hbb, hc⟩ := h.get hlt
      have hcw := (hS.bel.cell (p := ⟨b, off + j, none⟩) (show b < w.heap.size by omega)).trans hc
      have hgw := (hS.bel.cell (p := ⟨g, 0, none⟩) hgl).trans hg
      have hT := hS.tot.trans (by rw [eachU_drop u l j hlt])
      have HC := HUU.out
      have hcall := HC wr l[j] (List.getElem_mem hlt)
      have hlen := HLL.out l[j] (List.getElem_mem hlt)
      clear hS HC hc
      generalize l[j] = d at hT hcall hcw hlen
      generalize u d = R at hT hcall hlen
      cases R with
      | none =>
        have HT := Lib.hid (show T = none from hT)
        have HC := Lib.hid hcall
        clear hT hcall hlen
        go_wp2_with fail
        refine HC.out.mono ?_
        rintro e w2 hU
        obtain rfl := hU.bad rfl
        have HB2 := Lib.hid (HB.out.trans (hU.bel.mono HB.out.size))
        clear hU
        go_wp2_with fail
        go_ret2
        exact UPost.no HT.out HB2.out
      | some L =>
        have HT := Lib.hid (show T = (eachU u (l.drop (j + 1))).map ((out ++ L) ++ ·) by
          rw [show T = ((eachU u (l.drop (j + 1))).map (L ++ ·)).map (out ++ ·) from hT]
          generalize eachU u (l.drop (j + 1)) = z
          cases z <;> simp)
        have HC := Lib.hid hcall
        have hL := hlen L rfl
        clear hT hcall hlen
        go_wp2_with fail
        refine HC.out.mono ?_
        rintro e w2 hU
        obtain ⟨v2, rfl, ho2⟩ := hU.good L rfl
        have HB2 := Lib.hid (HB.out.trans (hU.bel.mono HB.out.size))
        have hown2 := own_below HO.out hU.bel
        clear hU
        obtain ⟨na, nc, rfl, hN⟩ := news_slice ho2
        clear ho2
        go_wp2_with (at_builtin; (refine wpList_append_rows rfl _ _ 24 rfl w.heap.size 9 i0 (.string ByteArray.empty) 1 16 Tryz.underlying24 hi0 hz0 hz1 hz2 rfl (by decide) _ _ _ rfl hown2 _ _ _ (L.map sv) rfl (by simp) hN.out (one_sv L) (by unfold maxLen; omega) (by omega) HB2.out.size ?_))
        intro v6 w6 hown6 hg6
        have hb6 := HB2.out.grown hg6 HB2.out.size (fun k hk => row_own hown2 hk)
        have HZ := Lib.hid (show EaSt w u l T w6 (j + 1) (out ++ L) v6 from ⟨hb6, by rw [List.length_append, List.map_append]; exact hown6, HT.out, by rw [List.length_append]; omega⟩)
        clear hown2 hown6 hg6 hb6 hN
        go_wp2_with fail
        go_roundw
        case rel => exact ⟨j + 1, out ++ L, by omega, by go_num, HZ.out⟩
        case measure => simp [intOf]; omega
    · obtain rfl : j = l.length := by omega
      have HT := Lib.hid (show T = some out by rw [hS.tot, List.drop_length]; simp [eachU])
      clear hS
      go_wp2_with fail
      go_ret2
      exact UPost.yes HT.out HO.out HB.out

set_option maxRecDepth 100000 in
set_option maxHeartbeats 2000000 in
theorem each1_var (g B : Nat) (a : Option Addr) (cap : Nat) (l : List By) (len blk : Nat) (u : By → Option (List By)) (w : World) (hg : w.cell? ⟨g, 0, none⟩ = some (fnv 93)) (h : Strs w B a l) (hB : B ≤ w.heap.size) (hl : l.length ≤ 1000000)
    (HU : ∀ (W : World) (d : By), d ∈ l → Calls Tryz.prog 93 #[.int .i64 len, .int .i64 blk, .string ⟨d.toArray⟩] W fun e w' => UPost W (u d) e w') (HL : ∀ d ∈ l, ∀ L, u d = some L → L.length ≤ 1000000) :
    Calls Tryz.prog 108 #[.int .i64 len, .int .i64 blk, .slice a l.length cap, .pointer (some ⟨g, 0, none⟩)] w fun e w' => UPost w (eachU u l) e w' := by
  have hgl := block_lt_of_cell hg
  obtain ⟨i0, hi0, hz0, hz1, hz2⟩ := info_parts info9
  have HS := Lib.hid (show EaSt w u l (eachU u l) w 0 [] (.slice none 0 0) from ⟨Below.refl _ _, own_nil _ _ _ _, by rw [List.drop_zero]; cases eachU u l <;> rfl, by simp⟩)
  generalize eachU u l = T at HS ⊢
  have HUU := Lib.hid HU
  have HLL := Lib.hid HL
  clear HU HL
  go_enter Tryz.func108, Tryz.ntmps108
  go_wp2_with fail
  go_loopw [9, 16] (fun v k wr => ∃ (j : Nat) (out : List By), j ≤ l.length ∧ k = .int .i64 j ∧ EaSt w u l T wr j out v) (fun _ k _ => l.length - (intOf k).toNat)
  case atStart => exact ⟨0, [], by omega, rfl, HS.out⟩
  case round =>
    clear HS
    obtain ⟨j, out, hj, rfl, hS⟩ := hrel
    have HB := Lib.hid hS.bel
    have HO := Lib.hid hS.own
    have hfew := hS.few
    by_cases hlt : j < l.length
    · obtain ⟨b, off, rfl, hbb, hc⟩ := h.get hlt
      have hcw := (hS.bel.cell (p := ⟨b, off + j, none⟩) (show b < w.heap.size by omega)).trans hc
      have hgw := (hS.bel.cell (p := ⟨g, 0, none⟩) hgl).trans hg
      have hT := hS.tot.trans (by rw [eachU_drop u l j hlt])
      have HC := HUU.out
      have hcall := HC wr l[j] (List.getElem_mem hlt)
      have hlen := HLL.out l[j] (List.getElem_mem hlt)
      clear hS HC hc
      generalize l[j] = d at hT hcall hcw hlen
      generalize u d = R at hT hcall hlen
      cases R with
      | none =>
        have HT := Lib.hid (show T = none from hT)
        have HC := Lib.hid hcall
        clear hT hcall hlen
        go_wp2_with fail
        refine HC.out.mono ?_
        rintro e w2 hU
        obtain rfl := hU.bad rfl
        have HB2 := Lib.hid (HB.out.trans (hU.bel.mono HB.out.size))
        clear hU
        go_wp2_with fail
        go_ret2
        exact UPost.no HT.out HB2.out
      | some L =>
        have HT := Lib.hid (show T = (eachU u (l.drop (j + 1))).map ((out ++ L) ++ ·) by
          rw [show T = ((eachU u (l.drop (j + 1))).map (L ++ ·)).map (out ++ ·) from hT]
          generalize eachU u (l.drop (j + 1)) = z
          cases z <;> simp)
        have HC := Lib.hid hcall
        have hL := hlen L rfl
        clear hT hcall hlen
        go_wp2_with fail
        refine HC.out.mono ?_
        rintro e w2 hU
        obtain ⟨v2, rfl, ho2⟩ := hU.good L rfl
        have HB2 := Lib.hid (HB.out.trans (hU.bel.mono HB.out.size))
        have hown2 := own_below HO.out hU.bel
        clear hU
        obtain ⟨na, nc, rfl, hN⟩ := news_slice ho2
        clear ho2
        go_wp2_with (at_builtin; (refine wpList_append_rows rfl _ _ 24 rfl w.heap.size 9 i0 (.string ByteArray.empty) 1 16 Tryz.underlying24 hi0 hz0 hz1 hz2 rfl (by decide) _ _ _ rfl hown2 _ _ _ (L.map sv) rfl (by simp) hN.out (one_sv L) (by unfold maxLen; omega) (by omega) HB2.out.size ?_))
        intro v6 w6 hown6 hg6
        have hb6 := HB2.out.grown hg6 HB2.out.size (fun k hk => row_own hown2 hk)
        have HZ := Lib.hid (show EaSt w u l T w6 (j + 1) (out ++ L) v6 from ⟨hb6, by rw [List.length_append, List.map_append]; exact hown6, HT.out, by rw [List.length_append]; omega⟩)
        clear hown2 hown6 hg6 hb6 hN
        go_wp2_with fail
        go_roundw
        case rel => exact ⟨j + 1, out ++ L, by omega, by go_num, HZ.out⟩
        case measure => simp [intOf]; omega
    · obtain rfl : j = l.length := by omega
      have HT := Lib.hid (show T = some out by rw [hS.tot, List.drop_length]; simp [eachU])
      clear hS
      go_wp2_with fail
      go_ret2
      exact UPost.yes HT.out HO.out HB.out
end

section
open Go.RowKit Go.Sort
attribute [local go_sem] ByteArray.mk_append_mk strOfNums_size ext_drop ext_take

def jstep (op : Bool) (out : List By) (d : By) : List By := if op = true then putLast out d else out ++ [d]
theorem last_snoc (o : List By) (a : By) : (o ++ [a]).getLastD [] = a := by
  rw [List.getLastD_eq_getLast?, List.getLast?_concat]; rfl
/-- The records of segments. -/
def joinP (len : Nat) : Bool → List By → List Seg → Option (List By)
  | op, out, [] => if op = true then none else some out
  | op, out, s :: l => if s.1 = op ∧ ((jstep op out s.2.2).getLastD []).length ≤ len then joinP len s.2.1 (jstep op out s.2.2) l else none
/-- Segments lie in cells. -/
structure SegsAt (w : World) (B : Nat) (ad : Option Addr) (l : List Seg) : Prop where
  src : l ≠ [] → ∃ g, ad = some ⟨g, 0, none⟩ ∧ g < B ∧ ∀ (j : Nat) (u : Value), (flatS l)[j]? = some u → w.cell? ⟨g, j, none⟩ = some u
theorem segs_row3 {w : World} {base : Nat} {e : TypeId} {v : Value} {l : List Seg} (h : w.ownsRow base e 3 v l.length (flatS l)) : ∃ ad c, v = .slice ad l.length c ∧ l.length ≤ c ∧ NewsAt w w.heap.size ad l.length c (flatS l) ∧ SegsAt w w.heap.size ad l := by
  rcases h.2 with ⟨rfl, hn⟩ | ⟨g, cap, cur, rfl, hbase, hblk, q1, q2, q3, q4⟩
  · rw [hn]; exact ⟨none, 0, rfl, Nat.le_refl _, ⟨Or.inr ⟨rfl, rfl, rfl⟩⟩, ⟨fun h => absurd (List.length_eq_zero_iff.1 hn) h⟩⟩
  · have hx : ∀ (j : Nat) (u : Value), (flatS l)[j]? = some u → cur.toList[j]? = some u := by
      intro j u hj
      rw [← q4, List.getElem?_take] at hj
      split at hj
      · exact hj
      · simp at hj
    refine ⟨_, cap, rfl, by omega, ⟨Or.inl ⟨_, rfl, lt_of_block hblk, fun j u hj => news_at hblk j u (hx j u hj)⟩⟩, ⟨fun _ => ⟨g, rfl, lt_of_block hblk, fun j u hj => ?_⟩⟩⟩
    rw [cell_of_row w g j cur e (0, 0) hblk]
    simpa using hx j u hj
/-- What the loop of Join holds. -/
structure JoSt (w : World) (len : Nat) (l : List Seg) (T : Option (List By)) (W : World) (j : Nat) (op : Bool) (out : List By) (v : Value) : Prop where
  bel : Below w.heap.size w W
  own : W.ownsRow w.heap.size 9 1 v out.length (out.map sv)
  tot : T = joinP len op out (l.drop j)
  few : out.length ≤ j
  ne : op = true → out ≠ []
  sml : ∀ x ∈ out, x.length ≤ len
theorem below_alloc {w wr : World} (h : Below w.heap.size w wr) (o : Obj) : Below w.heap.size w (wr.alloc o) := h.alloc h.size o

theorem row_own_lt {w : World} {base : Nat} {e : TypeId} {size : Nat} {v : Value} {n : Nat} {xs : List Value} (h : w.ownsRow base e size v n xs) {k : Nat} (hk : v.ownBlock = some k) : k < w.heap.size := by
  rcases h.2 with ⟨rfl, _⟩ | ⟨g, cap, cur, rfl, _, hb, _⟩
  · simp [Value.ownBlock] at hk
  · have : g = k := Option.some.inj hk
    subst this; exact lt_of_block hb

set_option maxRecDepth 100000 in
set_option maxHeartbeats 4000000 in
theorem join_seg (ad : Option Addr) (cap B : Nat) (l : List Seg) (len : Nat) (w : World) (hN : SegsAt w B ad l) (hB : B ≤ w.heap.size) (hl : l.length ≤ 1000000) (hlen : len ≤ 1000) (hk : ∀ s ∈ l, s.2.2.length ≤ 1000) :
    Calls Tryz.prog 117 #[.int .i64 len, .slice ad l.length cap] w fun e w' => UPost w (joinP len false [] l) e w' := by
  obtain ⟨i0, hi0, hz0, hz1, hz2⟩ := info_parts info9
  have HS := Lib.hid (show JoSt w len l (joinP len false [] l) w 0 false [] (.slice none 0 0) from ⟨Below.refl _ _, own_nil _ _ _ _, by rw [List.drop_zero], Nat.le_refl _, fun h => (by cases h), fun x hx => (by cases hx)⟩)
  generalize joinP len false [] l = T at HS ⊢
  have HK := Lib.hid hk
  have HN := Lib.hid hN
  clear hk hN
  go_enter Tryz.func117, Tryz.ntmps117
  go_wp2_with fail
  go_loopw [6, 7, 12] (fun v o k wr => ∃ (j : Nat) (op : Bool) (out : List By), j ≤ l.length ∧ k = .int .i64 j ∧ o = .bool op ∧ JoSt w len l T wr j op out v) (fun _ _ k _ => l.length - (intOf k).toNat)
  case atStart => exact ⟨0, false, [], by omega, rfl, rfl, HS.out⟩
  case round =>
    clear HS
    obtain ⟨j, op, out, hj, rfl, rfl, hS⟩ := hrel
    have HB := Lib.hid hS.bel
    have HO := Lib.hid hS.own
    have hfew := hS.few
    by_cases hlt : j < l.length
    · have hsl := HK.out l[j] (List.getElem_mem hlt)
      obtain ⟨f1, f2, f3⟩ := flatS_get l j hlt
      obtain ⟨b, rfl, hpb, hp⟩ := HN.out.src (fun h => by rw [h] at hlt; exact absurd hlt (by simp))
      have hbB : b < w.heap.size := Nat.lt_of_lt_of_le hpb hB
      have c0 := (hS.bel.cell (p := ⟨b, j * 3, none⟩) hbB).trans (hp _ _ f1)
      have c1 := (hS.bel.cell (p := ⟨b, j * 3 + 1, none⟩) hbB).trans (hp _ _ f2)
      have c2 := (hS.bel.cell (p := ⟨b, j * 3 + 2, none⟩) hbB).trans (hp _ _ f3)
      have hT := hS.tot
      rw [List.drop_eq_getElem_cons hlt, joinP] at hT
      have HNE := Lib.hid hS.ne
      have HSM := Lib.hid hS.sml
      clear hS f1 f2 f3 hp
      generalize l[j] = x at hT c0 c1 c2 hsl
      obtain ⟨bf, af, d⟩ := x
      replace hsl : d.length ≤ 1000 := hsl
      replace c0 : wr.cell? ⟨b, j * 3, none⟩ = some (.bool bf) := c0
      replace c1 : wr.cell? ⟨b, j * 3 + 1, none⟩ = some (.bool af) := c1
      replace c2 : wr.cell? ⟨b, j * 3 + 2, none⟩ = some (.string ⟨d.toArray⟩) := c2
      simp only at hT
      have hbx := below_alloc HB.out (.cells #[.bool bf, .bool af, .string ⟨d.toArray⟩] 163)
      have HBX := Lib.hid hbx
      clear hbx
      by_cases hbo : bf = op
      rotate_left
      · have HT := Lib.hid (show T = none by rw [hT, if_neg (fun h => hbo h.1)])
        clear hT
        cases bf <;> cases op <;> first | exact absurd rfl hbo | skip
        all_goals
          go_wp2_with fail
          go_ret2
          exact UPost.no HT.out HBX.out
      subst hbo
      cases bf with
      | false =>
        have hj1 : jstep false out d = out ++ [d] := rfl
        rw [hj1, last_snoc] at hT
        replace hT : T = if d.length ≤ len then joinP len af (out ++ [d]) (l.drop (j + 1)) else none := by
          rw [hT]; simp
        have hown2 := HO.out.alloc (.cells #[.bool false, .bool af, .string ⟨d.toArray⟩] 163)
        have hgq : (wr.alloc (.cells #[.bool false, .bool af, .string ⟨d.toArray⟩] 163)).heap[wr.heap.size]? = some (.cells #[.bool false, .bool af, .string ⟨d.toArray⟩] 163 (0, 0)) := heap_alloc_new _ _
        have HGQ := Lib.hid (cell_at (i := 1) (v := .bool af) ((halloc _ (.cells #[.string ⟨d.toArray⟩] 9) (lt_of_block hgq)).trans hgq) rfl)
        clear hgq
        go_wp2_with (at_builtin; go_must (refine wpList_append_own _ rfl _ _ 24 rfl w.heap.size 9 i0 (.string ByteArray.empty) 1 16 Tryz.underlying24 hi0 hz0 hz1 hz2 rfl (by decide) _ _ _ rfl (hown2.alloc _) _ 1 1 [.string ⟨d.toArray⟩] rfl rfl (news_at (cs := #[.string ⟨d.toArray⟩]) (heap_alloc2_new _ _ _)) (by simp [Value.oneCell']) (by unfold maxLen; (try simp) <;> omega) (by (try simp) <;> omega) (by have := HBX.out.size; simp at this ⊢; omega) ?_))
        intro v6 w6 hown6 hg6 _
        have hbA := HBX.out.alloc HBX.out.size (.cells #[.string ⟨d.toArray⟩] 9)
        have hb6 := hbA.grown hg6 hbA.size (fun k hk => row_own hown2 hk)
        have s1 := hg6.cell HGQ.out (fun h => by have := row_own_lt HO.out h.symm; exact absurd this (Nat.lt_irrefl _))
        have hown7 : w6.ownsRow w.heap.size 9 1 v6 (out ++ [d]).length ((out ++ [d]).map sv) := by simpa [sv] using hown6
        obtain ⟨g, cp, rfl, _, _, hcell, _, _⟩ := row_set hown7 out.length (by simp)
        rw [List.getElem_append_right (Nat.le_refl _)] at hcell
        simp only [Nat.sub_self, List.getElem_cons_zero] at hcell
        have HB6 := Lib.hid hb6
        have HO7 := Lib.hid hown7
        clear hown2 hown6 hg6 hbA hb6 hown7
        rw [show (out ++ [d]).length = out.length + 1 by simp]
        by_cases hdl : d.length ≤ len
        · have HZ := Lib.hid (show JoSt w len l T w6 (j + 1) af (out ++ [d]) (.slice (some ⟨g, 0, none⟩) (out ++ [d]).length cp) from ⟨HB6.out, HO7.out, by rw [hT, if_pos hdl], by rw [List.length_append]; simp only [List.length_singleton]; omega, fun _ => by simp, fun x hx => by
            rcases List.mem_append.1 hx with hx | hx
            · exact HSM.out x hx
            · rw [List.mem_singleton.1 hx]; exact hdl⟩)
          rw [show (out ++ [d]).length = out.length + 1 by simp] at HZ
          have hdI : ¬ (len : Int) < (d.length : Int) := by omega
          clear hdl hT HO7
          go_wp2_with fail
          go_roundw
          case rel => exact ⟨j + 1, af, out ++ [d], by omega, by go_num, rfl, HZ.out⟩
          case measure => simp [intOf]; omega
        · have HT := Lib.hid (show T = none by rw [hT, if_neg hdl])
          have hdI : (len : Int) < (d.length : Int) := by omega
          clear hdl hT HO7
          go_wp2_with fail
          go_ret2
          exact UPost.no HT.out HB6.out
      | true =>
        obtain ⟨o1, a1, rfl⟩ : ∃ o1 a1, out = o1 ++ [a1] := ⟨_, _, (List.dropLast_concat_getLast (HNE.out rfl)).symm⟩
        replace hT : T = if (a1 ++ d).length ≤ len then joinP len af (o1 ++ [a1 ++ d]) (l.drop (j + 1)) else none := by
          rw [hT]; unfold jstep; rw [if_pos rfl, putLast_snoc, last_snoc]; simp
        have ha1 := HSM.out a1 (by simp)
        obtain ⟨g, cp, rfl, hg, hgl, hcell, hfr, hset⟩ := row_set HO.out o1.length (by simp)
        rw [List.getElem_append_right (Nat.le_refl _)] at hcell
        simp only [Nat.sub_self, List.getElem_cons_zero] at hcell
        have HSET := Lib.hid (fun (W : World) (b : By) (h : W.heap[g]? = wr.heap[g]?) => (by
          have h2 := hset W b h
          rw [set_last, show (o1 ++ [a1]).length = o1.length + 1 by simp] at h2; exact h2 : (W.setCell ⟨g, o1.length, none⟩ (.string ⟨b.toArray⟩)).ownsRow w.heap.size 9 1 (.slice (some ⟨g, 0, none⟩) (o1.length + 1) cp) (o1 ++ [b]).length ((o1 ++ [b]).map sv)))
        have HT := Lib.hid hT
        clear hset hT
        rw [show (o1 ++ [a1]).length = o1.length + 1 by simp]
        have n1 : ¬ 9223372036854775807 < a1.length + d.length := by omega
        have n2 : o1.length + 1 ≤ j := by rw [List.length_append, List.length_singleton] at hfew; exact hfew
        go_wp2_with fail
        obtain ⟨W9, hW9⟩ : ∃ W9, W9 = wr.alloc (.cells #[.bool true, .bool af, .string ⟨d.toArray⟩] 163) := ⟨_, rfl⟩
        have hg9 : W9.heap[wr.heap.size]? = some (.cells #[.bool true, .bool af, .string ⟨d.toArray⟩] 163 (0, 0)) := by rw [hW9]; exact heap_alloc_new _ _
        have hb9 : Below wr.heap.size wr W9 := by rw [hW9]; exact (Below.refl _ _).alloc (Nat.le_refl _) _
        rw [← hW9]
        have s2 := cell_at (i := 2) (v := .string ⟨d.toArray⟩) hg9 rfl
        have c9 := (hb9.cell (p := ⟨g, o1.length, none⟩) hgl).trans hcell
        have f9 := (hb9.frozen (p := ⟨g, o1.length, none⟩) hgl).trans hfr
        have hset9 := HSET.out W9 (a1 ++ d) (hb9.block g hgl)
        have hB9 := (HB.out.trans (hb9.mono HB.out.size)).setCell (p := ⟨g, o1.length, none⟩) hg (.string ⟨(a1 ++ d).toArray⟩)
        have hg10 := (Below.heap_setCell W9 ⟨g, o1.length, none⟩ (.string ⟨(a1 ++ d).toArray⟩) wr.heap.size (show wr.heap.size ≠ g by omega)).trans hg9
        have HO10 := Lib.hid (own_below hset9 below_drew1)
        have HB10 := Lib.hid (hB9.trans (below_drew1.mono hB9.size))
        have HG10 := Lib.hid hg10
        clear hW9 hg9 hb9 hset9 hB9 hg10 hcell hfr HO
        go_region
        obtain ⟨W10, hW10⟩ : ∃ W10, W10 = (W9.setCell ⟨g, o1.length, none⟩ (.string ⟨(a1 ++ d).toArray⟩)).drew := ⟨_, rfl⟩
        have hO10 := HO10.out
        have hB10 := HB10.out
        have hG10 : W10.heap[wr.heap.size]? = some (.cells #[.bool true, .bool af, .string ⟨d.toArray⟩] 163 (0, 0)) := by rw [hW10]; exact HG10.out
        clear HO10 HB10 HG10
        rw [← hW10] at hO10 hB10 ⊢
        have s1 := cell_at (i := 1) (v := .bool af) hG10 rfl
        have c10 := row_cell hO10 o1.length (by simp)
        rw [List.getElem_append_right (Nat.le_refl _)] at c10
        simp only [Nat.sub_self, List.getElem_cons_zero] at c10
        have HB6 := Lib.hid hB10
        have HO7 := Lib.hid hO10
        clear hW10 hG10 hB10 hO10
        have hlx : (a1 ++ d).length = a1.length + d.length := List.length_append
        by_cases hdl : (a1 ++ d).length ≤ len
        · have HZ := Lib.hid (show JoSt w len l T W10 (j + 1) af (o1 ++ [a1 ++ d]) (.slice (some ⟨g, 0, none⟩) (o1.length + 1) cp) from ⟨HB6.out, HO7.out, by rw [HT.out, if_pos hdl], by rw [List.length_append]; simp only [List.length_singleton]; omega, fun _ => by simp, fun x hx => by
            rcases List.mem_append.1 hx with hx | hx
            · exact HSM.out x (List.mem_append.2 (Or.inl hx))
            · rw [List.mem_singleton.1 hx]; exact hdl⟩)
          have hdI : ¬ (len : Int) < ((a1 ++ d).length : Int) := by omega
          generalize a1 ++ d = y at *
          clear hdl HT HO7 hlx
          go_wp2_with fail
          go_roundw
          case rel => exact ⟨j + 1, af, o1 ++ [y], by omega, by go_num, rfl, HZ.out⟩
          case measure => simp [intOf]; omega
        · have HT2 := Lib.hid (show T = none by rw [HT.out, if_neg hdl])
          have hdI : (len : Int) < ((a1 ++ d).length : Int) := by omega
          generalize a1 ++ d = y at *
          clear hdl HT HO7 hlx
          go_wp2_with fail
          go_ret2
          exact UPost.no HT2.out HB6.out
    · have hT := hS.tot
      have e : l.drop j = [] := List.drop_eq_nil_of_le (by omega)
      rw [e, joinP] at hT
      clear hS
      cases op with
      | true =>
        have HT := Lib.hid (show T = none from hT)
        clear hT
        go_wp2_with fail
        go_ret2
        exact UPost.no HT.out HB.out
      | false =>
        have HT := Lib.hid (show T = some out from hT)
        clear hT
        go_wp2_with fail
        go_ret2
        exact UPost.yes HT.out HO.out HB.out
end

end Go.Proofs.YthkpcalopmddpaaGreatDoor
