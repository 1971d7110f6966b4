/-
  The pool of pages: slices.IndexFunc and slices.DeleteFunc, asked by the closure that strikes places from the map. No condition.
-/
import Derived.Test.YtbocefnfhnnbjaaN0
namespace Go.Proofs.Ytbocefnfhnnbjaa
open Go.RowKit Go.Sort

/-- Places, cell by cell. -/
def plF : List Pl → List Value
  | [] => []
  | x :: l => .int .i64 x.1 :: .int .i64 x.2 :: plF l
theorem plF_len : ∀ l : List Pl, (plF l).length = l.length * 2
  | [] => rfl
  | x :: l => by simp [plF, plF_len l]; omega
theorem plF_append : ∀ l m : List Pl, plF (l ++ m) = plF l ++ plF m
  | [], _ => rfl
  | x :: l, m => by simp [plF, plF_append l m]
theorem plF_take : ∀ (l : List Pl) (i : Nat), (plF l).take (i * 2) = plF (l.take i)
  | [], i => by simp [plF]
  | x :: l, 0 => by simp [plF]
  | x :: l, i + 1 => by
    rw [show (i + 1) * 2 = i * 2 + 1 + 1 by omega]
    simp [plF, plF_take l i]
theorem plF_set : ∀ (l : List Pl) (i : Nat) (x : Pl), ((plF l).set (i * 2) (.int .i64 x.1)).set (i * 2 + 1) (.int .i64 x.2) = plF (l.set i x)
  | [], i, x => by simp [plF]
  | y :: l, 0, x => by simp [plF]
  | y :: l, i + 1, x => by
    rw [show (i + 1) * 2 = i * 2 + 1 + 1 by omega]
    simp [plF, plF_set l i x]
theorem plF_get : ∀ (l : List Pl) (i : Nat) (h : i < l.length), (plF l)[i * 2]? = some (.int .i64 l[i].1) ∧ (plF l)[i * 2 + 1]? = some (.int .i64 l[i].2)
  | [], i, h => by simp at h
  | x :: l, 0, _ => ⟨rfl, rfl⟩
  | x :: l, i + 1, h => by
    have := plF_get l i (by simpa using h)
    rw [show (i + 1) * 2 = i * 2 + 1 + 1 by omega]
    simpa [plF] using this
theorem pl_own {w : World} {base : Nat} {e : TypeId} {size : Nat} {v : Value} {n : Nat} {xs : List Value} (h : w.ownsRow base e size v n xs) {k : Nat} (hk : v.ownBlock = some k) : base ≤ k := by
  rcases h.2 with ⟨rfl, _⟩ | ⟨g, cap, cur, rfl, hg, _⟩
  · simp [Value.ownBlock] at hk
  · have : g = k := Option.some.inj hk
    omega
theorem pl_below {w w' : World} {base : Nat} {e : TypeId} {size : Nat} {v : Value} {n : Nat} {xs : List Value} (h : w.ownsRow base e size v n xs) (hb : Below w.heap.size w w') : w'.ownsRow base e size v n xs := by
  obtain ⟨h1, h2⟩ := h
  refine ⟨h1, ?_⟩
  rcases h2 with h2 | ⟨g, cap, cur, hv, hg, hh, r⟩
  · exact Or.inl h2
  · exact Or.inr ⟨g, cap, cur, hv, hg, heap_below hb (lt_of_block hh) hh, r⟩
theorem pl_only {w w' : World} {base : Nat} {e : TypeId} {size : Nat} {v : Value} {n : Nat} {xs : List Value} {S : List Nat} (h : w.ownsRow base e size v n xs) (ho : Only S w w') (hs : ∀ k, v.ownBlock = some k → k ∉ S) : w'.ownsRow base e size v n xs := by
  obtain ⟨h1, h2⟩ := h
  refine ⟨h1, ?_⟩
  rcases h2 with h2 | ⟨g, cap, cur, hv, hg, hh, r⟩
  · exact Or.inl h2
  · exact Or.inr ⟨g, cap, cur, hv, hg, (ho.block g (lt_of_block hh) (hs g (by subst hv; rfl))).trans hh, r⟩
theorem pl_mono {w : World} {base base' : Nat} {e : TypeId} {size : Nat} {v : Value} {n : Nat} {xs : List Value} (h : w.ownsRow base e size v n xs) (hb : base' ≤ base) : w.ownsRow base' e size v n xs := by
  obtain ⟨h1, h2⟩ := h
  refine ⟨h1, ?_⟩
  rcases h2 with h2 | ⟨g, cap, cur, hv, hg, r⟩
  · exact Or.inl h2
  · exact Or.inr ⟨g, cap, cur, hv, Nat.le_trans hb hg, r⟩
theorem pl_lt {w : World} {base : Nat} {e : TypeId} {size : Nat} {v : Value} {n : Nat} {xs : List Value} (h : w.ownsRow base e size v n xs) {k : Nat} (hk : v.ownBlock = some k) : k < w.heap.size := by
  rcases h.2 with ⟨rfl, _⟩ | ⟨g, cap, cur, rfl, _, hb, _⟩
  · simp [Value.ownBlock] at hk
  · have : g = k := Option.some.inj hk
    subst this; exact lt_of_block hb
/-- An own row of places. -/
abbrev Ord (w : World) (base : Nat) (oa : Option Addr) (oc : Nat) (O : List Pl) : Prop := w.ownsRow base 104 2 (.slice oa O.length oc) O.length (plF O)
theorem Ord.form {w : World} {base : Nat} {oa : Option Addr} {oc : Nat} {O : List Pl} (h : Ord w base oa oc O) (hO : O ≠ []) : ∃ g, oa = some ⟨g, 0, none⟩ ∧ base ≤ g ∧ g < w.heap.size := by
  have hl : 0 < O.length := List.length_pos_iff.2 hO
  rcases h.2 with ⟨_, h0⟩ | ⟨g, cap, cur, hv, hb, hg, _⟩
  · omega
  · injection hv with e1 _ _
    exact ⟨g, e1, hb, lt_of_block hg⟩
theorem Ord.cells {w : World} {base g : Nat} {oc : Nat} {O : List Pl} (h : Ord w base (some ⟨g, 0, none⟩) oc O) {i : Nat} (hi : i < O.length) : w.cell? ⟨g, i * 2, none⟩ = some (.int .i64 O[i].1) ∧ w.cell? ⟨g, i * 2 + 1, none⟩ = some (.int .i64 O[i].2) := by
  obtain ⟨h1, h2⟩ := plF_get O i hi
  exact ⟨(World.ownsRow.cellAt h (i * 2) (by omega)).trans h1, (World.ownsRow.cellAt h (i * 2 + 1) (by omega)).trans h2⟩
theorem Ord.set {w : World} {base g : Nat} {oc : Nat} {O : List Pl} (h : Ord w base (some ⟨g, 0, none⟩) oc O) (i : Nat) (x : Pl) :
    Ord ((w.setCell ⟨g, i * 2, none⟩ (.int .i64 x.1)).setCell ⟨g, i * 2 + 1, none⟩ (.int .i64 x.2)) base (some ⟨g, 0, none⟩) oc (O.set i x) := by
  have h1 := (World.ownsRow.stored h (i * 2) (.int .i64 x.1)).1
  have h2 := (World.ownsRow.stored h1 (i * 2 + 1) (.int .i64 x.2)).1
  rw [plF_set] at h2
  unfold Ord
  rw [List.length_set]
  exact h2
theorem own_cut {w : World} {base g cap n : Nat} {xs : List Value} (h : w.ownsRow base 104 2 (.slice (some ⟨g, 0, none⟩) n cap) n xs) {i : Nat} (hi : i ≤ n) : w.ownsRow base 104 2 (.slice (some ⟨g, 0, none⟩) i cap) i (xs.take (i * 2)) := by
  obtain ⟨h1, h2⟩ := h
  refine ⟨by rw [List.length_take, h1]; omega, ?_⟩
  rcases h2 with ⟨hv, _⟩ | ⟨g', cap', cur, hv, hb, hg, q1, q2, q3, q4⟩
  · cases hv
  · refine Or.inr ⟨g', cap', cur, ?_, hb, hg, by omega, q2, q3, ?_⟩
    · injection hv with e1 _ e3
      rw [e1, e3]
    · rw [← q4, List.take_take]
      congr 1
      have : i * 2 ≤ n * 2 := by omega
      omega
theorem own_setCells {base g cap n : Nat} : ∀ (vs : List Value) (o : Nat) (w : World) (xs : List Value), w.ownsRow base 104 2 (.slice (some ⟨g, 0, none⟩) n cap) n xs → ∃ ys, (w.setCells g o vs).ownsRow base 104 2 (.slice (some ⟨g, 0, none⟩) n cap) n ys ∧ ∀ k, k ≤ o → ys.take k = xs.take k
  | [], o, w, xs, h => ⟨xs, h, fun _ _ => rfl⟩
  | v :: vs, o, w, xs, h => by
    obtain ⟨ys, h1, h2⟩ := own_setCells vs (o + 1) _ _ (World.ownsRow.stored h o v).1
    refine ⟨ys, h1, fun k hk => ?_⟩
    rw [h2 k (by omega), List.take_set_of_le hk]
theorem only_setCells (g : Nat) : ∀ (vs : List Value) (o : Nat) (w : World), Only [g] w (w.setCells g o vs)
  | [], _, w => Only.refl _ _
  | v :: vs, o, w => (((Only.refl [g] w).setCell (p := ⟨g, o, none⟩) (Or.inl (by simp)) v)).trans (only_setCells g vs (o + 1) _)

theorem only_cell {S : List Nat} {w w' : World} (h : Only S w w') {p : Addr} (hp : p.block < w.heap.size) (hn : p.block ∉ S) : w'.cell? p = w.cell? p := World.cell?_of_block (w := w) (h.block p.block hp hn)
/-- The closure that strikes places, and what it reads. -/
structure DelEnv (S : List Nat) (w : World) (wb xb pb mb g : Nat) (capt : Array Value) (acc : Pl → Bool) : Prop where
  w0 : w.heap[wb]? = some (.cells #[.func (.func g) #[] capt] 110 (0, 0))
  x0 : w.heap[xb]? = some (.cells #[.pointer (some ⟨pb, 0, none⟩)] 53 (0, 0))
  p0 : ∃ v0 v2 v3 v4, w.heap[pb]? = some (.cells #[v0, .map (some mb), v2, v3, v4] 93 (0, 0))
  wn : wb ∉ S
  xn : xb ∉ S
  pn : pb ∉ S
  mn : mb ∈ S
  ask : AsksO S w g capt acc
theorem DelEnv.only {S : List Nat} {w w' : World} {wb xb pb mb g : Nat} {capt : Array Value} {acc : Pl → Bool} (h : DelEnv S w wb xb pb mb g capt acc) (ho : Only S w w') : DelEnv S w' wb xb pb mb g capt acc :=
  ⟨ho.heap h.w0 h.wn, ho.heap h.x0 h.xn, by obtain ⟨a, b, c, d, e⟩ := h.p0; exact ⟨a, b, c, d, ho.heap e h.pn⟩, h.wn, h.xn, h.pn, h.mn, ⟨fun W x hb hx => h.ask.call W x (ho.trans hb) hx, h.ask.enter⟩⟩
theorem DelEnv.call {S : List Nat} {w : World} {wb xb pb mb g : Nat} {capt : Array Value} {acc : Pl → Bool} {M : List (Pl × Ct)} (h : DelEnv S w wb xb pb mb g capt acc) (hm : amap w mb kPlace vCt okP M) (x : Pl) (hx : okP x) :
    Calls Try.prog 61 #[kPlace x, .pointer (some ⟨wb, 0, none⟩), .pointer (some ⟨xb, 0, none⟩)] w fun e w' => e = .returned (.bool (acc x)) ∧ amap w' mb kPlace vCt okP (if acc x = true then adel M x else M) ∧ Only [mb] w w' := by
  obtain ⟨v0, v2, v3, v4, hp⟩ := h.p0
  exact del_any w wb xb pb mb g capt acc x M v0 v2 v3 v4 h.w0 h.x0 hp hm ⟨fun W y hb hy => h.ask.call W y (Only.of_below hb) hy, h.ask.enter⟩ hx

theorem DelEnv.map {S : List Nat} {w w' : World} {wb xb pb mb g : Nat} {capt : Array Value} {acc : Pl → Bool} (h : DelEnv S w wb xb pb mb g capt acc) (ho : Only [mb] w w') : DelEnv S w' wb xb pb mb g capt acc :=
  h.only (ho.mono (fun k hk _ => by obtain rfl := List.mem_singleton.1 hk; exact h.mn))

/-- The first place that is asked for. -/
def idxF (acc : Pl → Bool) : List Pl → Nat → Option Nat
  | [], _ => none
  | x :: l, n => if acc x = true then some n else idxF acc l (n + 1)
def idxV : Option Nat → Value
  | some n => .int .i64 n
  | none => .int .i64 (-1)
def delI (M : List (Pl × Ct)) (O : List Pl) : Option Nat → List (Pl × Ct)
  | some k => match O[k]? with
    | some x => adel M x
    | none => M
  | none => M

attribute [local go_sem ↓] loadPl_down storePl_down
set_option maxRecDepth 100000 in
set_option maxHeartbeats 4000000 in
theorem idx_any (S : List Nat) (w : World) (base : Nat) (oa : Option Addr) (oc : Nat) (O : List Pl) (wb xb pb mb g : Nat) (capt : Array Value) (acc : Pl → Bool) (M : List (Pl × Ct))
    (ho : Ord w base oa oc O) (hl : O.length ≤ 100000) (hok : ∀ x ∈ O, okP x) (he : DelEnv S w wb xb pb mb g capt acc) (hm : amap w mb kPlace vCt okP M) (hn : ∀ q, oa = some q → q.block ≠ mb) :
    Calls Try.prog 68 #[.slice oa O.length oc, .func (.func 61) #[] #[.pointer (some ⟨wb, 0, none⟩), .pointer (some ⟨xb, 0, none⟩)]] w fun e w' => e = .returned (idxV (idxF acc O 0)) ∧ amap w' mb kPlace vCt okP (delI M O (idxF acc O 0)) ∧ Only [mb] w w' := by
  have HT0 := Lib.hid (show idxF acc O 0 = idxF acc (O.drop 0) 0 from rfl)
  have HD := Lib.hid (show ∀ k, k < O.length → delI M O (some k) = adel M O[k]! from fun k hk => by simp [delI, hk])
  generalize hT : idxF acc O 0 = T at HT0 ⊢
  have HO := Lib.hid ho
  have HE := Lib.hid he
  have HM := Lib.hid hm
  have HOK := Lib.hid hok
  clear ho he hm hok hT
  go_enter Try.func68, Try.ntmps68
  go_wp2_with fail
  go_loopw [8] (fun k wr => ∃ j : Nat, j ≤ O.length ∧ k = .int .i64 j ∧ T = idxF acc (O.drop j) j ∧ amap wr mb kPlace vCt okP M ∧ Only [mb] w wr) (fun k _ => O.length - (intOf k).toNat)
  case atStart => exact ⟨0, by omega, rfl, HT0.out, HM.out, Only.refl _ _⟩
  case round =>
    clear HT0
    obtain ⟨j, hj, rfl, hT, hmr, hor⟩ := hrel
    have HMR := Lib.hid hmr
    have HOR := Lib.hid hor
    by_cases hlt : j < O.length
    · have hltI : (j : Int) < (O.length : Int) := by omega
      obtain ⟨g1, rfl, hbg, hgl⟩ := HO.out.form (by intro e; rw [e] at hlt; simp at hlt)
      obtain ⟨c0, c1⟩ := HO.out.cells hlt
      have hne : g1 ≠ mb := hn _ rfl
      have c0 := (only_cell hor (p := ⟨g1, j * 2, none⟩) hgl (by simpa using hne)).trans c0
      have c1 := (only_cell hor (p := ⟨g1, j * 2 + 1, none⟩) hgl (by simpa using hne)).trans c1
      have hx := HOK.out O[j] (List.getElem_mem hlt)
      have dl := loadPl_mid c0 c1
      have HC := Lib.hid ((HE.out.map hor).call hmr O[j] hx)
      rw [List.drop_eq_getElem_cons hlt, idxF] at hT
      have HGE := Lib.hid (show O[j]! = O[j] from getElem!_pos O j hlt)
      have hlj := HD.out j hlt
      clear hmr hor hx c0 c1
      generalize O[j] = x at dl HC hT HGE
      obtain ⟨x1, x2⟩ := x
      simp only at dl
      have HC := Lib.hid (show Calls Try.prog 61 #[.agg #[.int .i64 x1, .int .i64 x2], .pointer (some ⟨wb, 0, none⟩), .pointer (some ⟨xb, 0, none⟩)] wr (fun e w' => e = .returned (.bool (acc (x1, x2))) ∧ amap w' mb kPlace vCt okP (if acc (x1, x2) = true then adel M (x1, x2) else M) ∧ Only [mb] wr w') from HC.out)
      have HT := Lib.hid hT
      clear hT
      generalize acc (x1, x2) = q at HC HT
      go_wp2_with fail
      refine HC.out.mono ?_
      rintro e w2 ⟨rfl, hm2, ho2⟩
      have HM2 := Lib.hid hm2
      have HO2 := Lib.hid (HOR.out.trans ho2)
      clear hm2 ho2 dl
      cases q with
      | true =>
        have HQ := Lib.hid (show T = some j by rw [HT.out, if_pos rfl])
        have HMF := Lib.hid (show amap w2 mb kPlace vCt okP (delI M O T) by rw [HQ.out, hlj, HGE.out]; simpa using HM2.out)
        go_wp2_with fail
        go_ret
        exact ⟨by rw [HQ.out]; rfl, HMF.out, HO2.out⟩
      | false =>
        have HQ := Lib.hid (show T = idxF acc (O.drop (j + 1)) (j + 1) by rw [HT.out, if_neg (by simp)])
        have HMF := Lib.hid (show amap w2 mb kPlace vCt okP M by simpa using HM2.out)
        go_wp2_with fail
        go_roundw
        case rel => exact ⟨j + 1, by omega, by go_num, HQ.out, HMF.out, HO2.out⟩
        case measure => simp [intOf]; omega
    · have hltI : ¬ (j : Int) < (O.length : Int) := by omega
      have HQ := Lib.hid (show T = none by rw [hT, List.drop_eq_nil_of_le (by omega)]; rfl)
      clear hT hmr hor
      go_wp2_with fail
      go_ret
      rw [HQ.out]
      exact ⟨rfl, HMR.out, HOR.out⟩

end Go.Proofs.Ytbocefnfhnnbjaa
