/-
  Walks: a log of which some sectors of one copy cannot be read: they are marked, the log is read, the copy is made anew. Condition: both copies hold the log.
-/
import Derived.Test.YtjpkdhnponcciaaGreatDoorCM16
import Derived.Test.YtjpkdhnponcciaaGreatDoorCP10
namespace Go.Proofs.YtjpkdhnponcciaaGreatDoor
open Go.RowKit Go.Sort

/-- A sector of a store can no longer be read. -/
def Mm.harm (M : Mm) (i : Nat) : Mm := { M with bad := fun k => if k = i then true else M.bad k }
theorem badL_set (m : List (Int × Bool)) (n k : Nat) : badL (aset m (n : Int) true) k = (if k = n then true else badL m k) := by
  unfold badL
  rw [alook_aset]
  by_cases h : k = n
  · subst h; simp
  · rw [if_neg (by omega), if_neg h]
theorem MmAt.harm {w w' : World} {k : Bk} {M : Mm} (h : MmAt w k M) (n : Nat) {m : List (Int × Bool)} (hb : M.bad = badL m) (ha : amap w' k.mb (Value.int .i64) Value.bool I64 (aset m (n : Int) true)) (ho : Only [k.mb] w w') : MmAt w' k (M.harm n) := by
  have h1 : k.p ∉ [k.mb] := by simpa using h.ne.2.1
  have h2 : k.rb ∉ [k.mb] := by simpa using h.ne.2.2
  have hlt := h.lt
  have hos := ho.size
  refine ⟨ho.heap h.row h1, fun i hi => ?_, fun i => ?_, ⟨_, ha, ?_⟩, h.ne, by omega, h.len, h.full, h.fz⟩
  · rw [ho.cell (p := ⟨k.rb, i, none⟩) (by show k.rb < _; omega) h2]; exact h.secs i hi
  · have : w'.frozen? ⟨k.rb, i, none⟩ = w.frozen? ⟨k.rb, i, none⟩ := World.frozen?_of_block (w := w) (ho.block k.rb (by omega) h2)
    rw [this]; exact h.free i
  · funext j
    rw [badL_set]
    show (if j = n then true else M.bad j) = _
    rw [hb]
theorem Dm.harm {h : Hw} {R : List Rc} {T F : Mm} (s : Dm h R T F) (i : Nat) (hi : i < h.n) : Dm h R (T.harm i) F := by
  refine ⟨s.ok, ⟨s.t.len, s.t.head, s.t.body⟩, s.f, s.cl, s.fu, s.full, fun k hk => ?_⟩
  by_cases e : k = i
  · omega
  · exact s.bad k (by simpa [Mm.harm, e] using hk)
theorem Dm.hdT {h : Hw} {R : List Rc} {T F : Mm} (s : Dm h R T F) (x : Hw) (hx : hdC (some T) = some x) : x.n ≤ T.secs.length := by
  cases hb : T.bad 0 with
  | true => rw [hdC_bad hb] at hx; cases hx
  | false => rw [hdC_is s.t s.ok.ok hb] at hx; cases hx; exact s.t.len
theorem Dm.bgA {h : Hw} {R : List Rc} {T F : Mm} (s : Dm h R T F) : BgH (some T) (some F) := by
  have h1 := s.t.len
  have h2 := s.f.len
  have h3 := s.ok.ok.n
  exact ⟨fun M e => by cases e; omega, fun M e => by cases e; omega, fun M x e hx => by cases e; exact s.hdT x hx, fun M x e hx => by cases e; rw [s.hdF] at hx; cases hx; exact h2⟩
theorem Dm.bgB {h : Hw} {R : List Rc} {T F : Mm} (s : Dm h R T F) : BgH (some F) (some T) := by
  have h1 := s.t.len
  have h2 := s.f.len
  have h3 := s.ok.ok.n
  exact ⟨fun M e => by cases e; omega, fun M e => by cases e; omega, fun M x e hx => by cases e; rw [s.hdF] at hx; cases hx; exact h2, fun M x e hx => by cases e; exact s.hdT x hx⟩
/-- The log of the law: copy T may be damaged, the second one if sec. -/
structure DmAt (w : World) (lb : Nat) (ka kb : Bk) (n : Nat) (h : Hw) (R : List Rc) (sec : Bool) (T F : Mm) (W : World) : Prop where
  lg : LgAt W lb ka kb (some (cond sec F T)) (some (cond sec T F))
  dm : Dm h R T F
  ln : T.secs.length = n
  n : h.n = n
  bel : Below w.heap.size w W
  lo : (∀ x, x ∈ ka.s ∨ x ∈ kb.s → w.heap.size ≤ x) ∧ w.heap.size ≤ lb
theorem DmAt.below {w W W' : World} {lb : Nat} {ka kb : Bk} {n : Nat} {h : Hw} {R : List Rc} {sec : Bool} {T F : Mm} (s : DmAt w lb ka kb n h R sec T F W) (hb : Below W.heap.size W W') : DmAt w lb ka kb n h R sec T F W' :=
  ⟨s.lg.below hb, s.dm, s.ln, s.n, s.bel.trans (hb.mono s.bel.size), s.lo⟩
theorem LawAB.dm {w W : World} {lb : Nat} {ka kb : Bk} {n : Nat} {h : Hw} {R : List Rc} {A B : Mm} (s : LawAB w lb ka kb n h R A B W) (sec : Bool) : DmAt w lb ka kb n h R sec (cond sec B A) (cond sec A B) W := by
  obtain ⟨a1, a2, a3⟩ := s.log.a A rfl
  obtain ⟨b1, b2, b3⟩ := s.log.b B rfl
  have fa := (s.lg.a A rfl).full
  have fb := (s.lg.b B rfl).full
  cases sec with
  | false => exact ⟨s.lg, ⟨s.log.ok, a1, b1, b2, ⟨a3, b3⟩, ⟨fa, fb⟩, fun k hk => by rw [show (cond false B A) = A from rfl, a2 k] at hk; cases hk⟩, s.ln.1, s.n, s.bel, s.lo⟩
  | true => exact ⟨s.lg, ⟨s.log.ok, b1, a1, a2, ⟨b3, a3⟩, ⟨fb, fa⟩, fun k hk => by rw [show (cond true B A) = B from rfl, b2 k] at hk; cases hk⟩, s.ln.2, s.n, s.bel, s.lo⟩
theorem DmAt.mT {w W : World} {lb : Nat} {ka kb : Bk} {n : Nat} {h : Hw} {R : List Rc} {sec : Bool} {T F : Mm} (s : DmAt w lb ka kb n h R sec T F W) : MmAt W (cond sec kb ka) T := by
  cases sec with
  | false => exact s.lg.a T rfl
  | true => exact s.lg.b T rfl
/-- A sector is marked. -/
theorem DmAt.harm {w W W' : World} {lb : Nat} {ka kb : Bk} {n : Nat} {h : Hw} {R : List Rc} {sec : Bool} {T F : Mm} (s : DmAt w lb ka kb n h R sec T F W) (i : Nat) (hi : i < n) {m : List (Int × Bool)} (hb : T.bad = badL m) (ha : amap W' (cond sec kb ka).mb (Value.int .i64) Value.bool I64 (aset m (i : Int) true))
    (ho : Only [(cond sec kb ka).mb] W W') : DmAt w lb ka kb n h R sec (T.harm i) F W' := by
  have hm := s.mT.harm i hb ha ho
  have hd := s.dm.harm i (by rw [s.n]; exact hi)
  have dis := s.lg.dis
  have lt := s.lg.lt
  have lbn := s.lg.lbn
  have hbel : Below w.heap.size w W' := s.bel.trans (ho.below s.bel.size (fun x hx => by
    rw [List.mem_singleton] at hx
    subst hx
    cases sec with
    | false => exact s.lo.1 ka.mb (Or.inl (by simp))
    | true => exact s.lo.1 kb.mb (Or.inr (by simp))))
  refine ⟨?_, hd, s.ln, s.n, hbel, s.lo⟩
  cases sec with
  | false =>
    have hka : ka.mb ∈ ka.s := by simp
    refine ⟨ho.heap s.lg.row (fun e => lbn.1 (by rw [List.mem_singleton] at e; rw [e]; exact hka)), fun M e => by cases e; exact hm, fun M e => ?_, dis, fun x hx => Nat.lt_of_lt_of_le (lt x hx) ho.size, lbn⟩
    exact (s.lg.b M e).only ho (fun x hx e => dis ka.mb hka (by rw [List.mem_singleton] at e; rw [show ka.mb = x from e.symm]; exact hx))
  | true =>
    have hkb : kb.mb ∈ kb.s := by simp
    refine ⟨ho.heap s.lg.row (fun e => lbn.2 (by rw [List.mem_singleton] at e; rw [e]; exact hkb)), fun M e => ?_, fun M e => by cases e; exact hm, dis, fun x hx => Nat.lt_of_lt_of_le (lt x hx) ho.size, lbn⟩
    exact (s.lg.a M e).only ho (fun x hx e => by rw [List.mem_singleton] at e; exact dis x hx (by rw [show x = kb.mb from e]; exact hkb))
theorem all_of {h : Hw} {R : List Rc} (ok : LgOk h R) : (if max (h.first : Int) 1 < (h.first : Int) then (([] : List Rc), (18 : Int)) else (R.filter fun r => decide ((h.first : Int) ≤ r.last), 0)) = (R, 0) := by
  have := ok.first
  rw [if_neg (by omega), chain_all ok.chain]
/-- All is read of a log of which one copy is damaged. -/
theorem read_d {w W : World} {lb : Nat} {ka kb : Bk} {n : Nat} {h : Hw} {R : List Rc} {sec : Bool} {T F : Mm} (s : DmAt w lb ka kb n h R sec T F W) :
    Calls Tryz.prog 28 #[.pointer (some ⟨lb, 0, none⟩), .int .i64 (h.first : Nat)] W fun e w' => ∃ v X T', e = .returned (.tuple #[v, .int .i64 0]) ∧ X.map Lr.rc = R ∧ LrsAt w' W.heap.size v X ∧ DmAt w lb ka kb n h R sec T' F w' ∧ Only (ka.s ++ kb.s) W w' := by
  have hfi := s.dm.ok.first
  have hfn := s.dm.ok.ok.first
  have hI : I64 (h.first : Int) := i64_of (by omega) (by omega)
  have hfit : ∀ {C D : Cp} {M N : Mm}, C = some M → D = some N → h.n ≤ M.secs.length → h.n ≤ N.secs.length → HdFit h C D := fun e1 e2 k1 k2 => ⟨s.dm.ok.ok.n, fun X e => by rw [e1] at e; cases e; exact k1, fun X e => by rw [e2] at e; cases e; exact k2⟩
  have hlen : (posW h h.at' (R.takeWhile fun _ => true)).length ≤ 1000000 := by rw [posW_len, takeWhile_true]; have := s.dm.ok.len; omega
  cases sec with
  | false =>
    obtain ⟨T', hbg, hd⟩ := s.dm.beginA
    have hw := hd.walkA (fun _ => true)
    have hr := read_of hbg hw (h.first : Int)
    have hln : T'.secs.length = T.secs.length := by
      have := (beginV_ln (some T) (some F)).1
      rw [hbg] at this
      exact this.of
    have := lread_w W lb ka kb (some T) (some F) (h.first : Int) hI s.lg s.dm.bgA (fun _ => by rw [hbg]; exact hfit rfl rfl hd.t.len hd.f.len) (fun _ => by rw [hbg]; show (walkV _ _ h _).1.length ≤ _; rw [hw]; exact hlen)
    rw [hr, all_of s.dm.ok] at this
    refine this.mono ?_
    rintro e w' ⟨⟨v, X, rfl, hX, hrow⟩, hL, ho⟩
    exact ⟨v, X, T', rfl, hX, hrow, ⟨hL, hd, by rw [hln, s.ln], s.n, s.bel.trans (ho.below s.bel.size (fun x hx => s.lo.1 x (fS_mem hx))), s.lo⟩, ho⟩
  | true =>
    obtain ⟨T', hbg, hd⟩ := s.dm.beginB
    have hw := hd.walkB (fun _ => true)
    have hr := read_of hbg hw (h.first : Int)
    have hln : T'.secs.length = T.secs.length := by
      have := (beginV_ln (some F) (some T)).2
      rw [hbg] at this
      exact this.of
    have := lread_w W lb ka kb (some F) (some T) (h.first : Int) hI s.lg s.dm.bgB (fun _ => by rw [hbg]; exact hfit rfl rfl hd.f.len hd.t.len) (fun _ => by rw [hbg]; show (walkV _ _ h _).1.length ≤ _; rw [hw]; exact hlen)
    rw [hr, all_of s.dm.ok] at this
    refine this.mono ?_
    rintro e w' ⟨⟨v, X, rfl, hX, hrow⟩, hL, ho⟩
    exact ⟨v, X, T', rfl, hX, hrow, ⟨hL, hd, by rw [hln, s.ln], s.n, s.bel.trans (ho.below s.bel.size (fun x hx => s.lo.1 x (fS_mem hx))), s.lo⟩, ho⟩
/-- The damaged copy is made anew. -/
theorem copy_d {w W : World} {lb : Nat} {ka kb : Bk} {n : Nat} {h : Hw} {R : List Rc} {sec : Bool} {T F : Mm} (s : DmAt w lb ka kb n h R sec T F W) :
    Calls Tryz.prog 29 #[.pointer (some ⟨lb, 0, none⟩), .bool sec] W fun e w' => ∃ A B, e = .returned (.int .i64 0) ∧ OpSt w ka kb h R A B [(lb, true, true)] w' := by
  have hop : ∀ {A B : Mm} {w' : World}, LgAt w' lb ka kb (some A) (some B) → Log (some A) (some B) h R → Only (ka.s ++ kb.s) W w' → OpSt w ka kb h R A B [(lb, true, true)] w' := fun hL L ho =>
    ⟨hL.st, L, fun m p q hx => by
      rw [List.mem_singleton] at hx
      cases hx
      exact ⟨hL.row, hL.lbn, Or.inl rfl⟩, s.bel.trans (ho.below s.bel.size (fun x hx => s.lo.1 x (List.mem_append.1 hx))), s.lo.1⟩
  have d1 := s.dm.dup.1
  cases sec with
  | false =>
    have := copy_w W lb ka kb (some T) (some F) false s.lg s.dm.bgA
    have e : copyV (some T) (some F) false = (0, some (dupV T F h).2, some F) := by
      unfold copyV cpyV
      rw [if_neg (by simp), s.dm.hdF]
      simp only
      rw [d1]
    rw [e] at this
    refine this.mono ?_
    rintro e w' ⟨rfl, hL, ho⟩
    exact ⟨_, _, rfl, hop hL s.dm.log.1 ho⟩
  | true =>
    have := copy_w W lb ka kb (some F) (some T) true s.lg s.dm.bgB
    have e : copyV (some F) (some T) true = (0, some F, some (dupV T F h).2) := by
      unfold copyV cpyV
      rw [if_pos rfl, s.dm.hdF]
      simp only
      rw [d1]
    rw [e] at this
    refine this.mono ?_
    rintro e w' ⟨rfl, hL, ho⟩
    exact ⟨_, _, rfl, hop hL s.dm.log.2 ho⟩
end Go.Proofs.YtjpkdhnponcciaaGreatDoor
