import PyProof.Rows.All
import Wide.All
import OpenK.AllK
import Wide.FinOn
import PySem.Challenge.RW_rh0192_01
set_option Elab.async false
set_option maxRecDepth 100000
namespace Mine
open PySem PySem.W PySem.Calls PyProof.Rows

section
variable {prog : Program} {w : World} {A : Around} {E : Value → Shared → Prop} {s : Shared} {h₀ : Heap} {L : Addr} {m : Str → Option Value}

theorem pow6 {t u : Tok} {Q : Value → Shared → Prop}
    (h : Q (.int 1000000 s.toks) { s with toks := s.toks + 1 }) : wpAny (model prog w) A (binaryOp .Pow (.int 10 t) (.int 6 u)) Q E s :=
  pow_int_small (by decide) (by decide) (by decide) (by exact h)
theorem pow9 {t u : Tok} {Q : Value → Shared → Prop}
    (h : Q (.int 1000000000 s.toks) { s with toks := s.toks + 1 }) : wpAny (model prog w) A (binaryOp .Pow (.int 10 t) (.int 9 u)) Q E s :=
  pow_int_small (by decide) (by decide) (by decide) (by exact h)

/-- What a call of _law_pick hands back, whichever way it went: an int within its bound, the pen's count one more, all else as it was. -/
def PickJ (many c : Int) (l : Addr) (v0 v2 : Value) (n0 : Nat) (rest : List (Addr × Obj)) (h₀ : Heap) (L : Addr) (m : Str → Option Value) (s : Shared) (v : Value) (s' : Shared) : Prop :=
  ∃ (i : Int) (t tp : Tok) (h : Heap) (tk : Nat), v = .int i t ∧ 0 ≤ i ∧ i < many ∧ s' = { s with heap := h, toks := tk } ∧ Fr h₀ L h m ∧ News h₀ L h ((l, listOf #[v0, .int c tp, v2] n0) :: rest)

theorem pick_end {many c i : Int} {l : Addr} {v0 v2 v : Value} {n0 tk : Nat} {rest all : List (Addr × Obj)} {s' : Shared} {h : Heap} {t tp : Tok}
    (hv : v = .int i t) (hs : s' = { s with heap := h, toks := tk }) (F : Fr h₀ L h m) (N : News h₀ L h all)
    (sub : ∀ p ∈ (l, listOf #[v0, .int c tp, v2] n0) :: rest, p ∈ all) (lo : 0 ≤ i) (hi : i < many) : PickJ many c l v0 v2 n0 rest h₀ L m s v s' :=
  ⟨i, t, tp, h, tk, hv, lo, hi, hs, F, fun p hp => N p (sub p hp)⟩

theorem pick_join0 {Q : Value → Shared → Prop} {l x : Addr} {k r many : Int} {t1 t2 : Tok} {n0 : Nat} {rest : List (Addr × Obj)} {env : Env} {p1 p2 p3 : Pos} {a0 : Expr}
    (F : Fr h₀ L s.heap m) (N : News h₀ L s.heap ((l, listOf #[.ref x, .int k t1, .int r t2] n0) :: rest))
    (hc : wpAny (model prog w) A (eval (.Call (.Name (Str.ofString "_law_pick") p1) [a0, .Constant (.int many) 0 p2] [] p3) env) (fun v s₂ => PickJ many (k + 1) l (.ref x) (.int r t2) n0 rest h₀ L m s v s₂) E s)
    (hk : ∀ i t tp h tk, 0 ≤ i → i < many → Fr h₀ L h m → News h₀ L h ((l, listOf #[.ref x, .int (k + 1) tp, .int r t2] n0) :: rest) → Q (.int i t) { s with heap := h, toks := tk }) :
    wpAny (model prog w) A (eval (.Call (.Name (Str.ofString "_law_pick") p1) [a0, .Constant (.int many) 0 p2] [] p3) env) Q E s := by
  refine wpAny_mono hc (fun v s₂ hq => ?_) fun _ _ h => h
  obtain ⟨i, t, tp, h, tk, rfl, lo, hi, rfl, F', N'⟩ := hq
  exact hk i t tp h tk lo hi F' N'

theorem pick_join1 {Q : Value → Shared → Prop} {y l x : Addr} {oy : Obj} {k r many : Int} {t1 t2 : Tok} {n0 : Nat} {rest : List (Addr × Obj)} {env : Env} {p1 p2 p3 : Pos} {a0 : Expr}
    (F : Fr h₀ L s.heap m) (N : News h₀ L s.heap ((y, oy) :: (l, listOf #[.ref x, .int k t1, .int r t2] n0) :: rest))
    (hc : wpAny (model prog w) A (eval (.Call (.Name (Str.ofString "_law_pick") p1) [a0, .Constant (.int many) 0 p2] [] p3) env) (fun v s₂ => PickJ many (k + 1) l (.ref x) (.int r t2) n0 ((y, oy) :: rest) h₀ L m s v s₂) E s)
    (hk : ∀ i t tp h tk, 0 ≤ i → i < many → Fr h₀ L h m → News h₀ L h ((l, listOf #[.ref x, .int (k + 1) tp, .int r t2] n0) :: (y, oy) :: rest) → Q (.int i t) { s with heap := h, toks := tk }) :
    wpAny (model prog w) A (eval (.Call (.Name (Str.ofString "_law_pick") p1) [a0, .Constant (.int many) 0 p2] [] p3) env) Q E s := by
  refine wpAny_mono hc (fun v s₂ hq => ?_) fun _ _ h => h
  obtain ⟨i, t, tp, h, tk, rfl, lo, hi, rfl, F', N'⟩ := hq
  exact hk i t tp h tk lo hi F' N'

/-- The menu of seconds at an open place: a number below nought, or one in 0 .. 10^6. -/
theorem menu7 {news : List (Addr × Obj)} {l : Addr} {t0 t1 t2 t3 t4 t5 t6 u : Tok} {n0 : Nat} {i : Int} {value slice : Expr} {Q : Value → Shared → Prop}
    (N : News h₀ L s.heap news)
    (hm : (l, listOf #[.int 0 t0, .int 4095 t1, .int 120 t2, .int (-1) t3, .int 4096 t4, .int 1000000 t5, .int (0 - 1000000000) t6] n0) ∈ news)
    (lo : 0 ≤ i) (hi : i < 7)
    (hn : ∀ n t, n < 0 → Q (.int n t) s) (hp : ∀ n t, 0 ≤ n → n ≤ 1000000 → Q (.int n t) s)
    (hs : subscripted slice false (.ref l) (.int i u) = operate [.ref l, .int i u] (getItem (.ref l) (.int i u)) := by with_unfolding_all rfl) :
    wpAny (model prog w) A (subscriptTail value slice (.ref l) (.int i u)) Q E s := by
  have hl : s.heap.IsList l #[.int 0 t0, .int 4095 t1, .int 120 t2, .int (-1) t3, .int 4096 t4, .int 1000000 t5, .int (0 - 1000000000) t6] := ⟨_, (N _ hm).1, rfl, _, rfl⟩
  have h7 : i = 0 ∨ i = 1 ∨ i = 2 ∨ i = 3 ∨ i = 4 ∨ i = 5 ∨ i = 6 := by omega
  rcases h7 with rfl | rfl | rfl | rfl | rfl | rfl | rfl
  · exact tail_any hl.typeIs slot_list_getitem.lookup (wpAny_getItem_list hl (by decide) (by decide) (by rfl) (hp _ _ (by decide) (by decide))) hs
  · exact tail_any hl.typeIs slot_list_getitem.lookup (wpAny_getItem_list hl (by decide) (by decide) (by rfl) (hp _ _ (by decide) (by decide))) hs
  · exact tail_any hl.typeIs slot_list_getitem.lookup (wpAny_getItem_list hl (by decide) (by decide) (by rfl) (hp _ _ (by decide) (by decide))) hs
  · exact tail_any hl.typeIs slot_list_getitem.lookup (wpAny_getItem_list hl (by decide) (by decide) (by rfl) (hn _ _ (by decide))) hs
  · exact tail_any hl.typeIs slot_list_getitem.lookup (wpAny_getItem_list hl (by decide) (by decide) (by rfl) (hp _ _ (by decide) (by decide))) hs
  · exact tail_any hl.typeIs slot_list_getitem.lookup (wpAny_getItem_list hl (by decide) (by decide) (by rfl) (hp _ _ (by decide) (by decide))) hs
  · exact tail_any hl.typeIs slot_list_getitem.lookup (wpAny_getItem_list hl (by decide) (by decide) (by rfl) (hn _ _ (by decide))) hs
end

section
variable {M : Model} {A : Around} {E : Value → Shared → Prop} {s s' : Shared}

/-- An object of class C just made, its texts in a tuple; all that stood stands. -/
def Born (C : Addr) (s : Shared) (v : Value) (s₁ : Shared) : Prop :=
  ∃ (e t : Addr) (oe : Obj) (ws : Array Value) (vs : List Value) (h' : Heap) (tk' : Nat), v = .ref e ∧ s₁ = { s with heap := h', toks := tk' } ∧ (∀ b o, s.heap.get? b = some o → h'.get? b = some o) ∧
    s.heap.get? e = none ∧ h'.get? e = some oe ∧ oe.cls = .ref C ∧ oe.data = .fields ws ∧ ws[1]? = some .none ∧ ws[0]? = some (.ref t) ∧ s.heap.get? t = none ∧ h'.TupAt t vs

theorem raise_born {C : Addr} {x : Expr} {pos : Pos} {env : Env} {Q : Flow → Shared → Prop} {nm q : Str} {N : Addr} {bs bm : List Value} {hdct : Bool} {sn : List Str} {sub : List Value} {ab : Bool} {col : Option Bool}
    {dd : Option Addr} {k0 k1 k2 k3 k5 : Option Value} {newId : String} (hh : A.handled = none)
    (hC : s.heap.get? C = some (excClassObj nm q C N bs bm hdct sn sub ab col dd k0 k1 k2 k3 k5 newId)) (hbase : bm.contains (.type "BaseException") = true)
    (h : wpAny M A (eval x env) (fun v s₁ => Born C s v s₁) E s)
    (hE : ∀ (e t : Addr) (oe : Obj) (ws : Array Value) (vs : List Value) (h' : Heap) (tk' : Nat), (∀ b o, s.heap.get? b = some o → h'.get? b = some o) → s.heap.get? e = none → h'.get? e = some oe → oe.cls = .ref C → oe.data = .fields ws →
      ws[1]? = some .none → ws[0]? = some (.ref t) → s.heap.get? t = none → h'.TupAt t vs → E (.ref e) { s with heap := h', toks := tk' }) :
    wpAny M A (exec (.Raise (some x) none pos) env) Q E s := by
  have hcB : (Value.ref C :: bm).contains (.type "BaseException") = true := by rw [List.contains_cons, hbase, Bool.or_true]
  show wpAny M A (do standAt pos; raiseStmt env (some (do let v ← eval x env; standAt pos; pure v)) none) Q E s
  refine wpAny_bind (wpAny_standAt ?_)
  unfold raiseStmt
  dsimp only
  refine wpAny_bind (wpAny_bind (wpAny_mono h (fun v s₁ h₁ => wpAny_bind (wpAny_standAt (wpAny_pure ?_))) fun _ _ x => x))
  obtain ⟨e, t, oe, ws, vs, h', tk', rfl, rfl, x1, x2, x3, x4, x5, x6, x7, x8, x9⟩ := h₁
  have hC' := x1 _ _ hC
  have hgo := hE e t oe ws vs h' tk' x1 x2 x3 x4 x5 x6 x7 x8 x9
  obtain ⟨ocls, odict, odata, oslots⟩ := oe
  dsimp only at x4 x5
  subst x4 x5
  repeat (first | with_reducible refine wpAny_field x3 rfl x6 ?_ | with_reducible refine wpAny_loadPart_at x3 ?_ | with_reducible refine wpAny_loadPart_at hC' ?_ | (with_reducible refine wpAny_isSubtype_exc hC' ?_; rw [hcB]) | rw [x6] | wp_step)
  exact wpAny_raiseNew_none hh hgo

theorem leave_first {base g h : Heap} {env : Env} {outer : List Env} {L e t : Addr} {m : Str → Option Value} {cls : Value} {Q : Unit → Shared → Prop} {oe : Obj} {ws : Array Value} {vs : List Value}
    (K : Below A base outer g) (F : Fr g L h m) (keeps : ∀ b o, h.get? b = some o → s'.heap.get? b = some o) (new : h.get? e = none) (he : s'.heap.get? e = some oe) (hcls : oe.cls = cls) (hd : oe.data = .fields ws)
    (h1 : ws[1]? = some .none) (h0 : ws[0]? = some (.ref t)) (htn : h.get? t = none) (ht : s'.heap.TupAt t vs)
    (hQ : ∀ h', RaisedK base outer e cls t vs [] h' → g.UpToSlots h' → Q () { s' with heap := h' }) (hf : env.frame = some L := by rfl) (hk : env.scope.kind ≠ .module := by (intro q; cases q)) :
    wpAny M (A.deeper env) (leaving env (.ref e)) Q E s' := by
  have stays : base.StaysIn h := fun b o q => F.keep b o (K.stays b o q)
  have fresh : ∀ b, h.get? b = none → base.get? b = none := fun b hb => by
    cases hq : base.get? b with
    | none => rfl
    | some o' => have z := stays b o' hq; rw [hb] at z; cases z
  have hnew : base.get? L = none := by
    cases hq : base.get? L with
    | none => rfl
    | some o => exact absurd (Nat.lt_of_lt_of_le (Heap.lt_size (K.stays L o hq)) F.above) (Nat.lt_irrefl _)
  have fr : h.FunFrames base (env :: outer) := .cons hk hf F.ns hnew (K.frames.of_keeps fun b o e _ => ⟨o, F.keep b o e, rfl⟩)
  refine wpAny_leaving_firstW (a0 := .ref t) (Around.frames_deeper K.stack) (fr.of_keeps fun b o hb _ => ⟨o, keeps b o hb, rfl⟩) hf he (fun b o hb => keeps b o (stays b o hb)) (fresh e new) hd h1 h0 fun h' hL => ?_
  obtain ⟨k1, ⟨_, _, k2⟩, k3, k4⟩ := hL
  refine hQ h' ⟨⟨base, fun b o q => q, fun q hq => (nomatch hq), ⟨k1, fresh e new, k2, hcls ▸ k3⟩, fresh t htn⟩, ht.of_slots k4⟩ ?_
  exact ((Heap.UpToSlots.of_keeps F.keep).trans (Heap.UpToSlots.of_keeps keeps)).trans k4
end
theorem x_at {M : Model} {A : Around} {E : Value → Shared → Prop} {s : Shared} {α : Type} {c : Sem α} {Q : α → Shared → Prop} {K : Frag} {h₀ : Heap} {L : Addr} {m : Str → Option Value}
    (X : K.In h₀) (F : Fr h₀ L s.heap m) (h : K.In s.heap → wpAny M A c Q E s) : wpAny M A c Q E s := h (X.keeps F.keep)
theorem born_call {M : Model} {A : Around} {E : Value → Shared → Prop} {s : Shared} {C : Addr} {c : Sem Value} {Q : Value → Shared → Prop} {K : Frag} {h₀ : Heap} {L : Addr} {m : Str → Option Value}
    (X : K.In h₀) (F : Fr h₀ L s.heap m) (h : K.In s.heap → wpAny M A c (fun v s₁ => Born C s v s₁) (fun _ _ => False) s) (hq : ∀ v s₁, Born C s v s₁ → Q v s₁) : wpAny M A c Q E s :=
  wpAny_mono (h (X.keeps F.keep)) hq fun _ _ x => False.elim x
theorem born_end {s : Shared} {h : Heap} {g : Array GenState} {d : Drawn} {tk : Nat} {os : OsState} {news : List (Addr × Obj)} {C e t : Addr} {oe ot : Obj} {ws : Array Value} {vs : List Value} {n i j : Nat}
    (D : X.Mem s.heap h [] news) (hg : s.gens = g) (hd : s.drawn = d) (ho : s.os = os) (he : news[i]? = some (e, oe)) (ht : news[j]? = some (t, ot)) (hc : oe.cls = .ref C) (hf : oe.data = .fields ws) (w1 : ws[1]? = some .none)
    (w0 : ws[0]? = some (.ref t)) (tc : ot.cls = .type "tuple") (td : ot.data = .seq vs.toArray n) : Born C s (.ref e) ⟨h, g, d, tk, os⟩ := by
  subst hg hd ho
  have me := D.nw _ (List.mem_of_getElem? he)
  have mt := D.nw _ (List.mem_of_getElem? ht)
  exact ⟨e, t, oe, ws, vs, h, tk, rfl, rfl, fun b o q => D.keep b o q (Bool.or_eq_true_iff.mpr (.inr rfl)), me.2, me.1, hc, hf, w1, w0, mt.2, ot, n, mt.1, tc, td⟩

section
variable {prog : Program} {w : World} {A : Around} {E : Value → Shared → Prop} {s : Shared} {h₀ : Heap} {L : Addr} {m : Str → Option Value} {env : Env}

/-- The source of a comprehension: a range by any step, its turns numbered. -/
def SrcD (prog : Program) (w : World) (A : Around) (h₀ : Heap) (L : Addr) (m : Str → Option Value) (env : Env) (elt : Expr) (x : Str) (scope : Scope) (cl : List (Str × Addr)) (Fin : Shared → List Value → List (Addr × Obj) → Prop) (xv : Value) (s₁ : Shared) : Prop :=
  ∃ (r : Addr) (a b c : Int) (t u v : Tok) (n : Nat) (news : List (Addr × Obj)), xv = .ref r ∧ A.handled = none ∧ Fr h₀ L s₁.heap m ∧ News h₀ L s₁.heap news ∧ IsRange s₁.heap r a b c t u v ∧ Builtin.Range.small a b c = true ∧
    Builtin.Range.rangeSize a b c = ((n : Nat) : Int) ∧ n ≤ sizeLine ∧
    ∀ g : Heap, LCg.CompRest prog w A h₀ L m env elt x scope cl { s₁ with heap := g } (fun _ => True) (fun i v => ∃ t, v = .int (a + (i : Int) * c) t) (Fin { s₁ with heap := g }) n 0 [] news

theorem src_down {elt : Expr} {x : Str} {scope : Scope} {cl : List (Str × Addr)} {Fin : Shared → List Value → List (Addr × Obj) → Prop} {r : Addr} {a b c : Int} {t u v : Tok} {n : Nat} {news : List (Addr × Obj)} {s₁ : Shared}
    (hh : A.handled = none) (F : Fr h₀ L s₁.heap m) (N : News h₀ L s₁.heap news) (hr : IsRange s₁.heap r a b c t u v) (hsm : Builtin.Range.small a b c = true) (hn : Builtin.Range.rangeSize a b c = ((n : Nat) : Int)) (hsz : n ≤ sizeLine)
    (h : ∀ g : Heap, LCg.CompRest prog w A h₀ L m env elt x scope cl { s₁ with heap := g } (fun _ => True) (fun i v => ∃ t, v = .int (a + (i : Int) * c) t) (Fin { s₁ with heap := g }) n 0 [] news) :
    SrcD prog w A h₀ L m env elt x scope cl Fin (.ref r) s₁ := ⟨r, a, b, c, t, u, v, n, news, rfl, hh, F, N, hr, hsm, hn, hsz, h⟩

/-- The ledger when a comprehension's own frame alone has turned. -/
theorem news_past {h h' : Heap} {C D : Addr} {o : Obj} {l : List (Addr × Obj)} (N : News h₀ L h ((D, o) :: l)) (turn : Heap.SameBut C h h') (dc : C ≠ D) (off : ∀ p ∈ l, p.1 ≠ C) : News h₀ L h' ((D, o) :: l) := by
  intro p hp
  have e : p.1 ≠ C := by
    cases hp with
    | head => exact fun q => dc q.symm
    | tail _ q => exact off p q
  exact ⟨turn.extBut _ _ e (N p hp).1, (N p hp).2⟩

theorem comp_down {elt iter : Expr} {x : Str} {px : Pos} {scope : Scope} {cl : List (Str × Addr)} {pos : Pos} {Q : Value → Shared → Prop} (F₀ : Fr h₀ L s.heap m)
    (hclos : closureFor scope env = pure cl) (hcell : ∀ y ∈ scope.names, y.2 ≠ .cell) (hkind : scope.kind = .function)
    (hnames : ∀ y ∈ scope.names, y.2 = .local → scope.names.lookup y.1 = some .local) (hx : scope.names.lookup x = some .local)
    (h : wpAny (model prog w) A (eval iter env) (fun xv s₁ => SrcD prog w A h₀ L m env elt x scope cl (fun s₂ => LCg.FinE h₀ L m s₂ Q) xv s₁) E s)
    (hs : ∀ x, foldedSetIterable iter env x = pure x := by intro _; rfl) :
    wpAny (model prog w) A (eval (.ListComp elt [⟨.Name x px, iter, [], 0⟩] scope pos) env) Q E s := by
  rw [eval_ListComp]
  refine wpAny_comprehension_free (use := none) rfl hs hclos hkind hnames (wpAny_mono h ?_ fun _ _ e => e)
  rintro _ s₁ ⟨r, a, b, c, t, u, v, n, news, rfl, hh, F, N, hr, hsm, hn, hsz, R⟩
  apply wpAny_pyIter_range hr hsm
  rw [hn]
  generalize hg : Heap.push s₁.heap _ = g
  have grow : ∀ b o, s₁.heap.get? b = some o → g.get? b = some o := fun b o e => hg ▸ Heap.get?_push_of_some _ e
  have here : IsRangeIter g s₁.heap.objs.size (a + ((0 : Nat) : Int) * c) ((n : Int) - ((0 : Nat) : Int)) c := by
    rw [← hg]
    show Heap.get? _ _ = some _
    simpa using Heap.get?_push_size _ rfl
  have room : s₁.heap.objs.size < g.objs.size := by
    rw [← hg, Heap.size_push]
    exact Nat.lt_succ_self _
  have fresh : h₀.get? s₁.heap.objs.size = none := next_is_new F
  refine LCg.block_U (s₂ := { s₁ with heap := g }) (Walks.range hh s₁.heap.objs.size a c n) hsz (fun _ _ it => ⟨_, it⟩) ?stays hcell hkind hx here ?fp (F.keeps grow) (N.grown grow) (Nat.ne_of_lt F.ns.lt) fresh
    (fun p hp => Nat.ne_of_lt (Heap.lt_size (N p hp).1)) trivial (R g) ?fin
  case stays =>
    intro i h h' o _ it at_h at_h' _ _ _
    exact at_h'.trans (at_h.symm.trans it)
  case fp => simpa using room
  case fin => exact fun D C h tk m' ys l F' N' o1 nsC newC newD hCL hDL hCD offC fin => ⟨m', nsC, fun h'' turn => fin D h'' tk (F'.change turn hCL newC) (news_past N' turn hCD offC) o1⟩
end

/-- Behind the picks nothing that the prelude made is asked any more: the ledger may be let go. -/
def Gone : Prop := True
theorem let_go {P : Prop} {h₀ h : Heap} {L : Addr} {m : Str → Option Value} (F : Fr h₀ L h m) (k : News h₀ L h [] → Gone → P) : P := k News.nil True.intro

section
variable {prog : Program} {w : World} {A : Around} {E : Value → Shared → Prop} {s : Shared} {h₀ : Heap} {L : Addr} {m : Str → Option Value}

/-- bytes of the two octets that put_number lists: a number below 2^16, its high part, its low part. -/
theorem make_u16 {news : List (Addr × Obj)} {D : Addr} {t u : Tok} {n e1 e2 : Int} {Q : Value → Shared → Prop} (F : Fr h₀ L s.heap m) (N : News h₀ L s.heap news) (hh : A.handled = none)
    (hm : (D, LCg.lst [.int (Builtin.bitAnd (n.fdiv e1) 255) t, .int (Builtin.bitAnd (n.fdiv e2) 255) u]) ∈ news) (he1 : e1 = 256) (he2 : e2 = 1) (lo : 0 ≤ n) (hi : n < 65536)
    (h : ∀ (p q : Int) h' t' k, p = n / 256 → q = n % 256 → 0 ≤ p ∧ p < 256 → 0 ≤ q ∧ q < 256 → Fr h₀ L h' m → News h₀ L h' news → KBa.In [p, q] → Q (.bytes (byteArr [p, q]) t') { s with heap := h', toks := k }) :
    wpAny (model prog w) A (call (.type "bytes") [.ref D]) Q E s := by
  have e1' : Builtin.bitAnd (n.fdiv e1) 255 = n / 256 := by
    rw [bitAnd_m8, he1, Int.fdiv_eq_ediv_of_nonneg _ (by decide)]; omega
  have e2' : Builtin.bitAnd (n.fdiv e2) 255 = n % 256 := by
    rw [bitAnd_m8, he2, Int.fdiv_eq_ediv_of_nonneg _ (by decide), Int.ediv_one]
  have b1 : 0 ≤ n / 256 ∧ n / 256 < 256 := by omega
  have b2 : 0 ≤ n % 256 ∧ n % 256 < 256 := by omega
  rw [e1', e2'] at hm
  have hin : KBa.In [n / 256, n % 256] := by
    intro k hk
    rcases List.mem_cons.mp hk with rfl | hk
    · exact b1
    · rcases List.mem_cons.mp hk with rfl | hk
      · exact b2
      · cases hk
  exact KBa.make_K F N hh (vs := [.int (n / 256) t, .int (n % 256) u]) (ns := [n / 256, n % 256]) ⟨_, (N _ hm).1, rfl, _, rfl⟩ (.cons _ _ (.cons _ _ .nil)) hin (by simp)
    fun h' t' k F' N' hr => h _ _ h' t' k rfl rfl b1 b2 F' N' hr
end

section
variable {prog : Program} {w : World} {A : Around} {E : Value → Shared → Prop} {s : Shared} {h₀ : Heap} {L : Addr} {m : Str → Option Value}

theorem in_nil : KBa.In [] := fun _ h => nomatch h
theorem in_cons {n : Int} {r : List Int} (h0 : 0 ≤ n) (h1 : n < 256) (hr : KBa.In r) : KBa.In (n :: r) := fun k hk => by
  rcases List.mem_cons.mp hk with rfl | hk
  · exact ⟨h0, h1⟩
  · exact hr k hk
theorem in_app {ks ls : List Int} (h1 : KBa.In ks) (h2 : KBa.In ls) : KBa.In (ks ++ ls) := fun k hk => (List.mem_append.mp hk).elim (h1 k) (h2 k)
theorem bytes_app (ks ls : List Int) : byteArr ks ++ byteArr ls = byteArr (ks ++ ls) := by simp [byteArr]

/-- An octet of bytes whose octets are written out, at a written place. -/
theorem item_lit {ks : List Int} {i k : Int} {t ui : Tok} {value slice : Expr} {Q : Value → Shared → Prop} (hin : KBa.In ks) (hz : ks.length ≤ 1000) (h0 : 0 ≤ i) (hx : ks[i.toNat]? = some k)
    (h : ∀ t' tk, 0 ≤ k → k < 256 → Q (.int k t') { s with toks := tk })
    (hs : subscripted slice false (.bytes (byteArr ks) t) (.int i ui) = operate [.bytes (byteArr ks) t, .int i ui] (getItem (.bytes (byteArr ks) t) (.int i ui)) := by with_unfolding_all rfl)
    (ht : ∀ r, letTemporaryGo value (.bytes (byteArr ks) t) r = pure () := by intro _; with_unfolding_all rfl) : wpAny (model prog w) A (subscriptTail value slice (.bytes (byteArr ks) t) (.int i ui)) Q E s := by
  have hlt : i.toNat < ks.length := (List.getElem?_eq_some_iff.mp hx).1
  have hk := hin k (List.mem_of_getElem? hx)
  refine KBw.item_K (KBa.ints_make hin) (by omega) h0 (by omega) (fun t' tk _ _ => ?_) hs ht
  have e : ks.getD i.toNat 0 = k := by rw [List.getD_eq_getElem?_getD, hx]; rfl
  rw [e]
  exact h t' tk hk.1 hk.2

theorem add_lit {ks ls rs : List Int} {t u : Tok} {Q : Value → Shared → Prop} (h1 : KBa.In ks) (h2 : KBa.In ls) (hz : ks.length + ls.length ≤ 1000) (e : ks ++ ls = rs)
    (h : ∀ t' k, KBa.In rs → Q (.bytes (byteArr rs) t') { s with toks := k }) : wpAny (model prog w) A (binaryOp .Add (.bytes (byteArr ks) t) (.bytes (byteArr ls) u)) Q E s := by
  subst e
  refine KBa.add_K (KBa.ints_make h1) (KBa.ints_make h2) (by omega) fun t' k _ => ?_
  rw [bytes_app]
  exact h t' k (in_app h1 h2)

/-- bytes of a list of two ints within a call's ledger: two letters for its octets. -/
theorem make_lit2 {news : List (Addr × Obj)} {D : Addr} {x y : Int} {t u : Tok} {c : Nat} {Q : Value → Shared → Prop} (F : Fr h₀ L s.heap m) (N : News h₀ L s.heap news) (hh : A.handled = none)
    (hm : (D, listOf #[.int x t, .int y u] c) ∈ news) (x0 : 0 ≤ x) (x1 : x < 256) (y0 : 0 ≤ y) (y1 : y < 256)
    (h : ∀ (p q : Int) h' t' k, p = x → q = y → 0 ≤ p ∧ p < 256 → 0 ≤ q ∧ q < 256 → Fr h₀ L h' m → News h₀ L h' news → KBa.In [p, q] → Q (.bytes (byteArr [p, q]) t') { s with heap := h', toks := k }) :
    wpAny (model prog w) A (call (.type "bytes") [.ref D]) Q E s :=
  KBa.make_K F N hh (vs := [.int x t, .int y u]) (ns := [x, y]) ⟨_, (N _ hm).1, rfl, _, rfl⟩ (.cons _ _ (.cons _ _ .nil)) (in_cons x0 x1 (in_cons y0 y1 in_nil)) (by simp)
    fun h' t' k F' N' hr => h _ _ h' t' k rfl rfl ⟨x0, x1⟩ ⟨y0, y1⟩ F' N' hr

/-- bytes of a list of four written ints. -/
theorem make_lit4 {news : List (Addr × Obj)} {D : Addr} {x y z v : Int} {t u a b : Tok} {c : Nat} {Q : Value → Shared → Prop} (F : Fr h₀ L s.heap m) (N : News h₀ L s.heap news) (hh : A.handled = none)
    (hm : (D, listOf #[.int x t, .int y u, .int z a, .int v b] c) ∈ news) (hin : KBa.In [x, y, z, v])
    (h : ∀ h' t' k, Fr h₀ L h' m → News h₀ L h' news → KBa.In [x, y, z, v] → Q (.bytes (byteArr [x, y, z, v]) t') { s with heap := h', toks := k }) :
    wpAny (model prog w) A (call (.type "bytes") [.ref D]) Q E s :=
  KBa.make_K F N hh (vs := [.int x t, .int y u, .int z a, .int v b]) (ns := [x, y, z, v]) ⟨_, (N _ hm).1, rfl, _, rfl⟩ (.cons _ _ (.cons _ _ (.cons _ _ (.cons _ _ .nil)))) hin (by simp)
    fun h' t' k F' N' hr => h h' t' k F' N' hr
end

section
variable {prog : Program} {w : World} {A : Around} {E : Value → Shared → Prop} {s : Shared} {h₀ : Heap} {L : Addr}

theorem eqAt_bytes (b : Array UInt8) (t u : Tok) : SeqAt.EqAt A s (.bytes b t) (.bytes b u) true := fun prog w E Q h => by
  unfold eqBool
  refine wpAny_holding ?_
  refine wpAny_ite_split (fun _ => wpAny_bind (wpAny_rule (wpAny_pure h))) (fun _ => ?_)
  refine wpAny_bind ?_
  show wpAny (model prog w) A (compareOp .Eq (.bytes b t) (.bytes b u)) _ E s
  refine eq_bytes ?_
  rw [beq_self_eq_true]
  exact wpAny_truthy_bool h

/-- Two pairs of an int and bytes, the same in both: equal. -/
theorem eq_pair {news : List (Addr × Obj)} {a b : Addr} {x y : Int} {ks ls : List Int} {t u t' u' : Tok} {n n' : Nat} {Q : Value → Shared → Prop} (N : News h₀ L s.heap news)
    (ha : (a, { cls := .type "tuple", data := .seq #[.int x t, .bytes (byteArr ks) u] n }) ∈ news) (hb : (b, { cls := .type "tuple", data := .seq #[.int y t', .bytes (byteArr ls) u'] n' }) ∈ news)
    (hu : A.units < cLine) (e1 : x = y) (e2 : ks = ls) (h : Q (.bool true) s) : wpAny (model prog w) A (compareOp .Eq (.ref a) (.ref b)) Q E s := by
  subst e1 e2
  refine SeqAt.RcAt.tuples (e := fun _ => true) ⟨_, (N _ ha).1, rfl, _, rfl⟩ ⟨_, (N _ hb).1, rfl, _, rfl⟩ hu (fun j h1 h2 => ?_) prog w E Q h
  match j, h1, h2 with
  | 0, _, _ => have z := SeqAt.EqAt.int_int (A := A.in1) (s := s) x t x t'; rw [beq_self_eq_true] at z; exact z
  | 1, _, _ => exact eqAt_bytes _ _ _

/-- Two triples of a bool, an int and a bool or None, the same in both: equal. -/
theorem eq_triple {news : List (Addr × Obj)} {a b : Addr} {p q : Bool} {x y : Int} {v v' : Value} {t t' : Tok} {n n' : Nat} {Q : Value → Shared → Prop} (N : News h₀ L s.heap news)
    (ha : (a, { cls := .type "tuple", data := .seq #[.bool p, .int x t, v] n }) ∈ news) (hb : (b, { cls := .type "tuple", data := .seq #[.bool q, .int y t', v'] n' }) ∈ news)
    (hu : A.units < cLine) (e1 : p = q) (e2 : x = y) (e3 : v = v') (h : Q (.bool true) s) : wpAny (model prog w) A (compareOp .Eq (.ref a) (.ref b)) Q E s := by
  subst e1 e2 e3
  refine SeqAt.RcAt.tuples (e := fun _ => true) ⟨_, (N _ ha).1, rfl, _, rfl⟩ ⟨_, (N _ hb).1, rfl, _, rfl⟩ hu (fun j h1 h2 => ?_) prog w E Q h
  match j, h1, h2 with
  | 0, _, _ => exact SeqAt.EqAt.same _
  | 1, _, _ => have z := SeqAt.EqAt.int_int (A := A.in1) (s := s) x t x t'; rw [beq_self_eq_true] at z; exact z
  | 2, _, _ => exact SeqAt.EqAt.same _
end

section
variable {M i p p₃ p₄ q q₃ q₄ : Int}
theorem fdiv256 (a : Int) : a.fdiv 256 = a / 256 := Int.fdiv_eq_ediv_of_nonneg _ (by decide)
theorem fmod256 (a : Int) : a.fmod 256 = a % 256 := Int.fmod_eq_emod_of_nonneg _ (by decide)
theorem hi_yes (h3 : p₃ = p₄ + Int.fdiv 32768 256) (h4 : p₄ = M / 256) (h : p = (128 * if (i == 1) = true then 1 else 0) + M.fdiv 256) (hi : i = 1) : p₃ = p := by
  subst hi
  rw [h3, h4, h, fdiv256, fdiv256, if_pos (by decide)]
  omega
theorem hi_no (h4 : p₄ = M / 256) (h : p = (128 * if (i == 1) = true then 1 else 0) + M.fdiv 256) (hi : ¬ i = 1) : p₄ = p := by
  rw [h4, h, fdiv256, if_neg (by simpa using hi)]
  omega
theorem lo_yes (h3 : q₃ = q₄) (h4 : q₄ = M % 256) (h : q = M.fmod 256) : q₃ = q := by rw [h3, h4, h, fmod256]
theorem lo_no (h4 : q₄ = M % 256) (h : q = M.fmod 256) : q₄ = q := by rw [h4, h, fmod256]
end

section
variable {prog : Program} {w : World} {A : Around} {E : Value → Shared → Prop} {s : Shared}
theorem len_two {a b : Int} {t : Tok} {Q : Value → Shared → Prop} (hin : KBa.In [a, b]) (h : Q (.int 2 (s.toks + 1)) { s with toks := s.toks + 1 + 1 }) : wpAny (model prog w) A (call (.builtin "len") [.bytes (byteArr [a, b]) t]) Q E s :=
  KBw.len_K (KBa.ints_make hin) (by simp) h
theorem len_six {a b c d e f : Int} {t : Tok} {Q : Value → Shared → Prop} (hin : KBa.In [a, b, c, d, e, f]) (h : Q (.int 6 (s.toks + 1)) { s with toks := s.toks + 1 + 1 }) :
    wpAny (model prog w) A (call (.builtin "len") [.bytes (byteArr [a, b, c, d, e, f]) t]) Q E s :=
  KBw.len_K (KBa.ints_make hin) (by simp) h
end

section
variable {prog : Program} {w : World} {A : Around} {E : Value → Shared → Prop} {s : Shared} {h₀ : Heap} {L : Addr} {m : Str → Option Value}
/-- bytes of two written ints. -/
theorem make_two {news : List (Addr × Obj)} {D : Addr} {x y : Int} {t u : Tok} {c : Nat} {Q : Value → Shared → Prop} (F : Fr h₀ L s.heap m) (N : News h₀ L s.heap news) (hh : A.handled = none)
    (hm : (D, listOf #[.int x t, .int y u] c) ∈ news) (hin : KBa.In [x, y])
    (h : ∀ h' t' k, Fr h₀ L h' m → News h₀ L h' news → KBa.In [x, y] → Q (.bytes (byteArr [x, y]) t') { s with heap := h', toks := k }) :
    wpAny (model prog w) A (call (.type "bytes") [.ref D]) Q E s :=
  KBa.make_K F N hh (vs := [.int x t, .int y u]) (ns := [x, y]) ⟨_, (N _ hm).1, rfl, _, rfl⟩ (.cons _ _ (.cons _ _ .nil)) hin (by simp)
    fun h' t' k F' N' hr => h h' t' k F' N' hr
/-- bytes of two ints that come out as written ones. -/
theorem make_known {news : List (Addr × Obj)} {D : Addr} {x y x' y' : Int} {t u : Tok} {Q : Value → Shared → Prop} (F : Fr h₀ L s.heap m) (N : News h₀ L s.heap news) (hh : A.handled = none)
    (hm : (D, LCg.lst [.int x t, .int y u]) ∈ news) (e1 : x = x') (e2 : y = y') (hin : KBa.In [x', y'])
    (h : ∀ h' t' k, Fr h₀ L h' m → News h₀ L h' news → KBa.In [x', y'] → Q (.bytes (byteArr [x', y']) t') { s with heap := h', toks := k }) :
    wpAny (model prog w) A (call (.type "bytes") [.ref D]) Q E s := by
  subst e1 e2
  exact KBa.make_K F N hh (vs := [.int x t, .int y u]) (ns := [x, y]) ⟨_, (N _ hm).1, rfl, _, rfl⟩ (.cons _ _ (.cons _ _ .nil)) hin (by simp)
    fun h' t' k F' N' hr => h h' t' k F' N' hr
theorem bit15 (x : Int) : Builtin.bitAnd x 32768 = (x / 32768 % 2) * 32768 := kbt_bit x 15
theorem low12 (x : Int) : Builtin.bitAnd x 4095 = x % 4096 := kbt_mask x 12
end

theorem due_hi {M i : Int} (lo : 0 ≤ M) (hm : M ≤ 4095) : 0 ≤ (128 * if (i == 1) = true then 1 else 0) + M.fdiv 256 ∧ (128 * if (i == 1) = true then 1 else 0) + M.fdiv 256 < 256 := by
  rw [fdiv256]
  split <;> omega
theorem due_lo (M : Int) : 0 ≤ M.fmod 256 ∧ M.fmod 256 < 256 := by
  rw [fmod256]
  omega
section
variable {prog : Program} {w : World} {A : Around} {E : Value → Shared → Prop} {s : Shared} {h₀ : Heap} {L : Addr}
/-- A number of sixteen bits at most, shifted by sixteen: nought. -/
theorem shr_none {x k : Int} {t u : Tok} {Q : Value → Shared → Prop} (hk : k = 16) (lo : 0 ≤ x) (hi : x < 65536) (h : Q (.int 0 s.toks) { s with toks := s.toks + 1 }) :
    wpAny (model prog w) A (binaryOp .RShift (.int x t) (.int k u)) Q E s := by
  subst hk
  refine rshift_int (by decide) ?_
  have e : x.fdiv (2 ^ (16 : Int).toNat) = 0 := by
    have z : (2 ^ (16 : Int).toNat : Int) = 65536 := by decide
    rw [z, Int.fdiv_eq_ediv_of_nonneg _ (by decide)]
    omega
  rw [e]
  exact h

/-- What the third pick may give. -/
def Keeps (v : Value) : Prop := v = .bool true ∨ v = .bool false ∨ v = .none

/-- The menu [True, False, None] at an open place: one value, not yet told which. -/
theorem menu3 {news : List (Addr × Obj)} {l : Addr} {u : Tok} {n0 : Nat} {i : Int} {value slice : Expr} {Q : Value → Shared → Prop}
    (N : News h₀ L s.heap news) (hm : (l, listOf #[.bool true, .bool false, .none] n0) ∈ news) (lo : 0 ≤ i) (hi : i < 3)
    (h : ∀ v, Keeps v → Q v s)
    (hs : subscripted slice false (.ref l) (.int i u) = operate [.ref l, .int i u] (getItem (.ref l) (.int i u)) := by with_unfolding_all rfl) :
    wpAny (model prog w) A (subscriptTail value slice (.ref l) (.int i u)) Q E s := by
  have hl : s.heap.IsList l #[.bool true, .bool false, .none] := ⟨_, (N _ hm).1, rfl, _, rfl⟩
  have h3 : i = 0 ∨ i = 1 ∨ i = 2 := by omega
  rcases h3 with rfl | rfl | rfl
  · exact tail_any hl.typeIs slot_list_getitem.lookup (wpAny_getItem_list hl (by decide) (by decide) (by rfl) (h _ (.inl rfl))) hs
  · exact tail_any hl.typeIs slot_list_getitem.lookup (wpAny_getItem_list hl (by decide) (by decide) (by rfl) (h _ (.inr (.inl rfl)))) hs
  · exact tail_any hl.typeIs slot_list_getitem.lookup (wpAny_getItem_list hl (by decide) (by decide) (by rfl) (h _ (.inr (.inr rfl)))) hs
end
/-- The end of `if is_restarted: head = ..`, whichever way it went: head's two octets in one form. -/
def HeadJ (i M : Int) (h₀ : Heap) (L : Addr) (m0 : Str → Option Value) (s : Shared) (f : Flow) (s' : Shared) : Prop :=
  ∃ (p q : Int) (t : Tok) (h : Heap) (tk : Nat), f = .next ∧ s' = { s with heap := h, toks := tk } ∧ p = (128 * if (i == 1) = true then 1 else 0) + M.fdiv 256 ∧ q = M.fmod 256 ∧ KBa.In [p, q] ∧
    Fr h₀ L h (fun y => if y = Str.ofString "head" then some (.bytes (byteArr [p, q]) t) else m0 y)

section
variable {i M p₃ p₄ q₃ q₄ : Int} {h₀ h : Heap} {L : Addr} {m0 m2 : Str → Option Value} {s s' : Shared} {f : Flow} {t : Tok} {tk : Nat}
theorem fr_head {p q : Int} (F : Fr h₀ L h (fun y => if y = Str.ofString "head" then some (.bytes (byteArr [p, q]) t) else m2 y)) (h2 : ∀ y, y ≠ Str.ofString "head" → m2 y = m0 y) :
    Fr h₀ L h (fun y => if y = Str.ofString "head" then some (.bytes (byteArr [p, q]) t) else m0 y) := by
  have e : (fun y => if y = Str.ofString "head" then some (.bytes (byteArr [p, q]) t) else m2 y) = fun y => if y = Str.ofString "head" then some (.bytes (byteArr [p, q]) t) else m0 y := by
    funext y
    by_cases hy : y = Str.ofString "head"
    · rw [if_pos hy, if_pos hy]
    · rw [if_neg hy, if_neg hy, h2 y hy]
  exact e ▸ F
theorem head_yes (hf : f = .next) (hs : s' = { s with heap := h, toks := tk }) (F : Fr h₀ L h (fun y => if y = Str.ofString "head" then some (.bytes (byteArr [p₃, q₃]) t) else m2 y))
    (h3 : p₃ = p₄ + Int.fdiv 32768 256) (h4 : p₄ = M / 256) (g3 : q₃ = q₄) (g4 : q₄ = M % 256) (hi : i = 1) (hin : KBa.In [p₃, q₃]) (h2 : ∀ y, y ≠ Str.ofString "head" → m2 y = m0 y) : HeadJ i M h₀ L m0 s f s' :=
  ⟨p₃, q₃, t, h, tk, hf, hs, hi_yes h3 h4 rfl hi, lo_yes g3 g4 rfl, hin, fr_head F h2⟩
theorem head_no (hf : f = .next) (hs : s' = { s with heap := h, toks := tk }) (F : Fr h₀ L h (fun y => if y = Str.ofString "head" then some (.bytes (byteArr [p₄, q₄]) t) else m2 y))
    (h4 : p₄ = M / 256) (g4 : q₄ = M % 256) (hi : ¬ i = 1) (hin : KBa.In [p₄, q₄]) (h2 : ∀ y, y ≠ Str.ofString "head" → m2 y = m0 y) : HeadJ i M h₀ L m0 s f s' :=
  ⟨p₄, q₄, t, h, tk, hf, hs, hi_no h4 rfl hi, lo_no g4 rfl, hin, fr_head F h2⟩
theorem head_join {prog : Program} {w : World} {A : Around} {E : Value → Shared → Prop} {Q : Flow → Shared → Prop} {env : Env} {p1 p2 : Pos} {body : List Stmt}
    (F : Fr h₀ L s.heap (fun y => if y = Str.ofString "head" then some (.bytes (byteArr [p₄, q₄]) t) else m0 y)) (h4 : p₄ = M / 256) (g4 : q₄ = M % 256)
    (hx : m0 (Str.ofString "is_restarted") = some (.bool (i == 1)))
    (hc : wpAny (model prog w) A (exec (.If (.Name (Str.ofString "is_restarted") p1) body [] p2) env) (fun f s₂ => HeadJ i M h₀ L m0 s f s₂) E s)
    (hk : ∀ (p q : Int) t h tk, p = (128 * if (i == 1) = true then 1 else 0) + M.fdiv 256 → q = M.fmod 256 → KBa.In [p, q] → Fr h₀ L h (fun y => if y = Str.ofString "head" then some (.bytes (byteArr [p, q]) t) else m0 y) →
      News h₀ L h [] → Q .next { s with heap := h, toks := tk }) :
    wpAny (model prog w) A (exec (.If (.Name (Str.ofString "is_restarted") p1) body [] p2) env) Q E s := by
  refine wpAny_mono hc (fun f s₂ hq => ?_) fun _ _ h => h
  obtain ⟨p, q, t, h, tk, rfl, rfl, e1, e2, hin, F'⟩ := hq
  exact hk p q t h tk e1 e2 hin F' News.nil
end
theorem same_of {a b x : Int} (h1 : a = x) (h2 : b = x) : a = b := h1.trans h2.symm
section
variable {M i p q : Int}
theorem flag_join (hp : p = (128 * if (i == 1) = true then 1 else 0) + M.fdiv 256) (hq : q = M.fmod 256) (lo : 0 ≤ M) (hm : M ≤ 4095) : (Builtin.bitAnd (p * 256 + q) 32768 != 0) = (i == 1) := by
  rw [fdiv256] at hp
  rw [fmod256] at hq
  rw [bit15]
  by_cases hi : i = 1
  · subst hi
    rw [if_pos (by decide)] at hp
    have e : (p * 256 + q) / 32768 % 2 * 32768 = 32768 := by omega
    rw [e]
    decide
  · rw [if_neg (by simpa using hi)] at hp
    have e : (p * 256 + q) / 32768 % 2 * 32768 = 0 := by omega
    rw [e, beq_eq_false_iff_ne.mpr hi]
    decide
theorem low_join (hp : p = (128 * if (i == 1) = true then 1 else 0) + M.fdiv 256) (hq : q = M.fmod 256) (lo : 0 ≤ M) (hm : M ≤ 4095) : Builtin.bitAnd (p * 256 + q) 4095 = M := by
  rw [fdiv256] at hp
  rw [fmod256] at hq
  rw [low12]
  by_cases hi : i = 1
  · subst hi
    rw [if_pos (by decide)] at hp
    omega
  · rw [if_neg (by simpa using hi)] at hp
    omega
end
/-- An object of the written heap, its texts turned into their signs' codes: one step an entry. -/
theorem at_of {K : Frag} {h : Heap} {a : Nat} {o o' : Obj} {G : Prop} (X : K.In h) (hl : List.lookup a K = some o) (e : o = o') (k : h.get? a = some o' → G) : G := k (e ▸ X a o hl)
theorem dict_e {c : Value} {d : Option Addr} {l l' : List DictEntry} {n : Nat} {sl : Array (Option Value)} (e : l = l') :
    ({ cls := c, dict := d, data := .dict l.toArray n, slots := sl } : Obj) = { cls := c, dict := d, data := .dict (Array.mk l') n, slots := sl } := by
  subst e
  rfl
theorem cons_e {a a' : DictEntry} {l l' : List DictEntry} (h1 : a = a') (h2 : l = l') : a :: l = a' :: l' := by
  subst h1 h2
  rfl
theorem entry_e {P : Params} {x x' : Str} {t : Tok} {v : Value} (e : x = x') : DictEntry.mk (PyData.keyHash P x) (.str x t) v = DictEntry.mk (PyData.keyHash P x') (.str x' t) v := by
  subst e
  rfl
theorem str_e {cs : List Char} {ns : List Nat} (hn : cs.map Char.toNat = ns) : Str.ofString (String.ofList cs) = ⟨Array.mk ns⟩ := by
  rw [PySem.W.Fast.ofString_ofList, hn]
end Mine
open PySem PySem.W PySem.Calls PyProof.Rows
local macro_rules | `(tactic| walk_at "binaryOp Pow int int") => `(tactic| first | (with_reducible refine Mine.pow6 ?_) | (with_reducible refine Mine.pow9 ?_))
local macro_rules | `(tactic| walk_at "eval Call Name cons nil") => `(tactic| (k_here; (with_reducible show wpAny _ _ (eval (Expr.Call (Expr.Name (Str.ofString "_law_pick") _) _ _ _) _) _ _ _); (fail_if_success (with_reducible show wpAny _ _ _ (fun v s₂ => Mine.PickJ _ _ _ _ _ _ _ _ _ _ _ v s₂) _ _)); (first | (refine' Mine.pick_join0 ?pjF ?pjN ?_ ?_; (case pjF => k_asm); (case pjN => k_asm)) | (refine' Mine.pick_join1 ?pjF ?pjN ?_ ?_; (case pjF => k_asm); (case pjN => k_asm))); rotate_left; intro i' t' tp' h' tk' lo' hi' F' N'; (try dsimp only); (try k_sweep); rotate_left; walk_say "PICK JOINED"))
local macro_rules | `(tactic| walk_at "PickJ") => `(tactic| ((refine Mine.pick_end (by with_unfolding_all rfl) (by with_unfolding_all rfl) (by assumption) (by assumption) (by kcj_all) ?pjl ?pjh); (case pjl => first | exact fmod_lo _ (by decide) | l_fact); (case pjh => first | exact fmod_hi _ (by decide) | l_fact)))
local macro_rules | `(tactic| walk_at "subscriptTail List cons Call ref int") => `(tactic| (k_here; (with_reducible show wpAny _ _ (subscriptTail _ _ (Value.ref _) (Value.int _ _)) _ _ _); (refine' Mine.menu7 ?m7N ?m7m ?m7l ?m7h ?_ ?_); (case m7N => k_asm); (case m7m => k_mem); (case m7l => assumption); (case m7h => assumption); all_goals intros))
local macro_rules | `(tactic| walk_at "exec Raise some none") => `(tactic| (k_here; (with_reducible show wpAny _ _ (exec (Stmt.Raise (some (Expr.Call (Expr.Name (Str.ofString "ConfigError") _) _ _ _)) none _) _) _ _ _); k_dflt (refine' Mine.raise_born (C := 44) ?rbh ?rbC ?rbB ?_ ?_; (case rbh => rfl); (case rbC => exact Frag.In.keeps (by k_asm) (Fr.keep (by k_asm)) 44 _ (by k_is)); (case rbB => rfl)); rotate_left; intro e' t' oe' ws' vs' h' tk' b1' b2' b3' b4' b5' b6' b7' b8' b9'; rotate_left; walk_say "RAISE BORN"))
local macro_rules | `(tactic| walk_at "leaving ref") => `(tactic| (k_here; k_dflt (refine' Mine.leave_first ?lfK ?lfF ?lf1 ?lf2 ?lf3 ?lf4 ?lf5 ?lf6 ?lf7 ?lf8 ?lf9 ?_; (case lf5 => assumption); (case lf4 => assumption); (case lf3 => assumption); (case lf6 => assumption); (case lf7 => assumption); (case lfK => assumption); (case lfF => k_asm); (case lf1 => assumption); (case lf2 => assumption); (case lf8 => assumption); (case lf9 => assumption); intro h' R' U'); (try dsimp only at R' U' ⊢); walk_say "LEFT FIRST"))
local macro_rules | `(tactic| x_close) => `(tactic| (refine Mine.born_end (i := 3) (j := 1) (by assumption) (by first | rfl | assumption) rfl rfl rfl rfl rfl rfl rfl rfl rfl rfl))
local macro_rules | `(tactic| walk_at "call ref cons nil") => `(tactic| (k_here; (with_reducible show wpAny _ _ (call (Value.ref 44) [Value.str _ _]) _ _ _); k_dflt (refine' Mine.born_call (C := 44) ?xaX ?xaF ?_ (fun _ _ b => b); (case xaF => k_asm); (case xaX => k_asm); intro KXn; (refine' Mine.at_of (a := nat_lit 0) (o := _) (o' := _) KXn ?xal ?xae ?_; (case xal => rfl); (case xae => (refine' Mine.dict_e ?_; repeat' (first | (refine' Mine.cons_e (Mine.entry_e (Mine.str_e ?_)) ?_) | (exact Eq.refl ([] : List DictEntry)) | (simp only [List.map_cons, List.map_nil, Char.reduceToNat]; rfl))))); intro xo0; x_run); walk_say "X RUN"))
local macro_rules | `(tactic| walk_at "noteFrame ref") => `(tactic| (k_here; (rename RaisedK _ _ _ _ _ _ _ _ => rkX); k_dflt (refine' caught_O0 (bmB := [.ref 31, .type "Exception", .type "BaseException", .type "object"]) (newId := "Exception.__new__") ?K ?F ?U ?R ?X ?T ?ex ?q ?hb ?_; (case K => assumption); (case F => assumption); (case U => assumption); (case R => exact rkX); (case X => k_asm); (case T => k_asm); (case ex => k_is); (case q => k_exc); (case hb => rfl); k_whole); intro h' n₂ F' N₂ G' N'; (try k_sweep); walk_say "CAUGHT"))
local macro_rules | `(tactic| walk_at "eval ListComp BinOp cons") => `(tactic| (k_here; k_dflt (refine Mine.comp_down (F₀ := by k_asm) (by with_unfolding_all rfl) (by decide) (by rfl) (by decide) (by rfl) ?_); walk_say "COMP DOWN"))
local macro_rules | `(tactic| walk_at "SrcD") => `(tactic| (k_here; k_dflt (refine Mine.src_down (by rfl) (by k_asm) (by k_asm) (by assumption) (by first | decide | rfl) (by first | rfl | decide) (by first | size_fits | exact Nat.le_of_ble_eq_true rfl) ?_; intro g'; lcg_lit)))
local macro_rules | `(tactic| walk_at "exec Try cons cons nil nil") => `(tactic| (k_here; (fail_if_success (have hq : Mine.Gone := by assumption)); k_dflt ((with_reducible rename Fr _ _ _ _ => lgF); refine Mine.let_go lgF ?_); intro N' hGone'; walk_say "LET GO"))
local macro_rules | `(tactic| walk_at "call type:bytes cons nil") => `(tactic| (k_here; k_dflt (refine' Mine.make_lit2 ?muF ?muN ?muh ?mum ?mu1 ?mu2 ?mu3 ?mu4 ?_; (case muF => k_asm); (case muN => k_asm); (case muh => rfl); (case mum => k_mem); (case mu1 => first | exact (Mine.due_hi (by (split <;> omega)) (by (split <;> omega))).1 | l_bnd); (case mu2 => first | exact (Mine.due_hi (by (split <;> omega)) (by (split <;> omega))).2 | l_bnd); (case mu3 => first | exact (Mine.due_lo _).1 | l_bnd); (case mu4 => first | exact (Mine.due_lo _).2 | l_bnd)); intro p' q' h' t' k' hp' hq' bp' bq' F' N' kbaIn; walk_say "MAKE TWO"))
local macro_rules | `(tactic| walk_at "call type:bytes cons nil") => `(tactic| (k_here; k_dflt (refine' Mine.make_lit4 ?muF ?muN ?muh ?mum ?mu1 ?_; (case muF => k_asm); (case muN => k_asm); (case muh => rfl); (case mum => k_mem); (case mu1 => exact Mine.in_cons (by decide) (by decide) (Mine.in_cons (by decide) (by decide) (Mine.in_cons (by decide) (by decide) (Mine.in_cons (by decide) (by decide) Mine.in_nil))))); intro h' t' k' F' N' kbaIn; walk_say "MAKE FOUR"))
local macro_rules | `(tactic| walk_at "subscriptTail Name Constant bytes int") => `(tactic| (k_here; k_dflt (refine' Mine.item_lit ?il1 ?il2 ?il3 ?il4 ?_; (case il1 => assumption); (case il2 => simp); (case il3 => decide); (case il4 => rfl)); intro _ _ kbaLo kbaHi; walk_say "ITEM"))
local macro_rules | `(tactic| walk_at "binaryOp Add bytes bytes") => `(tactic| (k_here; k_dflt (refine' Mine.add_lit ?al1 ?al2 ?al3 ?al4 ?_; (case al1 => assumption); (case al2 => assumption); (case al3 => simp); (case al4 => rfl)); intro _ _ kbaIn; walk_say "ADDED"))
local macro_rules | `(tactic| walk_at "call type:bytes cons nil") => `(tactic| (k_here; k_dflt (refine' Mine.make_u16 ?muF ?muN ?muh ?mum ?mu1 ?mu2 ?mul ?muu ?_; (case muF => k_asm); (case muN => k_asm); (case muh => rfl); (case mum => k_mem); (case mu1 => rfl); (case mu2 => rfl); (case mul => first | (split <;> omega) | omega); (case muu => first | (split <;> omega) | omega)); intro p' q' h' t' k' hp' hq' bp' bq' F' N' kbaIn; walk_say "MAKE U16"))
local macro_rules | `(tactic| walk_at "compareOp Eq ref ref") => `(tactic| (k_here; (with_reducible show wpAny _ _ (compareOp CmpOp.Eq (Value.ref _) (Value.ref _)) _ _ _); k_dflt (refine' Mine.eq_pair ?epN ?epa ?epb ?epu ?epx ?epl ?_; (case epN => k_asm); (case epa => k_mem); (case epb => k_mem); (case epu => ke_room); (case epx => rfl); (case epl => ((simp only [List.cons.injEq, and_true]); (repeat' apply And.intro) <;> first | rfl | assumption | (refine Eq.trans (by assumption) ?_; decide) | exact Mine.same_of (by assumption) (by assumption)))); walk_say "EQUAL PAIRS"))
local macro_rules | `(tactic| walk_at "call builtin:len cons nil") => `(tactic| (k_here; (with_reducible show wpAny _ _ (call (Value.builtin "len") [Value.bytes (byteArr _) _]) _ _ _); k_dflt (first | (refine' Mine.len_two ?lbi ?_; (case lbi => assumption)) | (refine' Mine.len_six ?lbi ?_; (case lbi => assumption)))))
local macro_rules | `(tactic| walk_at "call type:bytes cons nil") => `(tactic| (k_here; k_dflt (refine' Mine.make_two ?muF ?muN ?muh ?mum ?mu1 ?_; (case muF => k_asm); (case muN => k_asm); (case muh => rfl); (case mum => k_mem); (case mu1 => exact Mine.in_cons (by decide) (by decide) (Mine.in_cons (by decide) (by decide) Mine.in_nil))); intro h' t' k' F' N' kbaIn; walk_say "MAKE TWO WRITTEN"))
local macro_rules | `(tactic| walk_at "call type:bytes cons nil") => `(tactic| (k_here; k_dflt (refine' Mine.make_known (x' := 0) (y' := 1) ?muF ?muN ?muh ?mum ?mu1 ?mu2 ?mu3 ?_; (case muF => k_asm); (case muN => k_asm); (case muh => rfl); (case mum => k_mem); (case mu1 => decide); (case mu2 => decide); (case mu3 => exact Mine.in_cons (by decide) (by decide) (Mine.in_cons (by decide) (by decide) Mine.in_nil))); intro h' t' k' F' N' kbaIn; walk_say "MAKE KNOWN"))
local macro_rules | `(tactic| walk_at "subscriptTail Name Name bytes int") => `(tactic| (k_here; k_dflt (refine' Mine.item_lit ?il1 ?il2 ?il3 ?il4 ?_; (case il1 => assumption); (case il2 => simp); (case il3 => decide); (case il4 => rfl)); intro _ _ kbaLo kbaHi; walk_say "ITEM"))
local macro_rules | `(tactic| walk_at "subscriptTail Name BinOp bytes int") => `(tactic| (k_here; k_dflt (refine' Mine.item_lit ?il1 ?il2 ?il3 ?il4 ?_; (case il1 => assumption); (case il2 => simp); (case il3 => decide); (case il4 => rfl)); intro _ _ kbaLo kbaHi; walk_say "ITEM"))
local macro_rules | `(tactic| walk_at "compareOp Eq ref ref") => `(tactic| (k_here; (with_reducible show wpAny _ _ (compareOp CmpOp.Eq (Value.ref _) (Value.ref _)) _ _ _); k_dflt (refine' Mine.eq_triple ?etN ?eta ?etb ?etu ?et1 ?et2 ?et3 ?_; (case etN => k_asm); (case eta => k_mem); (case etb => k_mem); (case etu => ke_room); (case et1 => first | exact Mine.flag_join (by assumption) (by assumption) (by (split <;> omega)) (by (split <;> omega)) ); (case et2 => first | exact Mine.low_join (by assumption) (by assumption) (by (split <;> omega)) (by (split <;> omega)) ); (case et3 => first | rfl | decide)); walk_say "EQUAL TRIPLES"))
local macro_rules | `(tactic| walk_at "pyIter ref") => `(tactic| (k_here; (with_reducible show wpAny _ _ (pyIter (Value.ref _)) (fun it s₂ => LoopAtV _ _ _ _ _ _ _ _ _ it s₂) _ _); k_dflt krs_unr; walk_say "STEPPED RANGE"))
local macro_rules | `(tactic| walk_at "binaryOp RShift int int") => `(tactic| (k_here; k_dflt (refine' Mine.shr_none ?snk ?snl ?snh ?_; (case snk => decide); (case snl => first | decide | (split <;> omega)); (case snh => first | decide | (split <;> omega))); walk_say "SHIFTED OUT"))
local macro_rules | `(tactic| walk_at "subscriptTail List cons Call ref int") => `(tactic| (k_here; (with_reducible show wpAny _ _ (subscriptTail _ _ (Value.ref _) (Value.int _ _)) _ _ _); k_dflt (refine' Mine.menu3 ?m3N ?m3m ?m3l ?m3h ?_; (case m3N => k_asm); (case m3m => k_mem); (case m3l => assumption); (case m3h => assumption)); intro kpV' kpX'; walk_say "KEEPS, UNTOLD"))
local macro_rules | `(tactic| walk_at "compareOp Is") => `(tactic| (k_here; (rename Mine.Keeps _ => kpX); rcases kpX with kpX | kpX | kpX <;> subst kpX <;> (try dsimp only); walk_say "KEEPS TOLD"))
local macro_rules | `(tactic| walk_at "exec If Name cons nil") => `(tactic| (k_here; (with_reducible show wpAny _ _ (exec (Stmt.If (Expr.Name (Str.ofString "is_restarted") _) _ _ _) _) _ _ _); (fail_if_success (with_reducible show wpAny _ _ _ (fun f s₂ => Mine.HeadJ _ _ _ _ _ _ f s₂) _ _)); k_dflt (refine' Mine.head_join ?hjF ?hj4 ?hj5 ?hjx ?_ ?_; (case hjF => k_asm); (case hj4 => assumption); (case hj5 => assumption); (case hjx => rfl)); rotate_left; intro p' q' t' h' tk' hp' hq' kbaIn F' N'; (try dsimp only); (try k_sweep); rotate_left; walk_say "HEAD JOINED"))
local macro_rules | `(tactic| walk_at "HeadJ") => `(tactic| (k_dflt (first | exact Mine.head_yes (by with_unfolding_all rfl) (by with_unfolding_all rfl) (by assumption) (by assumption) (by assumption) (by assumption) (by assumption) (by assumption) (by assumption) (by intro y hy; first | rfl | exact if_neg hy) | exact Mine.head_no (by with_unfolding_all rfl) (by with_unfolding_all rfl) (by assumption) (by assumption) (by assumption) (by assumption) (by assumption) (by intro y hy; first | rfl | exact if_neg hy))))

set_option maxRecDepth 100000 in
set_option maxHeartbeats 100000000 in
theorem PySem.Challenge.cw_rh0192_01_holds : PySem.Challenge.rw_rh0192_01.Holds := by
  w_on; o_law; x_head; (case hw => w_witness2); w_strict k_go
