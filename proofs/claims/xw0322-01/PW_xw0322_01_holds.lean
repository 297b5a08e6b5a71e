import PyProof.Rows.All
import Wide.All
import OpenK.AllK
import Wide.FinOn
import PySem.Challenge.RW_xw0322_01
open PySem PySem.W PyProof.Rows PySem.Calls
set_option Elab.async false
namespace Mine

section
set_option maxRecDepth 100000
set_option maxHeartbeats 8000000
open_top hd for PySem.Challenge.rw_xw0322_01
end

section
section
variable {prog : Program} {w : World} {A : Around} {E : Value → Shared → Prop} {s : Shared} {h₀ : Heap} {L l : Addr}
/-- an item of a made list at a written place, as it stands -/
theorem itemLed {value slice : PySem.Expr} {news : List (Addr × Obj)} {us : List Value} {n : Nat} {k : Int} {u : Tok} {v : Value} {Q : Value → Shared → Prop} (N : News h₀ L s.heap news) (hm : (l, listOf us.toArray n) ∈ news)
    (h0 : 0 ≤ k) (hfit : k < 2 ^ 63) (hx : us[k.toNat]? = some v) (h : Q v s)
    (hs : subscripted slice false (.ref l) (.int k u) = operate [.ref l, .int k u] (getItem (.ref l) (.int k u)) := by with_unfolding_all rfl) :
    wpAny (model prog w) A (subscriptTail value slice (.ref l) (.int k u)) Q E s := by
  have hl : s.heap.IsList l us.toArray := ⟨_, (N _ hm).1, rfl, n, rfl⟩
  exact tail_any hl.typeIs slot_list_getitem.lookup (wpAny_getItem_list hl h0 hfit (by simpa using hx) h) hs
end
theorem oneOn {q r : Int} (hr : 4 ≤ r) : Int.fmod (Int.fmod (q + 1) r - Int.fmod q r) r = 1 := by
  have h0 : 0 ≤ r := by omega
  rw [Int.fmod_eq_emod_of_nonneg _ h0, Int.fmod_eq_emod_of_nonneg _ h0, Int.fmod_eq_emod_of_nonneg _ h0, ← Int.sub_emod]
  have e : q + 1 - q = 1 := by omega
  rw [e]
  exact Int.emod_eq_of_lt (by omega) (by omega)

/-- a deed: how many, and how much further (or nothing told) -/
def Deed (d : Dat) : Prop := ∃ (a : Int) (x : Dat), d = .tuple [.int a, x] ∧ (x = .none ∨ ∃ b, 0 ≤ b ∧ x = .int b)

/-- what a turn leaves behind -/
def TurnPost (h₀ : Heap) (L : Addr) (J : (Str → Option Value) → List (Addr × Obj) → Prop) (own : List (Addr × Obj)) (s₁ : Shared) (f : Flow) (s₂ : Shared) : Prop :=
  f = .next ∧ InvEndG h₀ L J own s₁ s₂

section
variable {prog : Program} {w : World} {A : Around} {E : Value → Shared → Prop} {s : Shared} {env : Env} {h₀ : Heap} {body : List Stmt} {Q : Flow → Shared → Prop}

/-- a loop over a list of the ledger's whose items are tuples, by an invariant over the turn's number, the frame and the ledger -/
theorem tupleLoop {elts : List PySem.Expr} {x1 : Nat} {p1 : Pos} {l : Addr} {us : List Value} {nn : Nat} {m₀ : Str → Option Value} {news : List (Addr × Obj)} (J : Nat → (Str → Option Value) → List (Addr × Obj) → Prop)
    (hh : A.handled = none) (hl : (l, listOf us.toArray nn) ∈ news) (F : Fr h₀ env.locals s.heap m₀) (N : News h₀ env.locals s.heap news) (hj : J 0 m₀ news)
    (hJl : ∀ i m nx, J i m nx → (l, listOf us.toArray nn) ∈ nx)
    (turn : ∀ i v m₁ nx s₁ own, us[i]? = some v → OwnOff own (nx.map (·.1)) → J i m₁ nx → Fr h₀ env.locals s₁.heap m₁ → News h₀ env.locals s₁.heap (nx ++ own) →
      wpAny (model prog w) A (assign (.Tuple elts x1 p1) env v) (fun _ s₃ => wpAny (model prog w) A (execs body env) (TurnPost h₀ env.locals (J (i + 1)) own s₁) E s₃) E s₁)
    (done : ∀ m₁ nx h tk, J us.length m₁ nx → Fr h₀ env.locals h m₁ → News h₀ env.locals h nx → Q .next { s with heap := h, toks := tk }) :
    wpAny (model prog w) A (pyIter (.ref l)) (fun it s₂ => LoopAtT prog w A h₀ env (.Tuple elts x1 p1) body Q E it s₂) E s := by
  have hol : s.heap.get? l = some (listOf us.toArray nn) := (N _ hl).1
  have hls : s.heap.IsList l us.toArray := ⟨_, hol, rfl, nn, rfl⟩
  have hne : l ≠ s.heap.objs.size := Nat.ne_of_lt (Heap.lt_size hol)
  have hI0 : h₀.get? s.heap.objs.size = none := next_is_new F
  refine wpAny_pyIter_list hls ?_
  have W := Walks.list (prog := prog) (w := w) hh s.heap.objs.size l hne us.toArray
  have hlen : us.toArray.size = us.length := by simp
  rw [hlen] at W
  refine ⟨_, _, _, us.length, _, _, m₀, news, J, rfl, W, ?_, ?_, ?_, ⟨⟨_, Heap.get?_push_size _ rfl, rfl, rfl⟩, hls.at fun o e => Heap.get?_push_of_some _ e⟩, F.push _, (fun p hp => ⟨Heap.get?_push_of_some _ (N p hp).1, (N p hp).2⟩), ?_, hj, ?_, ?_⟩
  · intro hm
    rcases List.mem_cons.mp hm with e | hm
    · exact absurd F.ns.lt (e ▸ Nat.lt_irrefl _)
    · exact (N _ hl).2.1 ((List.mem_singleton.mp hm).symm)
  · intro b hb
    rw [List.mem_singleton.mp hb]
    exact hI0
  · intro p hp hI
    exact absurd (Heap.lt_size (N p hp).1) ((List.mem_singleton.mp hI) ▸ Nat.lt_irrefl _)
  · intro i s' v Q' st hq
    cases v with
    | ref T => exact wpAny_letOwnedTupleGo_listiter st.1 hq
    | _ => exact wpAny_pure hq
  · intro i v m₁ nx s₁ own hin hP hJ hoff hown hget hfp hst F₁ N₁
    have hP' : us[i]? = some v := by simpa using hP
    obtain ⟨⟨oI, hoI, _⟩, _⟩ := id hst
    have hIown : (s.heap.objs.size, oI) ∈ own.filter fun p => decide (p.1 = s.heap.objs.size) := List.mem_filter.mpr ⟨hfp _ (List.mem_cons.mpr (.inl rfl)) hI0 _ hoI, by simp⟩
    have hl₁ := hJl i m₁ nx hJ
    have hsep : OwnOff (own.filter fun p => decide (p.1 = s.heap.objs.size)) (nx.map (·.1)) := by
      intro p hp b hb e
      obtain ⟨q, hq, rfl⟩ := List.mem_map.mp hb
      have h1 : p.1 = s.heap.objs.size := by simpa using (List.mem_filter.mp hp).2
      exact hoff q hq (List.mem_singleton.mpr (e ▸ h1))
    have N₂ : News h₀ env.locals s₁.heap (nx ++ own.filter fun p => decide (p.1 = s.heap.objs.size)) := fun p hp => N₁ p ((List.mem_append.mp hp).elim (fun h => List.mem_append.mpr (.inr h)) fun h => List.mem_append.mpr (.inl ((List.mem_filter.mp h).1)))
    have hlo : s₁.heap.get? l = some (listOf us.toArray nn) := (N₁ _ (List.mem_append.mpr (.inr hl₁))).1
    refine wpAny_mono (turn i v m₁ nx s₁ _ hP' hsep hJ F₁ N₂) (fun _ s₃ q => wpAny_mono q (fun f s₂ p => ?_) fun _ _ e => e) fun _ _ e => e
    obtain ⟨rfl, h', tk, m', news', nx', e, F', N', hn, ho, ha, hm⟩ := p
    refine ⟨rfl, h', tk, m', nx', e, F', fun p hp => ?_, fun p hp hq => ?_, hm⟩
    · rcases List.mem_append.mp hp with h | h
      · by_cases hI : p.1 = s.heap.objs.size
        · exact N' p (ho p (List.mem_filter.mpr ⟨h, by simpa using hI⟩))
        · have h1 : p.1 = l := by
            rcases List.mem_cons.mp (hown p h) with h2 | h2
            · exact absurd h2 hI
            · exact List.mem_singleton.mp h2
          have h2 : s₁.heap.get? p.1 = some p.2 := hget p h
          rw [h1, hlo] at h2
          have h3 : p = (l, listOf us.toArray nn) := Prod.ext h1 (Option.some.inj h2).symm
          rw [h3]
          exact N' _ (hn _ (hJl _ _ _ hm))
      · exact N' p (hn p h)
    · exact ha _ hIown p.1 (List.mem_map.mpr ⟨p, hp, rfl⟩) (List.mem_singleton.mp hq).symm
  · intro h' tk m' news' F' N' _ hJ
    exact done m' news' h' tk hJ F' N'
end

/-- the ledger between two turns, and what holds of it -/
def RightInv (ring : Int) (m₀ : Str → Option Value) (t x d C dl : Addr) (g1 g2 g3 g4 g5 : Int) (u1 u2 u3 u4 u5 tr : Tok) (us : List Value) (nn c : Nat) (tl : List (Addr × Obj)) (m₁ : Str → Option Value) (nx : List (Addr × Obj)) : Prop :=
  ∃ (a e mo q k : Int) (t1 t2 t3 t4 t5 t6 t7 t8 t9 : Tok) (n : Nat),
    nx = (t, listOf #[.int a t1, .int e t2, .int mo t3, .int q t4, .int k t5] n) :: (x, instObj C d) ::
      (d, dictOf [⟨g1, .str (Str.ofString "ring") u1, .int ring tr⟩, ⟨g2, .str (Str.ofString "size") u2, .int (e - a) t6⟩, ⟨g3, .str (Str.ofString "most") u3, .int mo t7⟩, ⟨g4, .str (Str.ofString "told_seq") u4, .int (Int.fmod q ring) t8⟩, ⟨g5, .str (Str.ofString "told_ack") u5, .int (Int.fmod k ring) t9⟩] c) ::
      (dl, listOf us.toArray nn) :: tl ∧ a ≤ e ∧ ∀ z, z ≠ Str.ofString "many" → z ≠ Str.ofString "further" → m₁ z = m₀ z

/-- a turn's end -/
theorem turnEnd {ring : Int} {m₀ m' : Str → Option Value} {t x d C dl : Addr} {g1 g2 g3 g4 g5 : Int} {u1 u2 u3 u4 u5 tr : Tok} {us : List Value} {nn c : Nat} {tl own news' : List (Addr × Obj)} {h₀ h' : Heap} {L : Addr} {s₁ : Shared} {tk : Nat}
    {a e mo q k sz mq ts ta : Int} {t1 t2 t3 t4 t5 t6 t7 t8 t9 : Tok} {n : Nat}
    (hown : OwnOff own (t :: x :: d :: dl :: tl.map (·.1))) (F' : Fr h₀ L h' m') (N' : News h₀ L h' news')
    (hT : (t, listOf #[.int a t1, .int e t2, .int mo t3, .int q t4, .int k t5] n) ∈ news') (hX : (x, instObj C d) ∈ news')
    (hD : (d, dictOf [⟨g1, .str (Str.ofString "ring") u1, .int ring tr⟩, ⟨g2, .str (Str.ofString "size") u2, .int sz t6⟩, ⟨g3, .str (Str.ofString "most") u3, .int mq t7⟩, ⟨g4, .str (Str.ofString "told_seq") u4, .int ts t8⟩, ⟨g5, .str (Str.ofString "told_ack") u5, .int ta t9⟩] c) ∈ news')
    (hl : (dl, listOf us.toArray nn) ∈ news') (ho : ∀ p ∈ tl ++ own, p ∈ news')
    (hm : ∀ z, z ≠ Str.ofString "many" → z ≠ Str.ofString "further" → m' z = m₀ z)
    (hae : a ≤ e) (hsz : sz = e - a) (hmq : mq = mo) (hts : ts = Int.fmod q ring) (hta : ta = Int.fmod k ring) :
    TurnPost h₀ L (RightInv ring m₀ t x d C dl g1 g2 g3 g4 g5 u1 u2 u3 u4 u5 tr us nn c tl) own s₁ .next { s₁ with heap := h', toks := tk } := by
  subst hsz hmq hts hta
  refine ⟨rfl, h', tk, m', news', _, rfl, F', N', ?_, fun p hp => ho p (List.mem_append.mpr (.inr hp)), ?_, a, e, mq, q, k, t1, t2, t3, t4, t5, t6, t7, t8, t9, n, rfl, hae, hm⟩
  · intro p hp
    rcases List.mem_cons.mp hp with rfl | hp
    · exact hT
    rcases List.mem_cons.mp hp with rfl | hp
    · exact hX
    rcases List.mem_cons.mp hp with rfl | hp
    · exact hD
    rcases List.mem_cons.mp hp with rfl | hp
    · exact hl
    exact ho p (List.mem_append.mpr (.inl hp))
  · exact hown

theorem frOff {h₀ h : Heap} {L : Addr} {m₀ m₁ : Str → Option Value} (F : Fr h₀ L h m₁) (hm : ∀ z, z ≠ Str.ofString "many" → z ≠ Str.ofString "further" → m₁ z = m₀ z) :
    Fr h₀ L h (fun z => if z = Str.ofString "many" then m₁ z else if z = Str.ofString "further" then m₁ z else m₀ z) := by
  have e : m₁ = fun z => if z = Str.ofString "many" then m₁ z else if z = Str.ofString "further" then m₁ z else m₀ z := by
    funext z
    by_cases h1 : z = Str.ofString "many"
    · rw [if_pos h1]
    · by_cases h2 : z = Str.ofString "further"
      · rw [if_neg h1, if_pos h2]
      · rw [if_neg h1, if_neg h2]; exact hm z h1 h2
  exact e ▸ F

theorem datAll_at {news : List (Addr × Obj)} {us : List Value} {ds : List Dat} (h : DatAll news us ds) {i : Nat} {v : Value} (hv : us[i]? = some v) : ∃ d ∈ ds, DatIn news v d := by
  have hi : i < ds.length := by rw [← h.length]; exact (List.getElem?_eq_some_iff.mp hv).1
  obtain ⟨v', hv', hD⟩ := h.get hi
  rw [hv] at hv'
  exact ⟨_, List.getElem_mem hi, (Option.some.inj hv') ▸ hD⟩

/-- what a deed's value is -/
theorem deed_value {news : List (Addr × Obj)} {v : Value} {d : Dat} (hd : Deed d) (h : DatIn news v d) :
    ∃ (p : Addr) (a : Int) (tm : Tok) (f : Value) (n : Nat), v = .ref p ∧ (p, ({ cls := .type "tuple", data := .seq #[.int a tm, f] n } : Obj)) ∈ news ∧ (f = .none ∨ ∃ (b : Int) (tb : Tok), 0 ≤ b ∧ f = .int b tb) := by
  obtain ⟨a, y, rfl, hy⟩ := hd
  cases h with
  | tuple hm hr =>
    cases hr with
    | cons h1 hr =>
      cases hr with
      | cons h2 hr =>
        cases hr
        cases h1
        rcases hy with rfl | ⟨b, hb, rfl⟩
        · cases h2
          exact ⟨_, _, _, _, _, rfl, hm, .inl rfl⟩
        · cases h2
          exact ⟨_, _, _, _, _, rfl, hm, .inr ⟨_, _, hb, rfl⟩⟩

section
variable {prog : Program} {w : World} {A : Around} {E : Value → Shared → Prop} {s : Shared} {env : Env} {h₀ : Heap} {body : List Stmt} {Q : Flow → Shared → Prop}

/-- the loop over the deeds, a deed that tells nothing and one that tells apart -/
theorem rightLoop {elts : List PySem.Expr} {x1 : Nat} {p1 : Pos} {ring : Int} {m₀ : Str → Option Value} {t x d C dl : Addr} {g1 g2 g3 g4 g5 : Int} {u1 u2 u3 u4 u5 tr : Tok} {us : List Value} {ds : List Dat} {nn c : Nat} {tl news : List (Addr × Obj)}
    {a e mo q k sz mq ts ta : Int} {t1 t2 t3 t4 t5 t6 t7 t8 t9 : Tok} {n : Nat}
    (hh : A.handled = none) (F : Fr h₀ env.locals s.heap m₀) (N : News h₀ env.locals s.heap news) (hD : DatAll ((dl, listOf us.toArray nn) :: tl) us ds) (hS : ∀ d ∈ ds, Deed d)
    (mt : m₀ (Str.ofString "told") = some (.ref t)) (mx : m₀ (Str.ofString "window") = some (.ref x))
    (hT : (t, listOf #[.int a t1, .int e t2, .int mo t3, .int q t4, .int k t5] n) ∈ news) (hX : (x, instObj C d) ∈ news)
    (hDi : (d, dictOf [⟨g1, .str (Str.ofString "ring") u1, .int ring tr⟩, ⟨g2, .str (Str.ofString "size") u2, .int sz t6⟩, ⟨g3, .str (Str.ofString "most") u3, .int mq t7⟩, ⟨g4, .str (Str.ofString "told_seq") u4, .int ts t8⟩, ⟨g5, .str (Str.ofString "told_ack") u5, .int ta t9⟩] c) ∈ news)
    (hl : (dl, listOf us.toArray nn) ∈ news) (htl : ∀ p ∈ tl, p ∈ news)
    (oT : ∀ p ∈ tl, p.1 ≠ t) (oX : ∀ p ∈ tl, p.1 ≠ x) (oD : ∀ p ∈ tl, p.1 ≠ d) (lT : dl ≠ t) (lX : dl ≠ x) (lD : dl ≠ d)
    (hr4 : 4 ≤ ring) (hae : a ≤ e) (hsz : sz = e - a) (hmq : mq = mo) (hts : ts = Int.fmod q ring) (hta : ta = Int.fmod k ring)
    (turnN : ∀ (a e mo q k many : Int) (t1 t2 t3 t4 t5 t6 t7 t8 t9 tm : Tok) (n np : Nat) (p : Addr) (u : Str → Option Value) (own : List (Addr × Obj)) (s₁ : Shared), a ≤ e → p ≠ t → p ≠ x → p ≠ d → OwnOff own (t :: x :: d :: dl :: tl.map (·.1)) → OwnOff (tl ++ own) [t, x, d] →
      Fr h₀ env.locals s₁.heap (fun z => if z = Str.ofString "many" then u z else if z = Str.ofString "further" then u z else m₀ z) →
      News h₀ env.locals s₁.heap ((p, { cls := .type "tuple", data := .seq #[.int many tm, .none] np }) :: (t, listOf #[.int a t1, .int e t2, .int mo t3, .int q t4, .int k t5] n) :: (x, instObj C d) ::
        (d, dictOf [⟨g1, .str (Str.ofString "ring") u1, .int ring tr⟩, ⟨g2, .str (Str.ofString "size") u2, .int (e - a) t6⟩, ⟨g3, .str (Str.ofString "most") u3, .int mo t7⟩, ⟨g4, .str (Str.ofString "told_seq") u4, .int (Int.fmod q ring) t8⟩, ⟨g5, .str (Str.ofString "told_ack") u5, .int (Int.fmod k ring) t9⟩] c) ::
        (dl, listOf us.toArray nn) :: (tl ++ own)) →
      wpAny (model prog w) A (assign (.Tuple elts x1 p1) env (.ref p)) (fun _ s₃ => wpAny (model prog w) A (execs body env) (TurnPost h₀ env.locals (RightInv ring m₀ t x d C dl g1 g2 g3 g4 g5 u1 u2 u3 u4 u5 tr us nn c tl) own s₁) E s₃) E s₁)
    (turnI : ∀ (a e mo q k many b : Int) (t1 t2 t3 t4 t5 t6 t7 t8 t9 tm tb : Tok) (n np : Nat) (p : Addr) (u : Str → Option Value) (own : List (Addr × Obj)) (s₁ : Shared), 0 ≤ b → Int.fmod (Int.fmod (q + 1) ring - Int.fmod q ring) ring = 1 → a ≤ e → p ≠ t → p ≠ x → p ≠ d → OwnOff own (t :: x :: d :: dl :: tl.map (·.1)) → OwnOff (tl ++ own) [t, x, d] →
      Fr h₀ env.locals s₁.heap (fun z => if z = Str.ofString "many" then u z else if z = Str.ofString "further" then u z else m₀ z) →
      News h₀ env.locals s₁.heap ((p, { cls := .type "tuple", data := .seq #[.int many tm, .int b tb] np }) :: (t, listOf #[.int a t1, .int e t2, .int mo t3, .int q t4, .int k t5] n) :: (x, instObj C d) ::
        (d, dictOf [⟨g1, .str (Str.ofString "ring") u1, .int ring tr⟩, ⟨g2, .str (Str.ofString "size") u2, .int (e - a) t6⟩, ⟨g3, .str (Str.ofString "most") u3, .int mo t7⟩, ⟨g4, .str (Str.ofString "told_seq") u4, .int (Int.fmod q ring) t8⟩, ⟨g5, .str (Str.ofString "told_ack") u5, .int (Int.fmod k ring) t9⟩] c) ::
        (dl, listOf us.toArray nn) :: (tl ++ own)) →
      wpAny (model prog w) A (assign (.Tuple elts x1 p1) env (.ref p)) (fun _ s₃ => wpAny (model prog w) A (execs body env) (TurnPost h₀ env.locals (RightInv ring m₀ t x d C dl g1 g2 g3 g4 g5 u1 u2 u3 u4 u5 tr us nn c tl) own s₁) E s₃) E s₁)
    (done : ∀ m₁ h tk, Fr h₀ env.locals h m₁ → News h₀ env.locals h [] → Q .next { s with heap := h, toks := tk }) :
    wpAny (model prog w) A (pyIter (.ref dl)) (fun it s₂ => LoopAtT prog w A h₀ env (.Tuple elts x1 p1) body Q E it s₂) E s := by
  subst hsz hmq hts hta
  refine tupleLoop (fun _ => RightInv ring m₀ t x d C dl g1 g2 g3 g4 g5 u1 u2 u3 u4 u5 tr us nn c tl) hh (.tail _ (.tail _ (.tail _ (.head _)))) F
    (fun p hp => N p ?_) ⟨a, e, mq, q, k, t1, t2, t3, t4, t5, t6, t7, t8, t9, n, rfl, hae, fun _ _ _ => rfl⟩ ?_ ?_ ?_
  · rcases List.mem_cons.mp hp with rfl | hp
    · exact hT
    rcases List.mem_cons.mp hp with rfl | hp
    · exact hX
    rcases List.mem_cons.mp hp with rfl | hp
    · exact hDi
    rcases List.mem_cons.mp hp with rfl | hp
    · exact hl
    exact htl p hp
  · rintro i m nx ⟨a, e, mo, q, k, t1, t2, t3, t4, t5, t6, t7, t8, t9, n, rfl, _⟩
    exact .tail _ (.tail _ (.tail _ (.head _)))
  · rintro i v m₁ nx s₁ own hv hoff ⟨a, e, mo, q, k, t1, t2, t3, t4, t5, t6, t7, t8, t9, n, rfl, hae, hm⟩ F₁ N₁
    obtain ⟨d', hd', hI⟩ := datAll_at hD hv
    obtain ⟨p, many, tm, f, np, rfl, hp, hf⟩ := deed_value (hS d' hd') hI
    have hown : OwnOff own (t :: x :: d :: dl :: tl.map (·.1)) := hoff
    have hall : OwnOff (tl ++ own) [t, x, d] := by
      intro r hr b hb
      rcases List.mem_append.mp hr with hr | hr
      · rcases List.mem_cons.mp hb with rfl | hb
        · exact oT r hr
        rcases List.mem_cons.mp hb with rfl | hb
        · exact oX r hr
        rw [List.mem_singleton.mp hb]
        exact oD r hr
      · refine hown r hr b ?_
        rcases List.mem_cons.mp hb with rfl | hb
        · exact .head _
        rcases List.mem_cons.mp hb with rfl | hb
        · exact .tail _ (.head _)
        rw [List.mem_singleton.mp hb]
        exact .tail _ (.tail _ (.head _))
    have pne : p ≠ t ∧ p ≠ x ∧ p ≠ d := by
      rcases List.mem_cons.mp hp with e | hp
      · have := congrArg Prod.fst e
        have e' : p = dl := this
        rw [e']
        exact ⟨lT, lX, lD⟩
      · exact ⟨oT _ hp, oX _ hp, oD _ hp⟩
    have hpn : ∀ f', (p, ({ cls := .type "tuple", data := .seq #[.int many tm, f'] np } : Obj)) ∈ (dl, listOf us.toArray nn) :: tl →
        ∀ r ∈ (p, ({ cls := .type "tuple", data := .seq #[.int many tm, f'] np } : Obj)) :: (t, listOf #[.int a t1, .int e t2, .int mo t3, .int q t4, .int k t5] n) :: (x, instObj C d) ::
        (d, dictOf [⟨g1, .str (Str.ofString "ring") u1, .int ring tr⟩, ⟨g2, .str (Str.ofString "size") u2, .int (e - a) t6⟩, ⟨g3, .str (Str.ofString "most") u3, .int mo t7⟩, ⟨g4, .str (Str.ofString "told_seq") u4, .int (Int.fmod q ring) t8⟩, ⟨g5, .str (Str.ofString "told_ack") u5, .int (Int.fmod k ring) t9⟩] c) ::
        (dl, listOf us.toArray nn) :: (tl ++ own), s₁.heap.get? r.1 = some r.2 ∧ r.1 ≠ env.locals ∧ h₀.get? r.1 = none := by
      intro f' hf' r hr
      rcases List.mem_cons.mp hr with rfl | hr
      · exact N₁ _ (List.mem_append.mpr (.inl (.tail _ (.tail _ (.tail _ hf')))))
      · exact N₁ _ (by simpa using hr)
    rcases hf with rfl | ⟨b, tb, hb, rfl⟩
    · exact turnN a e mo q k many t1 t2 t3 t4 t5 t6 t7 t8 t9 tm n np p m₁ own s₁ hae pne.1 pne.2.1 pne.2.2 hown hall (frOff F₁ hm) (hpn _ hp)
    · exact turnI a e mo q k many b t1 t2 t3 t4 t5 t6 t7 t8 t9 tm tb n np p m₁ own s₁ hb (oneOn hr4) hae pne.1 pne.2.1 pne.2.2 hown hall (frOff F₁ hm) (hpn _ hp)
  · rintro m₁ nx h tk _ F₁ _
    exact done m₁ h tk F₁ (fun _ hp => nomatch hp)
end
end

section
/-- between two turns of the loop that builds: the source, the deeds so far -/
def BuildInv (m₀ : Str → Option Value) (src dl : Addr) (i : Nat) (m₁ : Str → Option Value) (nx : List (Addr × Obj)) : Prop :=
  ∃ (va vb : Int) (ta tb : Tok) (n nn : Nat) (us : List Value) (ds : List Dat) (tl : List (Addr × Obj)),
    nx = (src, listOf #[.int va ta, .int vb tb] n) :: (dl, listOf us.toArray nn) :: tl ∧ OwnOff tl [src, dl] ∧ 0 ≤ vb ∧ vb < 2147483647 ∧ us.length = i ∧ DatAll tl us ds ∧ (∀ d ∈ ds, Deed d) ∧ ∀ z, z ≠ Str.ofString "turn" → m₁ z = m₀ z

/-- what a turn leaves behind -/
def BuildPost (h₀ : Heap) (L : Addr) (J : (Str → Option Value) → List (Addr × Obj) → Prop) (own : List (Addr × Obj)) (s₁ : Shared) (f : Flow) (s₂ : Shared) : Prop :=
  f = .next ∧ InvEndG h₀ L J own s₁ s₂

theorem turnOff {h₀ h : Heap} {L : Addr} {m₀ m₁ : Str → Option Value} (F : Fr h₀ L h m₁) (hm : ∀ z, z ≠ Str.ofString "turn" → m₁ z = m₀ z) :
    Fr h₀ L h (fun z => if z = Str.ofString "turn" then m₁ z else m₀ z) := by
  have e : m₁ = fun z => if z = Str.ofString "turn" then m₁ z else m₀ z := by
    funext z
    by_cases h1 : z = Str.ofString "turn"
    · rw [if_pos h1]
    · rw [if_neg h1]; exact hm z h1
  exact e ▸ F

section
variable {prog : Program} {w : World} {A : Around} {E : Value → Shared → Prop} {s : Shared} {env : Env} {h₀ : Heap} {body : List Stmt} {Q : Flow → Shared → Prop}

theorem buildLoop {r : Addr} {b₀ : Int} {t₀ u₀ v₀ : Tok} {m₀ : Str → Option Value} {news : List (Addr × Obj)} {src dl : Addr} {va vb : Int} {ta tb : Tok} {n nn : Nat}
    (hh : A.handled = none) (hr : IsRange s.heap r 0 b₀ 1 t₀ u₀ v₀) (hb0 : 0 ≤ b₀) (hb1 : b₀ ≤ 12) (F : Fr h₀ env.locals s.heap m₀) (N : News h₀ env.locals s.heap news)
    (hs : (src, listOf #[.int va ta, .int vb tb] n) ∈ news) (hd : (dl, listOf #[] nn) ∈ news) (hv0 : 0 ≤ vb) (hv1 : vb < 2147483647)
    (turn : ∀ (i : Nat) (va vb : Int) (ta tb ti : Tok) (n nn : Nat) (us : List Value) (ds : List Dat) (tl own : List (Addr × Obj)) (h : Heap) (tk : Nat), us.length < 12 → us.length = i → 0 ≤ vb → vb < 2147483647 →
      OwnOff own [src, dl] → OwnOff own (tl.map (·.1)) → OwnOff tl [src, dl] → OwnOff (tl ++ own) [src, dl] → DatAll tl us ds → (∀ d ∈ ds, Deed d) →
      Fr h₀ env.locals h (fun y => if y = Str.ofString "turn" then some (.int i ti) else m₀ y) → News h₀ env.locals h ((src, listOf #[.int va ta, .int vb tb] n) :: (dl, listOf us.toArray nn) :: (tl ++ own)) →
      wpAny (model prog w) A (execs body env) (BuildPost h₀ env.locals (BuildInv m₀ src dl (i + 1)) own { s with heap := h, toks := tk }) E { s with heap := h, toks := tk })
    (done : ∀ (va vb : Int) (ta tb : Tok) (n nn : Nat) (us : List Value) (ds : List Dat) (tl : List (Addr × Obj)) (u : Str → Option Value) (h : Heap) (tk : Nat), 0 ≤ vb → vb < 2147483647 → OwnOff tl [src, dl] → DatAll tl us ds → (∀ d ∈ ds, Deed d) →
      Fr h₀ env.locals h (fun y => if y = Str.ofString "turn" then u y else m₀ y) → News h₀ env.locals h ((src, listOf #[.int va ta, .int vb tb] n) :: (dl, listOf us.toArray nn) :: tl) → Q .next { s with heap := h, toks := tk }) :
    wpAny (model prog w) A (pyIter (.ref r)) (fun it s₂ => LoopAtV prog w A h₀ env (Str.ofString "turn") body Q E it s₂) E s := by
  have hsmall : Builtin.Range.small 0 b₀ 1 = true := small_one (by omega) (by omega) (by omega) (by omega)
  have hsz : Builtin.Range.rangeSize 0 b₀ 1 = ((b₀ - 0).toNat : Int) := rangeSize_nat _ _
  generalize hN : (b₀ - 0).toNat = N9 at hsz
  have hN12 : N9 ≤ 12 := by omega
  refine wpAny_pyIter_range hr hsmall ?_
  have W : Walks prog w A s.heap.objs.size [s.heap.objs.size] [s.heap.objs.size] N9 (fun i v => i < N9 ∧ ∃ t, v = .int (0 + i * 1) t)
      (fun i h => IsRangeIter h s.heap.objs.size (0 + (i : Nat) * 1) ((N9 : Int) - (i : Nat)) 1) := (Walks.range hh _ 0 1 N9).bound
  have hn : ∀ p ∈ (src, listOf #[.int va ta, .int vb tb] n) :: (dl, listOf ([] : List Value).toArray nn) :: [], p ∈ news := by
    intro p hp
    rcases List.mem_cons.mp hp with rfl | hp
    · exact hs
    · rw [List.mem_singleton.mp hp]; exact hd
  refine kdr_loop (fun i m nx => BuildInv m₀ src dl i m nx) W (fun _ h => h) (fun _ h => h) ?_ ?_ ?_ ?_ (by show IsRangeIter _ _ _ _ _; rw [hsz]; simpa using Heap.get?_push_size _ rfl) (F.push _) (fun p hp => ⟨Heap.get?_push_of_some _ (N p (hn p hp)).1, (N p (hn p hp)).2⟩)
    ⟨va, vb, ta, tb, n, nn, [], [], [], rfl, fun _ hp => (nomatch hp), hv0, hv1, rfl, .nil, fun _ hp => (nomatch hp), fun _ _ => rfl⟩ ?_ ?_
  · intro i h hi b hb
    rw [List.mem_singleton.mp hb]
    exact ⟨_, hi⟩
  · intro hm
    exact absurd F.ns.lt ((List.mem_singleton.mp hm) ▸ Nat.lt_irrefl _)
  · intro b hb
    rw [List.mem_singleton.mp hb]
    exact next_is_new F
  · intro p hp hI
    exact absurd (Heap.lt_size (N p (hn p hp)).1) ((List.mem_singleton.mp hI) ▸ Nat.lt_irrefl _)
  · rintro i v m₁ nx h tk own hi ⟨_, t, rfl⟩ hoff ⟨va, vb, ta, tb, n, nn, us, ds, tl, rfl, ho, hv0, hv1, hlen, hD, hS, hm⟩ F₁ N₁
    have e1 : (0 : Int) + (i : Int) * 1 = (i : Int) := by omega
    rw [e1] at F₁
    have o1 : OwnOff own [src, dl] := by
      intro p hp b hb
      refine hoff p hp b ?_
      rcases List.mem_cons.mp hb with rfl | hb
      · exact .head _
      · rw [List.mem_singleton.mp hb]; exact .tail _ (.head _)
    have o2 : OwnOff own (tl.map (·.1)) := fun p hp b hb => hoff p hp b (.tail _ (.tail _ hb))
    have F₂ : Fr h₀ env.locals h (fun y => if y = Str.ofString "turn" then some (.int i t) else m₀ y) := by
      have e : (fun y => if y = Str.ofString "turn" then some (.int i t) else m₀ y) = fun y => if y = Str.ofString "turn" then some (Value.int i t) else m₁ y := by
        funext y
        by_cases hy : y = Str.ofString "turn"
        · rw [if_pos hy, if_pos hy]
        · rw [if_neg hy, if_neg hy]; exact (hm y hy).symm
      rw [e]; exact F₁
    refine wpAny_mono (turn i va vb ta tb t n nn us ds tl own h tk (by omega) hlen hv0 hv1 o1 o2 ho (kd_off o1 ho) hD hS F₂ (fun p hp => N₁ p (by simpa using hp))) (fun f s₂ p => ?_) fun _ _ x => x
    obtain ⟨rfl, p⟩ := p
    exact p
  · rintro m₁ nx h tk ⟨va, vb, ta, tb, n, nn, us, ds, tl, rfl, ho, hv0, hv1, hlen, hD, hS, hm⟩ F₁ N₁
    exact done va vb ta tb n nn us ds tl m₁ h tk hv0 hv1 ho hD hS (turnOff F₁ hm) N₁

/-- what a deed may tell -/
def Further (v : Value) : Prop := v = .none ∨ ∃ (b : Int) (t : Tok), 0 ≤ b ∧ v = .int b t
theorem further4 {r : Int} {t u : Tok} (h : 0 ≤ r) : ∀ x ∈ [Value.none, .none, .int 0 t, .int r u], Further x := by
  intro x hx
  rcases List.mem_cons.mp hx with rfl | hx
  · exact .inl rfl
  rcases List.mem_cons.mp hx with rfl | hx
  · exact .inl rfl
  rcases List.mem_cons.mp hx with rfl | hx
  · exact .inr ⟨_, _, Int.le_refl _, rfl⟩
  rw [List.mem_singleton.mp hx]
  exact .inr ⟨_, _, h, rfl⟩
/-- an item of a made list at an open place, by what holds of all of them -/
theorem itemAny {L l : Addr} {value slice : PySem.Expr} {news : List (Addr × Obj)} {us : List Value} {n : Nat} {k : Int} {u : Tok} {P : Value → Prop} {Q : Value → Shared → Prop} (N : News h₀ L s.heap news) (hm : (l, listOf us.toArray n) ∈ news)
    (h0 : 0 ≤ k) (h1 : k < (us.length : Int)) (hfit : k < 2 ^ 63) (hP : ∀ x ∈ us, P x) (h : ∀ v, P v → Q v s)
    (hs : subscripted slice false (.ref l) (.int k u) = operate [.ref l, .int k u] (getItem (.ref l) (.int k u)) := by with_unfolding_all rfl) :
    wpAny (model prog w) A (subscriptTail value slice (.ref l) (.int k u)) Q E s := by
  have hk : k.toNat < us.length := by omega
  have hl : s.heap.IsList l us.toArray := ⟨_, (N _ hm).1, rfl, n, rfl⟩
  exact tail_any hl.typeIs slot_list_getitem.lookup (wpAny_getItem_list hl h0 hfit (by simpa using List.getElem?_eq_getElem hk) (h _ (hP _ (List.getElem_mem hk)))) hs

/-- a turn's end -/
theorem buildEnd {m₀ m' : Str → Option Value} {src dl p : Addr} {tl own news' : List (Addr × Obj)} {h₀ h' : Heap} {L : Addr} {s₁ : Shared} {tk : Nat} {i : Nat} {us : List Value} {ds : List Dat} {va vb many : Int} {ta tb tm : Tok} {n nn np : Nat} {f : Value} {x : Dat}
    (o1 : OwnOff own [src, dl]) (o2 : OwnOff own (tl.map (·.1))) (o3 : OwnOff tl [src, dl]) (F' : Fr h₀ L h' m') (N' : News h₀ L h' news')
    (hs : (src, listOf #[.int va ta, .int vb tb] n) ∈ news') (hd : (dl, listOf (us ++ [Value.ref p]).toArray nn) ∈ news') (hp : (p, ({ cls := .type "tuple", data := .seq #[.int many tm, f] np } : Obj)) ∈ news')
    (ho : ∀ p ∈ tl ++ own, p ∈ news') (hps : p ≠ src) (hpd : p ≠ dl) (hpo : ∀ q ∈ tl ++ own, q.1 ≠ p) (hv0 : 0 ≤ vb) (hv1 : vb < 2147483647) (hlen : us.length = i) (hD : DatAll tl us ds) (hS : ∀ d ∈ ds, Deed d)
    (hx : (f = .none ∧ x = .none) ∨ ∃ (b : Int) (t : Tok), 0 ≤ b ∧ f = .int b t ∧ x = .int b)
    (hm : ∀ z, z ≠ Str.ofString "turn" → m' z = m₀ z) :
    BuildPost h₀ L (BuildInv m₀ src dl (i + 1)) own s₁ .next { s₁ with heap := h', toks := tk } := by
  refine ⟨rfl, h', tk, m', news', (src, listOf #[.int va ta, .int vb tb] n) :: (dl, listOf (us ++ [Value.ref p]).toArray nn) :: (p, ({ cls := .type "tuple", data := .seq #[.int many tm, f] np } : Obj)) :: tl, rfl, F', N', ?_, fun q hq => ho q (List.mem_append.mpr (.inr hq)), ?_,
    va, vb, ta, tb, n, nn, us ++ [Value.ref p], ds ++ [Dat.tuple [.int many, x]], _, rfl, ?_, hv0, hv1, by simp [hlen], ?_, ?_, hm⟩
  · intro q hq
    rcases List.mem_cons.mp hq with rfl | hq
    · exact hs
    rcases List.mem_cons.mp hq with rfl | hq
    · exact hd
    rcases List.mem_cons.mp hq with rfl | hq
    · exact hp
    exact ho q (List.mem_append.mpr (.inl hq))
  · intro q hq b hb
    rcases List.mem_cons.mp hb with rfl | hb
    · exact o1 q hq _ (.head _)
    rcases List.mem_cons.mp hb with rfl | hb
    · exact o1 q hq _ (.tail _ (.head _))
    rcases List.mem_cons.mp hb with rfl | hb
    · exact hpo q (List.mem_append.mpr (.inr hq))
    exact o2 q hq b hb
  · intro q hq b hb
    rcases List.mem_cons.mp hq with rfl | hq
    · rcases List.mem_cons.mp hb with rfl | hb
      · exact hps
      · rw [List.mem_singleton.mp hb]; exact hpd
    · exact o3 q hq b hb
  · refine DatAll.append (DatAll.mono (fun _ h => .tail _ h) hD) (.one (DatIn.tuple (vs := [.int many tm, f]) (.head _) (.cons (.int _ _) (.cons ?_ .nil))))
    rcases hx with ⟨rfl, rfl⟩ | ⟨b, t, _, rfl, rfl⟩
    · exact .none
    · exact .int _ _
  · intro d hd'
    rcases List.mem_append.mp hd' with h | h
    · exact hS d h
    · rw [List.mem_singleton.mp h]
      refine ⟨_, _, rfl, ?_⟩
      rcases hx with ⟨_, rfl⟩ | ⟨b, t, hb, _, rfl⟩
      · exact .inl rfl
      · exact .inr ⟨b, hb, rfl⟩
end
end

section
set_option maxRecDepth 100000 in
theorem lawEnd {cl : Str → Option Addr} {mean : ExcName → Option Value} {ns : List Int} {s₁ s' : Shared} {L : Addr} {m : Str → Option Value} (F : Fr s₁.heap L s'.heap m) (hg : s'.gens = #[]) (hos : s'.os = s₁.os) :
    GoodW PySem.Challenge.rw_xw0322_01.row.claim cl mean [ofPy (PyData.list (List.map PyData.int ns))] s₁ (.ok (.ret (.bool true))) s' := by
  refine goodW_bool F hg (raisesW_false ?_) ?_ hos
  · exact allW_false_nil
  · exact postW_of (by wrow_shape) (by wtm_val) rfl
end

section
theorem fm_ok (v a b : Int) : IntMulOk ([v, Int.fmod a 2147483647].getD (Int.toNat 1) 0) b :=
  IntMulOk.of_left (intBits_le_64
    (by have h : 0 ≤ Int.fmod a 2147483647 := Int.fmod_nonneg_of_pos _ (by decide)
        show -_ < Int.fmod a 2147483647 ; omega)
    (by have h : Int.fmod a 2147483647 < 2147483647 := Int.fmod_lt_of_pos _ (by decide)
        show Int.fmod a 2147483647 < _ ; omega))
local macro_rules | `(tactic| mul_fits) => `(tactic| exact fm_ok _ _ _)
set_option maxRecDepth 100000 in
set_option maxHeartbeats 8000000 in
theorem take_c {w : World} {mean : ExcName → Option Value} {mg mb : Str → Option Value} (dp un : Nat) (gd : Option (List Code)) (cn : Str) (cs : Scope) (a : Addr) (ccd : Value) (cl : List (Str × Addr)) (outer : List Env) (A₀ : Around) (base h₀ : Heap) (L : Addr) (m : Str → Option Value) (s : Shared) (Q E : Value → Shared → Prop)
    (tl : List (Addr × Obj)) (src : Addr) (va vb : Int) (ta tb : Tok) (n : Nat) (top : Int) (tt : Tok) :
    Below A₀ base outer h₀ → Fr h₀ L s.heap m → (hd.heap_39 w.params).In h₀ → Top hd.view_39 (looseW hd.view_39 []) mean mg mb h₀ →
    News h₀ L s.heap ((src, listOf #[.int va ta, .int vb tb] n) :: tl) → OwnOff tl [src] →
    0 ≤ vb → vb < 2147483647 → 0 < top → top ≤ 20 → cs.kind = .function → dp + 2 < recursionLimit → un + 8 < cLine →
    (∀ (r : Int) (t : Tok) (va' vb' : Int) (ta' tb' : Tok) (n' : Nat) (h' : Heap) (tk' : Nat), 0 ≤ r → r < top → 0 ≤ vb' → vb' < 2147483647 → Fr h₀ L h' m → News h₀ L h' ((src, listOf #[.int va' ta', .int vb' tb'] n') :: tl) → Q (.int r t) { s with heap := h', toks := tk' }) →
    wpAny (model PySem.Challenge.rw_xw0322_01.row.prog w) (ktrTop dp un gd cn cs L a ccd cl outer) (call (.ref 77) [.ref src, .int top tt]) Q E s := by
  k_fill
  intro B F X T N hoff hb0 hb1 ht0 ht1 hk hd' hu ret
  have kdm := kdMark
  refine wpAny_call ?_
  k_dflt cell_enter
  k_steps
  · refine ret _ _ _ _ _ _ _ _ _ (Int.fmod_nonneg_of_pos _ ht0) (Int.fmod_lt_of_pos _ ht0) hb0 hb1 (by assumption) (by assumption)
  · refine ret _ _ _ _ _ _ _ _ _ (Int.fmod_nonneg_of_pos _ ht0) (Int.fmod_lt_of_pos _ ht0) (Int.fmod_nonneg_of_pos _ (by decide)) (Int.fmod_lt_of_pos _ (by decide)) (by assumption) (by assumption)
end

section
theorem allLt_lt {d : Nat} {l : List (Addr × Obj)} : AllLt d l → ∀ p ∈ l, @LT.lt Nat _ p.1 d := by
  induction l with
  | nil => intro _ p hp; exact nomatch hp
  | cons a r ih =>
    intro h p hp
    rcases List.mem_cons.mp hp with e | hp
    · subst e; exact h.1
    · exact ih h.2 p hp
theorem off1 {a d : Nat} {l : List (Addr × Obj)} (h : a < d ∧ AllLt d l) : ∀ p ∈ l, p.1 ≠ d := fun p hp => Nat.ne_of_lt (allLt_lt h.2 p hp)
theorem off2 {a d x : Nat} {l : List (Addr × Obj)} (h : a < d ∧ AllLt d l) (hx : d < x) : ∀ p ∈ l, p.1 ≠ x := fun p hp => Nat.ne_of_lt (Nat.lt_trans (allLt_lt h.2 p hp) hx)
theorem off3 {a b c d : Nat} {l : List (Addr × Obj)} (h : a < d ∧ b < d ∧ c < d ∧ AllLt d l) : ∀ p ∈ l, p.1 ≠ d := fun p hp => Nat.ne_of_lt (allLt_lt h.2.2.2 p hp)
theorem bad1 {e a b : Int} (h : (if e - a - b > 0 then e - a - b else 0) ≠ if (if a + b > e then a + b else e) - (a + b) > 0 then (if a + b > e then a + b else e) - (a + b) else 0) : False := by
  by_cases h1 : a + b > e
  · rw [if_pos h1, if_neg (by omega), if_neg (by omega)] at h; exact h rfl
  · rw [if_neg h1] at h
    by_cases h2 : e - a - b > 0
    · rw [if_pos h2, if_pos (by omega)] at h; omega
    · rw [if_neg h2, if_neg (by omega)] at h; exact h rfl
theorem bad2 {x : Int} (h1 : x = 1) (h0 : x = 0) : False := by omega
theorem bad3 {e A b : Int} (hb : 0 ≤ b) (h : (if A > e then A else e) + b - A ≠ if (if A > e then A else e) + b - A > 0 then (if A > e then A else e) + b - A else 0) : False := by
  have h1 : 0 ≤ (if A > e then A else e) + b - A := by split <;> omega
  revert h h1
  generalize (if A > e then A else e) + b - A = x
  intro h h1
  by_cases h2 : x > 0
  · rw [if_pos h2] at h; exact h rfl
  · rw [if_neg h2] at h; omega
theorem bad4 {a s : Int} (hs : 0 ≤ s) (h : ((s == if a + s - a > 0 then a + s - a else 0) && (if s > 0 then s else 0) == s) = false) : False := by
  have e : a + s - a = s := by omega
  have e2 : (if s > 0 then s else 0) = s := by split <;> omega
  rw [e, e2] at h
  simp at h
theorem end1 {e a b : Int} : (if e - a - b > 0 then e - a - b else 0) = (if a + b > e then a + b else e) - (a + b) := by split <;> split <;> omega
theorem end2 {e A : Int} : A ≤ if A > e then A else e := by split <;> omega
theorem end3 {e A b : Int} (hb : 0 ≤ b) : A ≤ (if A > e then A else e) + b := by split <;> omega
local macro_rules | `(tactic| k_room) => `(tactic| ktr_room)
local macro_rules | `(tactic| walk_at "subscriptTail Name Constant ref int") => `(tactic| (k_here; (with_reducible show wpAny _ _ (subscriptTail _ _ (Value.ref _) (Value.int _ _)) _ _ _); (rename News _ _ _ _ => lN'); (with_unfolding_all refine' itemLed lN' ?hm ?h0 ?hf ?hx ?_ ?hs; (case hm => k_memK); (case h0 => decide); (case hf => decide); (case hx => rfl); (case hs => with_unfolding_all rfl); k_whole)))
local macro_rules | `(tactic| walk_at "exec For Tuple Name cons nil") => `(tactic| (k_here; (rename Fr _ _ _ _ => lF'); (with_unfolding_all refine' For_invTF lF' ?_ ?k1; (case k1 => exact fun _ => rfl); k_whole)))
local macro_rules | `(tactic| walk_at "pyIter ref") => `(tactic| (k_here; (rename Fr _ _ _ _ => lF'); (rename News _ _ _ _ => lN'); (rename DatAll _ _ _ => hD9);  (with_unfolding_all refine' rightLoop ?hh lF' lN' hD9 (by assumption) ?mt ?mx ?hT ?hX ?hDi ?hl ?htl ?oT ?oX ?oD ?lT ?lX ?lD ?hr4 ?hae ?hsz ?hmq ?hts ?hta ?turnN ?turnI ?done); (case hh => with_unfolding_all rfl); (case mt => with_unfolding_all rfl); (case mx => with_unfolding_all rfl); (case hT => k_mem); (case hX => k_mem); (case hDi => k_mem); (case hl => k_mem); (case htl => (intro p hp; repeat (first | exact hp | refine List.Mem.tail _ ?_))); (case oT => exact off3 (by assumption)); (case oX => exact off2 (by assumption) (by assumption)); (case oD => exact off1 (by assumption)); (case lT => k_ne); (case lX => k_ne); (case lD => k_ne); (case hr4 => omega); (case hae => omega); (case hsz => omega); (case hmq => (first | rfl | (split <;> omega))); (case hts => rfl); (case hta => rfl)))
set_option maxRecDepth 100000 in
set_option maxHeartbeats 8000000 in
theorem right_c {w : World} {mean : ExcName → Option Value} {mg mb : Str → Option Value} (dp un : Nat) (gd : Option (List Code)) (cn : Str) (cs : Scope) (a : Addr) (ccd : Value) (cl : List (Str × Addr)) (outer : List Env) (A₀ : Around) (base h₀ : Heap) (L : Addr) (m : Str → Option Value) (s : Shared) (Q E : Value → Shared → Prop)
    (tl : List (Addr × Obj)) (dl : Addr) (us : List Value) (ds : List Dat) (nn : Nat) (ring seq ack size : Int) (tr tq tk ts : Tok) :
    Below A₀ base outer h₀ → Fr h₀ L s.heap m → (hd.heap_39 w.params).In h₀ → Top hd.view_39 (looseW hd.view_39 []) mean mg mb h₀ →
    News h₀ L s.heap ((dl, listOf us.toArray nn) :: tl) → OwnOff tl [dl] → DatAll ((dl, listOf us.toArray nn) :: tl) us ds → (∀ d ∈ ds, Deed d) →
    4 ≤ ring → ring ≤ 4294967296 → 0 ≤ size → cs.kind = .function → dp + 6 < recursionLimit → un + 100 < cLine →
    (∀ (h' : Heap) (tk' : Nat), Fr h₀ L h' m → Q (.bool true) { s with heap := h', toks := tk' }) →
    wpAny (model PySem.Challenge.rw_xw0322_01.row.prog w) (ktrTop dp un gd cn cs L a ccd cl outer) (call (.ref 98) [.int ring tr, .int seq tq, .int ack tk, .int size ts, .ref dl]) Q E s := by
  k_fill
  intro B F X T N hoff hD hS hr0 hr1 hs0 hk hd' hu ret
  have kdm := kdMark
  refine wpAny_call ?_
  k_dflt cell_enter
  k_steps
  all_goals first
    | exact ret _ _ (by k_asm)
    | exact (bad1 (by with_reducible assumption)).elim
    | exact (bad2 (by with_reducible assumption) (by with_reducible assumption)).elim
    | exact (bad3 (by with_reducible assumption) (by with_reducible assumption)).elim
    | exact (bad4 (by with_reducible assumption) (by with_reducible assumption)).elim
    | skip
  all_goals (rename News _ _ _ _ => lN'; rename Fr _ _ _ _ => lF')
  all_goals (refine' turnEnd ?hown lF' lN' ?hT ?hX ?hD ?hl ?ho ?hm ?hae ?hsz ?hmq ?hts ?hta; (case hown => with_reducible assumption); (case hT => k_memK); (case hX => k_memK); (case hD => k_memK); (case hl => k_memK); (case ho => (intro p hp; repeat (first | exact hp | refine List.Mem.tail _ ?_))); (case hm => (intro z h1 h2; simp only [if_neg h1, if_neg h2])); (case hae => first | exact end2 | exact end3 (by with_reducible assumption)); (case hsz => first | rfl | exact end1); (case hmq => rfl); (case hts => rfl); (case hta => rfl))
end

section
set_option maxRecDepth 100000
theorem take_use {w : World} {mean : ExcName → Option Value} {mg mb : Str → Option Value} {dp un : Nat} {gd : Option (List Code)} {cn : Str} {cs : Scope} {a : Addr} {ccd : Value} {cl : List (Str × Addr)} {outer : List Env} {A₀ : Around} {base h₀ : Heap} {L : Addr} {m : Str → Option Value} {s : Shared} {Q E : Value → Shared → Prop}
    {news : List (Addr × Obj)} {g : Obj → List (Addr × Obj)} {src : Addr} {va vb : Int} {ta tb : Tok} {n : Nat} {top : Int} {tt : Tok}
    (B : Below A₀ base outer h₀) (F : Fr h₀ L s.heap m) (X : (hd.heap_39 w.params).In h₀) (T : Top hd.view_39 (looseW hd.view_39 []) mean mg mb h₀)
    (N : News h₀ L s.heap news) (U : UpdF src (listOf #[.int va ta, .int vb tb] n) news g)
    (hb0 : 0 ≤ vb) (hb1 : vb < 2147483647) (ht0 : 0 < top) (ht1 : top ≤ 20) (hk : cs.kind = .function) (hd' : dp + 2 < recursionLimit) (hu : un + 8 < cLine)
    (ret : ∀ (r : Int) (t : Tok) (va' vb' : Int) (ta' tb' : Tok) (n' : Nat) (h' : Heap) (tk' : Nat), 0 ≤ r → r < top → 0 ≤ vb' → vb' < 2147483647 → Fr h₀ L h' m → News h₀ L h' (g (listOf #[.int va' ta', .int vb' tb'] n')) → Q (.int r t) { s with heap := h', toks := tk' }) :
    wpAny (model PySem.Challenge.rw_xw0322_01.row.prog w) (ktrTop dp un gd cn cs L a ccd cl outer) (call (.ref 77) [.ref src, .int top tt]) Q E s := by
  obtain ⟨pre, post, e, eg, h1, h2⟩ := U.split
  subst e
  refine take_c dp un gd cn cs a ccd cl outer A₀ base h₀ L m s Q E (pre ++ post) src va vb ta tb n top tt B F X T ?_ ?_ hb0 hb1 ht0 ht1 hk hd' hu ?_
  · intro p hp
    refine N p ?_
    rcases List.mem_cons.mp hp with rfl | hp
    · exact List.mem_append.mpr (.inr (.head _))
    · rcases List.mem_append.mp hp with hp | hp
      · exact List.mem_append.mpr (.inl hp)
      · exact List.mem_append.mpr (.inr (.tail _ hp))
  · intro p hp b hb
    rw [List.mem_singleton.mp hb]
    rcases List.mem_append.mp hp with hp | hp
    · exact h1 p hp
    · exact h2 p hp
  · intro r t va' vb' ta' tb' n' h' tk' a1 a2 a3 a4 F' N'
    refine ret r t va' vb' ta' tb' n' h' tk' a1 a2 a3 a4 F' ?_
    rw [eg]
    intro p hp
    refine N' p ?_
    rcases List.mem_append.mp hp with hp | hp
    · exact .tail _ (List.mem_append.mpr (.inl hp))
    · rcases List.mem_cons.mp hp with rfl | hp
      · exact .head _
      · exact .tail _ (List.mem_append.mpr (.inr hp))

theorem right_use {w : World} {mean : ExcName → Option Value} {mg mb : Str → Option Value} {dp un : Nat} {gd : Option (List Code)} {cn : Str} {cs : Scope} {a : Addr} {ccd : Value} {cl : List (Str × Addr)} {outer : List Env} {A₀ : Around} {base h₀ : Heap} {L : Addr} {m : Str → Option Value} {s : Shared} {Q E : Value → Shared → Prop}
    {news : List (Addr × Obj)} {dl : Addr} {us : List Value} {ds : List Dat} {nn : Nat} {ring seq ack size : Int} {tr tq tk ts : Tok}
    (B : Below A₀ base outer h₀) (F : Fr h₀ L s.heap m) (X : (hd.heap_39 w.params).In h₀) (T : Top hd.view_39 (looseW hd.view_39 []) mean mg mb h₀)
    (N : News h₀ L s.heap news) (hm : (dl, listOf us.toArray nn) ∈ news) (hD : DatAll news us ds) (hS : ∀ d ∈ ds, Deed d)
    (hr0 : 4 ≤ ring) (hr1 : ring ≤ 4294967296) (hs0 : 0 ≤ size) (hk : cs.kind = .function) (hd' : dp + 6 < recursionLimit) (hu : un + 100 < cLine)
    (ret : ∀ (h' : Heap) (tk' : Nat), Fr h₀ L h' m → News h₀ L h' [] → Q (.bool true) { s with heap := h', toks := tk' }) :
    wpAny (model PySem.Challenge.rw_xw0322_01.row.prog w) (ktrTop dp un gd cn cs L a ccd cl outer) (call (.ref 98) [.int ring tr, .int seq tq, .int ack tk, .int size ts, .ref dl]) Q E s := by
  have hof : ∀ p ∈ news.filter (fun p => decide (p.1 ≠ dl)), p ∈ news ∧ p.1 ≠ dl := fun p hp => ⟨(List.mem_filter.mp hp).1, by simpa using (List.mem_filter.mp hp).2⟩
  have hsub : ∀ p ∈ news, p ∈ (dl, listOf us.toArray nn) :: news.filter (fun p => decide (p.1 ≠ dl)) := by
    intro p hp
    by_cases e : p.1 = dl
    · have h1 := (N _ hm).1
      have h2 := (N p hp).1
      rw [e, h1] at h2
      have h3 : p = (dl, listOf us.toArray nn) := Prod.ext e (Option.some.inj h2).symm
      rw [h3]; exact .head _
    · exact .tail _ (List.mem_filter.mpr ⟨hp, by simpa using e⟩)
  refine right_c dp un gd cn cs a ccd cl outer A₀ base h₀ L m s Q E (news.filter (fun p => decide (p.1 ≠ dl))) dl us ds nn ring seq ack size tr tq tk ts B F X T ?_ ?_ (DatAll.mono hsub hD) hS hr0 hr1 hs0 hk hd' hu fun h' tk' F' => ret h' tk' F' (fun _ hp => nomatch hp)
  · intro p hp
    rcases List.mem_cons.mp hp with rfl | hp
    · exact N _ hm
    · exact N p (hof p hp).1
  · intro p hp b hb
    rw [List.mem_singleton.mp hb]
    exact (hof p hp).2
end

section
theorem deeds2 : ∀ d ∈ [Dat.tuple [.int 3, .none], Dat.tuple [.int 4, .none]], Deed d := by
  intro d hd
  rcases List.mem_cons.mp hd with rfl | hd
  · exact ⟨_, _, rfl, .inl rfl⟩
  · rw [List.mem_singleton.mp hd]
    exact ⟨_, _, rfl, .inl rfl⟩
theorem fm0 (a : Int) : 0 ≤ Int.fmod a 2147483647 := Int.fmod_nonneg_of_pos _ (by decide)
theorem fm1 (a : Int) : Int.fmod a 2147483647 < 2147483647 := Int.fmod_lt_of_pos _ (by decide)
local macro_rules | `(tactic| walk_at "call ref") => `(tactic| (k_here; (with_reducible show wpAny _ _ (call (Value.ref 98) _) _ _ _); (rename News _ _ _ _ => lN'); (with_unfolding_all refine' right_use (us := [.ref _, .ref _]) ?B ?F ?X ?T lN' ?hm (DatAll.cons (DatIn.tuple (vs := [.int 3 _, .none]) ?t1 (.cons (.int _ _) (.cons .none .nil))) (.cons (DatIn.tuple (vs := [.int 4 _, .none]) ?t2 (.cons (.int _ _) (.cons .none .nil))) .nil)) deeds2 ?hr0 ?hr1 ?hs0 ?hk ?hd ?hu ?_; (case B => k_asm); (case F => k_asm); (case X => k_asm); (case T => k_asm); (case hm => k_memK); (case t1 => k_memK); (case t2 => k_memK); (case hr0 => decide); (case hr1 => decide); (case hs0 => decide); (case hk => exact rfl); (case hd => ktr_room); (case hu => ktr_units); k_whole); (clear lN'); intro h' tk' F' N'; (try k_sweep)))
theorem roomR : callerA.units + 3 + 100 < cLine := by
  have h := cLine_is
  simp only [units_caller]
  omega
theorem deepR : callerA.depth + 1 + 6 < recursionLimit := by
  simp only [depth_caller]
  decide
theorem lt4 {a b c d : Value} {r : Int} (h : r < 4) : r < (([a, b, c, d] : List Value).length : Int) := h
theorem ringLo {r : Int} (h0 : 0 ≤ r) (h1 : r < 2) : 4 ≤ ([256, 2 ^ Int.toNat 32] : List Int).getD r.toNat 0 := by
  rcases (by omega : r = 0 ∨ r = 1) with rfl | rfl
  · decide
  · decide
theorem ringHi {r : Int} (h0 : 0 ≤ r) (h1 : r < 2) : ([256, 2 ^ Int.toNat 32] : List Int).getD r.toNat 0 ≤ 4294967296 := by
  rcases (by omega : r = 0 ∨ r = 1) with rfl | rfl
  · decide
  · decide
local macro_rules | `(tactic| walk_at "call ref") => `(tactic| (k_here; (with_reducible show wpAny _ _ (call (Value.ref 98) _) _ _ _); (rename News _ _ _ _ => lN'); (rename DatAll _ _ _ => kD9); (with_unfolding_all refine' right_use ?B ?F ?X ?T lN' ?hm (DatAll.mono ?sub kD9) ?hS ?hr0 ?hr1 ?hs0 ?hk ?hd ?hu ?_; (case B => k_asm); (case F => k_asm); (case X => k_asm); (case T => k_asm); (case hm => k_memK); (case sub => (intro p hp; repeat (first | exact hp | refine List.Mem.tail _ ?_))); (case hS => assumption); (case hr0 => exact ringLo (by with_reducible assumption) (by with_reducible assumption)); (case hr1 => exact ringHi (by with_reducible assumption) (by with_reducible assumption)); (case hs0 => with_reducible assumption); (case hk => exact rfl); (case hd => exact deepR); (case hu => exact roomR); k_whole); (clear lN'); intro h' tk' F' N'; exact lawEnd (by assumption) (by assumption) rfl))
local macro_rules | `(tactic| walk_at "call ref") => `(tactic| (k_here; (with_reducible show wpAny _ _ (call (Value.ref 77) _) _ _ _); (rename News _ _ _ _ => lN'); (with_unfolding_all refine' take_use ?B ?F ?X ?T lN' ?hU ?hb0 ?hb1 ?ht0 ?ht1 ?hk ?hd ?hu ?_; (case B => k_asm); (case F => k_asm); (case X => k_asm); (case T => k_asm); (case hU => k_updF); (case hb0 => first | with_reducible assumption | exact fm0 _ | decide); (case hb1 => first | with_reducible assumption | exact fm1 _ | decide); (case ht0 => decide); (case ht1 => decide); (case hk => exact rfl); (case hd => ktr_room); (case hu => ktr_units); k_whole); (clear lN'); intro r' t' va' vb' ta' tb' n' h' tk' hr0' hr1' hv0' hv1' F' N'; (try dsimp only at N'); (try k_sweep)))
local macro_rules | `(tactic| walk_at "subscriptTail Name Call ref int") => `(tactic| (k_here; (with_reducible show wpAny _ _ (subscriptTail _ _ (Value.ref _) (Value.int _ _)) _ _ _); (rename News _ _ _ _ => lN'); (with_unfolding_all refine' itemAny (us := [.none, .none, .int 0 _, .int _ _]) (P := Further) lN' ?hm ?h0 ?h1 ?hf ?hP ?_ ?hs; (case hm => k_memK); (case h0 => with_reducible assumption); (case h1 => exact lt4 (by with_reducible assumption)); (case hf => omega); (case hP => exact further4 (by with_reducible assumption)); (case hs => with_unfolding_all rfl); k_whole); intro v' hv'; rcases hv' with hv' | ⟨b', t', hb', hv'⟩ <;> subst hv'))
theorem small12 {us : List Value} (h : us.length < 12) : us.toArray.size ≤ sizeLine := by
  rw [sizeLine_eq, List.size_toArray]
  omega
local macro_rules | `(tactic| walk_at "call builtin:list.append") => `(tactic| (k_here; (with_reducible show wpAny _ _ (call (Value.builtin _) [Value.ref _, _]) _ _ _); (rename Fr _ _ _ _ => lF'); (rename News _ _ _ _ => lN'); k_dflt (refine' append_K lF' lN' ?k3 ?_ ?z; (case k3 => k_upd); (case z => exact small12 (by with_reducible assumption)); k_whole); (clear lF' lN'); intro h' F' N'; (try k_sweep)))
local macro_rules | `(tactic| walk_at "exec For Name Call cons nil") => `(tactic| (k_here; (rename Fr _ _ _ _ => lF'); (with_unfolding_all refine' For_invVF lF' ?k1 ?k2 ?_; (case k1 => exact rfl); (case k2 => exact rfl); k_whole)))
local macro_rules | `(tactic| walk_at "call type:range") => `(tactic| (k_here; (rename Fr _ _ _ _ => lF'); (rename News _ _ _ _ => lN'); (with_unfolding_all refine range1_rows lF' lN' ?_); intro h' tk' t1' u1' v1' rg' F' N' kp'; (try k_sweep)))
local macro_rules | `(tactic| walk_at "pyIter ref") => `(tactic| (k_here; (with_reducible show wpAny _ _ (pyIter (Value.ref _)) (fun it s₂ => LoopAtV _ _ _ _ _ _ _ _ _ it s₂) _ _); (rename Fr _ _ _ _ => lF'); (rename News _ _ _ _ => lN'); (rename IsRange _ _ _ _ _ _ _ _ => rgX); (with_unfolding_all refine' buildLoop ?hh rgX ?hb0 ?hb1 lF' lN' ?hs ?hd ?hv0 ?hv1 (fun i' va' vb' ta' tb' ti' n' nn' us' ds' tl' own' h' tk' kLt kLe hv0' hv1' o1' o2' o3' o4' kDat kDs F' N' => ?_) (fun va' vb' ta' tb' n' nn' us' ds' tl' u' h' tk' hv0' hv1' o3' kDat kDs F' N' => ?_); (case hh => with_unfolding_all rfl); (case hs => k_memK); (case hd => k_memK); (case hb0 => first | decide | omega); (case hb1 => first | decide | omega); (case hv0 => first | with_reducible assumption | exact fm0 _ | decide); (case hv1 => first | with_reducible assumption | exact fm1 _ | decide)); (all_goals (try clear lF' lN')); (all_goals (have kdm' := kdMark))))
set_option maxRecDepth 100000 in
set_option maxHeartbeats 8000000 in
theorem lawHolds : PySem.Challenge.rw_xw0322_01.Holds := hd (by
  k_go0
  (all_goals try k_fold)
  k_steps
  all_goals (rename Fr _ _ _ _ => lF'; rename News _ _ _ _ => lN'; simp only [List.push_toArray] at lN')
  all_goals (refine' buildEnd ?o1 ?o2 ?o3 lF' lN' ?hs ?hd ?hp ?ho ?hps ?hpd ?hpo ?hv0 ?hv1 ?hlen ?hD ?hS ?hx ?hm; (case o1 => with_reducible assumption); (case o2 => with_reducible assumption); (case o3 => with_reducible assumption); (case hd => k_memK); (case hs => k_memK); (case hp => k_memK); (case ho => (intro p hp; repeat (first | exact hp | refine List.Mem.tail _ ?_))); (case hps => k_ne); (case hpd => k_ne); (case hpo => exact off3 (by with_reducible assumption)); (case hv0 => with_reducible assumption); (case hv1 => with_reducible assumption); (case hlen => with_reducible assumption); (case hD => with_reducible assumption); (case hS => with_reducible assumption); (case hx => first | exact .inl ⟨rfl, rfl⟩ | exact .inr ⟨_, _, by with_reducible assumption, rfl, rfl⟩); (case hm => (intro z h1; simp only [if_neg h1]))))
end

end Mine

theorem PySem.Challenge.cw_xw0322_01_holds : PySem.Challenge.rw_xw0322_01.Holds :=
  Mine.lawHolds
