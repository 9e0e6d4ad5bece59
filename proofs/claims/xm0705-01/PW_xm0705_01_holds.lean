import PyProof.Rows.All
import Wide.All
import OpenK.AllK
import Wide.FinOn
import PySem.Challenge.RW_xm0705_01
open PySem PySem.W PyProof.Rows
set_option Elab.async false
namespace Mine

/-- what the law's own test says -/
def dueF (p ph th d t : Int) : Bool :=
  if p = 0 then decide (t = d) else
  if (if 0 ≤ d then d else 0 - d) + th < ph.fmod p then decide ((if 0 ≤ d then t else 0 - t) = ph) else
  decide (((if 0 ≤ d then t else 0 - t) - ph).fmod p = 0 ∧ (if 0 ≤ d then t else 0 - t) ≤ (if 0 ≤ d then d else 0 - d) + th ∧
    (if 0 ≤ d then d else 0 - d) + th < (if 0 ≤ d then t else 0 - t) + p)

/-- what the function gives back -/
def roundF (p ph th d : Int) : Int :=
  if p = 0 then d else
  if 0 ≤ d then
    (if ((d - ph + th).fdiv p) * p + ph < 0 then ph else ((d - ph + th).fdiv p) * p + ph)
  else 0 - (if ((0 - d - ph + th).fdiv p) * p + ph < 0 then ph else ((0 - d - ph + th).fdiv p) * p + ph)

/-- the plain law, for a size -/
theorem place_due {p ph m : Int} (hp : 0 < p) :
    let found := ((m - ph).fdiv p) * p + ph
    let place := if found < 0 then ph else found
    if m < ph.fmod p then place = ph else ((place - ph).fmod p = 0 ∧ place ≤ m ∧ m < place + p) := by
  intro found place
  have e1 := Int.mul_fdiv_add_fmod (m - ph) p
  have l1 := Int.fmod_nonneg_of_pos (m - ph) hp
  have u1 := Int.fmod_lt_of_pos (m - ph) hp
  have e2 := Int.mul_fdiv_add_fmod ph p
  have l2 := Int.fmod_nonneg_of_pos ph hp
  have u2 := Int.fmod_lt_of_pos ph hp
  have hf : found = ((m - ph).fdiv p) * p + ph := rfl
  have c1 : ((m - ph).fdiv p) * p = p * ((m - ph).fdiv p) := Int.mul_comm _ _
  have hpl : place = if found < 0 then ph else found := rfl
  generalize hq : (m - ph).fdiv p = q at *
  generalize hr : ph.fdiv p = r at *
  generalize hs : (m - ph).fmod p = s at *
  generalize ht : ph.fmod p = t at *
  have hqr : found = p * (q + r) + t := by rw [Int.mul_add]; omega
  split
  · rename_i hm
    have : found < 0 := by
      have h1 : p * (q + r) < 0 := by omega
      have h2 : q + r ≤ -1 := by
        by_cases h : 0 ≤ q + r
        · exact absurd (Int.mul_nonneg (Int.le_of_lt hp) h) (by omega)
        · omega
      have h3 : p * (q + r) ≤ p * (-1) := Int.mul_le_mul_of_nonneg_left h2 (Int.le_of_lt hp)
      omega
    rw [hpl, if_pos this]
  · rename_i hm
    have : ¬ found < 0 := by
      intro hn
      have h1 : p * (q + r) < 0 := by omega
      have h2 : q + r ≤ -1 := by
        by_cases h : 0 ≤ q + r
        · exact absurd (Int.mul_nonneg (Int.le_of_lt hp) h) (by omega)
        · omega
      have h3 : p * (q + r) ≤ p * (-1) := Int.mul_le_mul_of_nonneg_left h2 (Int.le_of_lt hp)
      omega
    rw [hpl, if_neg this]
    refine ⟨?_, by omega, by omega⟩
    have : found - ph = q * p := by omega
    rw [this]
    exact Int.mul_fmod_left q p

theorem due_round {p ph th d : Int} (hp : 0 ≤ p) : dueF p ph th d (roundF p ph th d) = true := by
  unfold dueF roundF
  by_cases h0 : p = 0
  · simp [h0]
  · have hp' : 0 < p := by omega
    rw [if_neg h0, if_neg h0]
    by_cases hd : 0 ≤ d
    · simp only [if_pos hd]
      have h := place_due (p := p) (ph := ph) (m := d + th) hp'
      have e : d + th - ph = d - ph + th := by omega
      simp only [e] at h
      split at h
      · rename_i hm; rw [if_pos hm]; exact decide_eq_true h
      · rename_i hm; rw [if_neg hm]; exact decide_eq_true h
    · simp only [if_neg hd]
      have h := place_due (p := p) (ph := ph) (m := 0 - d + th) hp'
      have e : 0 - d + th - ph = 0 - d - ph + th := by omega
      simp only [e] at h
      generalize (if ((0 - d - ph + th).fdiv p) * p + ph < 0 then ph else ((0 - d - ph + th).fdiv p) * p + ph) = x at *
      have e2 : 0 - (0 - x) = x := by omega
      simp only [e2]
      split at h
      · rename_i hm; rw [if_pos hm]; exact decide_eq_true h
      · rename_i hm; rw [if_neg hm]; exact decide_eq_true h

/-- a def's contract, the ledger left open -/
abbrev Claim (kd : Nat) (prog : Program) (w : World) (K : Frag) (p : Program) (loose : List Str) (mean : ExcName → Option Value) (mg mb : Str → Option Value) (f : Addr) (vs : List Value) (N₀ : List (Addr × Obj)) (post : Value → List (Addr × Obj) → Prop) : Prop :=
  ∀ (dp un : Nat) (gd : Option (List Code)) (cn : Str) (cs : Scope) (a : Addr) (ccd : Value) (cl : List (Str × Addr)) (outer : List Env) (A₀ : Around) (base h₀ : Heap) (L : Addr) (m : Str → Option Value) (s : Shared) (Q E : Value → Shared → Prop),
    Below A₀ base outer h₀ → Fr h₀ L s.heap m → K.In h₀ → News h₀ L s.heap N₀ → Top p loose mean mg mb h₀ → cs.kind = .function →
    dp + kd < recursionLimit → un + 8 * kd < cLine →
    (∀ v N₁ h' tk', post v N₁ → Fr h₀ L h' m → News h₀ L h' N₁ → Q v { s with heap := h', toks := tk' }) →
    wpAny (model prog w) (ktrTop dp un gd cn cs L a ccd cl outer) (call (.ref f) vs) Q E s

def DueC (prog : Program) (w : World) (K : Frag) (p : Program) (loose : List Str) (mean : ExcName → Option Value) (mg mb : Str → Option Value) : Prop :=
  ∀ (pe ph th d t : Int) (t1 t2 t3 t4 t5 : Tok) (news : List (Addr × Obj)),
    Claim 2 prog w K p loose mean mg mb 84 [.int pe t1, .int ph t2, .int th t3, .int d t4, .int t t5] news
      (fun v N₁ => v = .bool (dueF pe ph th d t) ∧ N₁ = news)


section
variable {prog : Program} {w : World} {A : Around} {E : Value → Shared → Prop} {s : Shared} {h₀ : Heap} {L : Addr} {m : Str → Option Value} {news : List (Addr × Obj)}
theorem item_lit {value slice : PySem.Expr} {l : Addr} {its : Array Value} {nn : Nat} {k : Int} {u : Tok} {v : Value} {Q : Value → Shared → Prop} (N : News h₀ L s.heap news) (hm : (l, W.listOf its nn) ∈ news)
    (h0 : 0 ≤ k) (hhi : k < 2 ^ 63) (hx : its[k.toNat]? = some v) (h : Q v s)
    (hs : subscripted slice false (.ref l) (.int k u) = operate [.ref l, .int k u] (getItem (.ref l) (.int k u)) := by with_unfolding_all rfl) :
    wpAny (model prog w) A (subscriptTail value slice (.ref l) (.int k u)) Q E s :=
  tail_any (N.isList hm).typeIs slot_list_getitem.lookup (wpAny_getItem_list (N.isList hm) h0 hhi hx h) hs
theorem item_lit0 {value slice : PySem.Expr} {l : Addr} {x y : Value} {nn : Nat} {u : Tok} {Q : Value → Shared → Prop} (N : News h₀ L s.heap news) (hm : (l, W.listOf #[x, y] nn) ∈ news) (h : Q x s)
    (hs : subscripted slice false (.ref l) (.int 0 u) = operate [.ref l, .int 0 u] (getItem (.ref l) (.int 0 u)) := by with_unfolding_all rfl) :
    wpAny (model prog w) A (subscriptTail value slice (.ref l) (.int 0 u)) Q E s := item_lit N hm (by decide) (by decide) rfl h hs
theorem item_lit1 {value slice : PySem.Expr} {l : Addr} {x y : Value} {nn : Nat} {u : Tok} {Q : Value → Shared → Prop} (N : News h₀ L s.heap news) (hm : (l, W.listOf #[x, y] nn) ∈ news) (h : Q y s)
    (hs : subscripted slice false (.ref l) (.int 1 u) = operate [.ref l, .int 1 u] (getItem (.ref l) (.int 1 u)) := by with_unfolding_all rfl) :
    wpAny (model prog w) A (subscriptTail value slice (.ref l) (.int 1 u)) Q E s := item_lit N hm (by decide) (by decide) rfl h hs
theorem item_of {value slice : PySem.Expr} {l : Addr} {vs : List Value} {ns : List Int} {nn : Nat} {k : Int} {u : Tok} {Q : Value → Shared → Prop} (N : News h₀ L s.heap news) (hm : (l, W.listOf vs.toArray nn) ∈ news)
    (hi : IntsAre vs ns) (h0 : 0 ≤ k) (hlt : k < ns.length) (hlen : ns.length < 100) (h : ∀ r t, r ∈ ns → Q (.int r t) s)
    (hs : subscripted slice false (.ref l) (.int k u) = operate [.ref l, .int k u] (getItem (.ref l) (.int k u)) := by with_unfolding_all rfl) :
    wpAny (model prog w) A (subscriptTail value slice (.ref l) (.int k u)) Q E s := by
  have hk : k.toNat < ns.length := by omega
  obtain ⟨t, ht⟩ := hi.get k.toNat ns[k.toNat] (by simp [hk])
  exact item_lit N hm h0 (by omega) (by simpa using ht) (h _ t (List.getElem_mem hk)) hs
theorem len_of {l : Addr} {vs : List Value} {ns : List Int} {nn : Nat} {Q : Value → Shared → Prop} (N : News h₀ L s.heap news) (hm : (l, W.listOf vs.toArray nn) ∈ news)
    (hi : IntsAre vs ns) (hlen : ns.length < 100) (h : Q (.int ns.length (s.toks + 1)) { s with toks := s.toks + 1 + 1 }) :
    wpAny (model prog w) A (call (.builtin "len") [.ref l]) Q E s := by
  have e : vs.toArray.size = ns.length := by simp [hi.length]
  exact len_list (N.isList hm) (by rw [e]; omega) (by rw [e]; exact h)
end

/-- what a turn of a loop that changes nothing hands on -/
def TurnEnd (h₀ : Heap) (L : Addr) (x : Str) (m₀ : Str → Option Value) (led : List (Addr × Obj)) (s₁ s₂ : Shared) : Prop :=
  ∃ h' tk m' news', s₂ = { s₁ with heap := h', toks := tk } ∧ Fr h₀ L h' m' ∧ News h₀ L h' news' ∧ (∀ z, z ≠ x → m' z = m₀ z) ∧ (∀ p ∈ led, p ∈ news')
def TurnPost (h₀ : Heap) (L : Addr) (x : Str) (m₀ : Str → Option Value) (led : List (Addr × Obj)) (s₁ : Shared) (Q : Flow → Shared → Prop) (f : Flow) (s₂ : Shared) : Prop :=
  match f with
  | .ret v => Q (.ret v) s₂
  | .brk => Q .next s₂
  | _ => TurnEnd h₀ L x m₀ led s₁ s₂
section
variable {prog : Program} {w : World} {A : Around} {E : Value → Shared → Prop} {s : Shared} {env : Env} {h₀ : Heap} {x : Str} {body : List Stmt} {Q : Flow → Shared → Prop}
theorem loop_plain {l : Addr} {vs : List Value} {ns : List Int} {nn : Nat} {m₀ : Str → Option Value} {news : List (Addr × Obj)}
    (hh : A.handled = none) (hl : (l, W.listOf vs.toArray nn) ∈ news) (hi : IntsAre vs ns) (F : Fr h₀ env.locals s.heap m₀) (N : News h₀ env.locals s.heap news)
    (turn : ∀ n t h tk own, n ∈ ns → Fr h₀ env.locals h (fun y => if y = x then some (.int n t) else m₀ y) → News h₀ env.locals h (news ++ own) →
      wpAny (model prog w) A (execs body env) (TurnPost h₀ env.locals x m₀ (news ++ own) { s with heap := h, toks := tk } Q) E { s with heap := h, toks := tk })
    (done : ∀ (u : Option Value) h tk, Fr h₀ env.locals h (fun y => if y = x then u else m₀ y) → News h₀ env.locals h news → Q .next { s with heap := h, toks := tk }) :
    wpAny (model prog w) A (pyIter (.ref l)) (fun it s₂ => LoopAtV prog w A h₀ env x body Q E it s₂) E s := by
  refine iter_invNL (fun _ m nx => nx = news ∧ ∀ z, z ≠ x → m z = m₀ z) hh hl hi F N ⟨rfl, fun _ _ => rfl⟩ ?_ ?_
  · rintro i n t m₁ news₁ h tk own hn _ _ _ ⟨rfl, hm⟩ F₁ N₁
    have e : (fun y => if y = x then some (Value.int n t) else m₁ y) = fun y => if y = x then some (Value.int n t) else m₀ y := by
      funext y
      by_cases hy : y = x
      · simp [hy]
      · simp only [if_neg hy]; exact hm y hy
    rw [e] at F₁
    refine wpAny_mono (turn n t h tk own (List.mem_of_getElem? hn) F₁ N₁) (fun f s₂ p => ?_) fun _ _ x => x
    have fin : TurnEnd h₀ env.locals x m₀ (news₁ ++ own) { s with heap := h, toks := tk } s₂ →
        InvEndN h₀ env.locals (fun m' nx => (l, W.listOf vs.toArray nn) ∈ nx ∧ nx = news₁ ∧ ∀ z, z ≠ x → m' z = m₀ z) own (news₁.map (·.1)) { s with heap := h, toks := tk } s₂ := by
      rintro ⟨h', tk', m', news', rfl, F', N', hz, hs⟩
      exact ⟨h', tk', m', news', news₁, rfl, F', N', fun p hp => hs p (List.mem_append.mpr (.inl hp)), fun p hp => hs p (List.mem_append.mpr (.inr hp)), rfl, hl, rfl, hz⟩
    cases f with
    | ret v => exact p
    | brk => exact p
    | next => exact fin p
    | cont => exact fin p
  · rintro m₁ news₁ h tk _ ⟨rfl, hm⟩ F₁ N₁
    refine done (m₁ x) h tk ?_ N₁
    have e : (fun y => if y = x then m₁ x else m₀ y) = m₁ := by
      funext y
      by_cases hy : y = x
      · simp [hy]
      · simp only [if_neg hy]; exact (hm y hy).symm
    rw [e]; exact F₁
end

def DueRoundC (prog : Program) (w : World) (K : Frag) (p : Program) (loose : List Str) (mean : ExcName → Option Value) (mg mb : Str → Option Value) : Prop :=
  ∀ (pe ph th d t : Int) (t1 t2 t3 t4 t5 : Tok) (news : List (Addr × Obj)), 0 ≤ pe → t = roundF pe ph th d →
    Claim 2 prog w K p loose mean mg mb 84 [.int pe t1, .int ph t2, .int th t3, .int d t4, .int t t5] news
      (fun v N₁ => v = .bool true ∧ N₁ = news)

theorem dueRound_of {prog : Program} {w : World} {K : Frag} {p : Program} {loose : List Str} {mean : ExcName → Option Value} {mg mb : Str → Option Value}
    (C : DueC prog w K p loose mean mg mb) : DueRoundC prog w K p loose mean mg mb := by
  intro pe ph th d t t1 t2 t3 t4 t5 news h0 ht
  subst ht
  have h := C pe ph th d (roundF pe ph th d) t1 t2 t3 t4 t5 news
  rw [due_round h0] at h
  exact h

def RightC (prog : Program) (w : World) (K : Frag) (p : Program) (loose : List Str) (mean : ExcName → Option Value) (mg mb : Str → Option Value) : Prop :=
  ∀ (pe ph th : Int) (t1 t2 t3 : Tok) (l : Addr) (vs : List Value) (ns : List Int) (nn : Nat) (news : List (Addr × Obj)), 0 ≤ pe → pe ≤ 1000 → (l, W.listOf vs.toArray nn) ∈ news → IntsAre vs ns →
    Claim 7 prog w K p loose mean mg mb 91 [.int pe t1, .int ph t2, .int th t3, .ref l] news
      (fun v N₁ => v = .bool true ∧ N₁ = news)

def TakeC (prog : Program) (w : World) (K : Frag) (p : Program) (loose : List Str) (mean : ExcName → Option Value) (mg mb : Str → Option Value) : Prop :=
  ∀ (l : Addr) (a b : Int) (t u : Tok) (n : Nat) (top : Int) (tt : Tok) (news : List (Addr × Obj)), (∀ p ∈ news, p.1 ≠ l) → 0 < top → top ≤ 1000 →
    Claim 2 prog w K p loose mean mg mb 70 [.ref l, .int top tt] ((l, W.listOf #[.int a t, .int b u] n) :: news)
      (fun v N₁ => ∃ r tr a' t' b' u', v = .int r tr ∧ (0 ≤ r ∧ r < top) ∧ N₁ = (l, W.listOf #[.int a' t', .int b' u'] n) :: news)

def OneC (prog : Program) (w : World) (K : Frag) (p : Program) (loose : List Str) (mean : ExcName → Option Value) (mg mb : Str → Option Value) : Prop :=
  ∀ (l : Addr) (a b : Int) (t u : Tok) (n : Nat) (lt : Addr) (vs : List Value) (ns : List Int) (nn : Nat) (news : List (Addr × Obj)), (∀ p ∈ news, p.1 ≠ l) → (lt, W.listOf vs.toArray nn) ∈ news → IntsAre vs ns → 0 < ns.length → ns.length < 100 →
    Claim 5 prog w K p loose mean mg mb 77 [.ref l, .ref lt] ((l, W.listOf #[.int a t, .int b u] n) :: news)
      (fun v N₁ => ∃ r tr a' t' b' u', v = .int r tr ∧ r ∈ ns ∧ N₁ = (l, W.listOf #[.int a' t', .int b' u'] n) :: news)

section
variable {prog : Program} {w : World} {K : Frag} {p : Program} {loose : List Str} {mean : ExcName → Option Value} {mg mb : Str → Option Value}
  {dp un : Nat} {gd : Option (List Code)} {cn : Str} {cs : Scope} {a₀ : Addr} {ccd : Value} {cl : List (Str × Addr)} {outer : List Env} {A₀ : Around} {base h₀ : Heap} {L : Addr} {m : Str → Option Value} {s : Shared} {Q E : Value → Shared → Prop}
theorem due_use {pe ph th d t : Int} {t1 t2 t3 t4 t5 : Tok} {news : List (Addr × Obj)} (C : DueRoundC prog w K p loose mean mg mb)
    (B : Below A₀ base outer h₀) (F : Fr h₀ L s.heap m) (X : K.In h₀) (N : News h₀ L s.heap news) (T : Top p loose mean mg mb h₀) (hk : cs.kind = .function)
    (hd : dp + 2 < recursionLimit) (hu : un + 8 * 2 < cLine) (h0 : 0 ≤ pe) (ht : t = roundF pe ph th d)
    (ret : ∀ h' tk', Fr h₀ L h' m → News h₀ L h' news → Q (.bool true) { s with heap := h', toks := tk' }) :
    wpAny (model prog w) (ktrTop dp un gd cn cs L a₀ ccd cl outer) (call (.ref 84) [.int pe t1, .int ph t2, .int th t3, .int d t4, .int t t5]) Q E s :=
  C _ _ _ _ _ _ _ _ _ _ _ h0 ht _ _ _ _ _ _ _ _ _ _ _ _ _ _ _ _ _ B F X N T hk hd hu (fun v N₁ h' tk' hp F' N' => by obtain ⟨rfl, rfl⟩ := hp; exact ret h' tk' F' N')
theorem right_use {pe ph th : Int} {t1 t2 t3 : Tok} {l : Addr} {vs : List Value} {ns : List Int} {nn : Nat} {news : List (Addr × Obj)} (C : RightC prog w K p loose mean mg mb)
    (B : Below A₀ base outer h₀) (F : Fr h₀ L s.heap m) (X : K.In h₀) (N : News h₀ L s.heap news) (T : Top p loose mean mg mb h₀) (hk : cs.kind = .function)
    (hd : dp + 7 < recursionLimit) (hu : un + 8 * 7 < cLine) (h0 : 0 ≤ pe) (h1 : pe ≤ 1000) (hl : (l, W.listOf vs.toArray nn) ∈ news) (hi : IntsAre vs ns)
    (ret : ∀ h' tk', Fr h₀ L h' m → News h₀ L h' news → Q (.bool true) { s with heap := h', toks := tk' }) :
    wpAny (model prog w) (ktrTop dp un gd cn cs L a₀ ccd cl outer) (call (.ref 91) [.int pe t1, .int ph t2, .int th t3, .ref l]) Q E s :=
  C _ _ _ _ _ _ _ _ _ _ _ h0 h1 hl hi _ _ _ _ _ _ _ _ _ _ _ _ _ _ _ _ _ B F X N T hk hd hu (fun v N₁ h' tk' hp F' N' => by obtain ⟨rfl, rfl⟩ := hp; exact ret h' tk' F' N')
theorem take_use {l : Addr} {a b : Int} {t u : Tok} {n : Nat} {top : Int} {tt : Tok} {news : List (Addr × Obj)} {g : Obj → List (Addr × Obj)} (C : TakeC prog w K p loose mean mg mb)
    (B : Below A₀ base outer h₀) (F : Fr h₀ L s.heap m) (X : K.In h₀) (N : News h₀ L s.heap news) (T : Top p loose mean mg mb h₀) (hk : cs.kind = .function)
    (hd : dp + 2 < recursionLimit) (hu : un + 8 * 2 < cLine) (h0 : 0 < top) (h1 : top ≤ 1000) (U : UpdF l (W.listOf #[.int a t, .int b u] n) news g)
    (ret : ∀ r tr a' t' b' u' h' tk', 0 ≤ r → r < top → Fr h₀ L h' m → News h₀ L h' (g (W.listOf #[.int a' t', .int b' u'] n)) → Q (.int r tr) { s with heap := h', toks := tk' }) :
    wpAny (model prog w) (ktrTop dp un gd cn cs L a₀ ccd cl outer) (call (.ref 70) [.ref l, .int top tt]) Q E s := by
  obtain ⟨pre, post, rfl, hg, e1, e2⟩ := U.split
  have ap : ∀ p ∈ pre ++ post, p.1 ≠ l := fun p hp => (List.mem_append.mp hp).elim (e1 p) (e2 p)
  refine C l a b t u n top tt (pre ++ post) ap h0 h1 _ _ _ _ _ _ _ _ _ _ _ _ _ _ _ _ _ B F X (fun p hp => N p ?_) T hk hd hu ?_
  · rcases List.mem_cons.mp hp with rfl | hp
    · exact List.mem_append.mpr (.inr (.head _))
    · exact (List.mem_append.mp hp).elim (fun h => List.mem_append.mpr (.inl h)) fun h => List.mem_append.mpr (.inr (.tail _ h))
  · rintro v N₁ h' tk' ⟨r, tr, a', t', b', u', rfl, ⟨r0, r1⟩, rfl⟩ F' N'
    refine ret r tr a' t' b' u' h' tk' r0 r1 F' ?_
    rw [hg]
    intro p hp
    refine N' p ?_
    rcases List.mem_append.mp hp with h | h
    · exact .tail _ (List.mem_append.mpr (.inl h))
    · rcases List.mem_cons.mp h with rfl | h
      · exact .head _
      · exact .tail _ (List.mem_append.mpr (.inr h))
theorem one_use {l : Addr} {a b : Int} {t u : Tok} {n : Nat} {lt : Addr} {vs : List Value} {ns : List Int} {nn : Nat} {news : List (Addr × Obj)} {g : Obj → List (Addr × Obj)} (C : OneC prog w K p loose mean mg mb)
    (B : Below A₀ base outer h₀) (F : Fr h₀ L s.heap m) (X : K.In h₀) (N : News h₀ L s.heap news) (T : Top p loose mean mg mb h₀) (hk : cs.kind = .function)
    (hd : dp + 5 < recursionLimit) (hu : un + 8 * 5 < cLine) (U : UpdF l (W.listOf #[.int a t, .int b u] n) news g) (hne : lt ≠ l) (hl : (lt, W.listOf vs.toArray nn) ∈ news) (hi : IntsAre vs ns) (hlen : 0 < ns.length) (hlen' : ns.length < 100)
    (ret : ∀ r tr a' t' b' u' h' tk', r ∈ ns → Fr h₀ L h' m → News h₀ L h' (g (W.listOf #[.int a' t', .int b' u'] n)) → Q (.int r tr) { s with heap := h', toks := tk' }) :
    wpAny (model prog w) (ktrTop dp un gd cn cs L a₀ ccd cl outer) (call (.ref 77) [.ref l, .ref lt]) Q E s := by
  obtain ⟨pre, post, rfl, hg, e1, e2⟩ := U.split
  have ap : ∀ p ∈ pre ++ post, p.1 ≠ l := fun p hp => (List.mem_append.mp hp).elim (e1 p) (e2 p)
  have hl' : (lt, W.listOf vs.toArray nn) ∈ pre ++ post := by
    rcases List.mem_append.mp hl with h | h
    · exact List.mem_append.mpr (.inl h)
    · rcases List.mem_cons.mp h with h | h
      · exact absurd (congrArg Prod.fst h) hne
      · exact List.mem_append.mpr (.inr h)
  refine C l a b t u n lt vs ns nn (pre ++ post) ap hl' hi hlen hlen' _ _ _ _ _ _ _ _ _ _ _ _ _ _ _ _ _ B F X (fun p hp => N p ?_) T hk hd hu ?_
  · rcases List.mem_cons.mp hp with rfl | hp
    · exact List.mem_append.mpr (.inr (.head _))
    · exact (List.mem_append.mp hp).elim (fun h => List.mem_append.mpr (.inl h)) fun h => List.mem_append.mpr (.inr (.tail _ h))
  · rintro v N₁ h' tk' ⟨r, tr, a', t', b', u', rfl, r0, rfl⟩ F' N'
    refine ret r tr a' t' b' u' h' tk' r0 F' ?_
    rw [hg]
    intro p hp
    refine N' p ?_
    rcases List.mem_append.mp hp with h | h
    · exact .tail _ (List.mem_append.mpr (.inl h))
    · rcases List.mem_cons.mp h with rfl | h
      · exact .head _
      · exact .tail _ (List.mem_append.mpr (.inr h))
end

def PoolC (prog : Program) (w : World) (K : Frag) (p : Program) (loose : List Str) (mean : ExcName → Option Value) (mg mb : Str → Option Value) : Prop :=
  ∀ (base : Heap) (l : Addr) (vs : List Value) (ns : List Int) (news : List (Addr × Obj)), base.IsList l vs.toArray → IntsAre vs ns → ns.length < 100 →
    ∀ (dp un : Nat) (gd : Option (List Code)) (cn : Str) (cs : Scope) (a : Addr) (ccd : Value) (cl : List (Str × Addr)) (outer : List Env) (A₀ : Around) (h₀ : Heap) (L : Addr) (m : Str → Option Value) (s : Shared) (Q E : Value → Shared → Prop),
    Below A₀ base outer h₀ → Fr h₀ L s.heap m → K.In h₀ → News h₀ L s.heap news → Top p loose mean mg mb h₀ → cs.kind = .function →
    dp + 2 < recursionLimit → un + 8 * 2 < cLine →
    (∀ l' a b t u h' tk', (∀ p ∈ news, p.1 < l') → Fr h₀ L h' m → News h₀ L h' ((l', W.listOf #[.int a t, .int b u] 0) :: news) → Q (.ref l') { s with heap := h', toks := tk' }) →
    wpAny (model prog w) (ktrTop dp un gd cn cs L a ccd cl outer) (call (.ref 63) [.ref l]) Q E s

/-- what a turn of the law's loop hands on: the source has two ints still, the rest stands -/
def SrcEnd (h₀ : Heap) (L : Addr) (x : Str) (stored : List Str) (m₀ : Str → Option Value) (l : Addr) (nn : Nat) (post : List (Addr × Obj)) (s₁ s₂ : Shared) : Prop :=
  ∃ h' tk m' news' a t b u, s₂ = { s₁ with heap := h', toks := tk } ∧ Fr h₀ L h' m' ∧ News h₀ L h' news' ∧ (∀ z, z ≠ x → stored.contains z = false → m' z = m₀ z) ∧
    (∀ p ∈ (l, W.listOf #[.int a t, .int b u] nn) :: post, p ∈ news')
def SrcPost (h₀ : Heap) (L : Addr) (x : Str) (stored : List Str) (m₀ : Str → Option Value) (l : Addr) (nn : Nat) (post : List (Addr × Obj)) (s₁ : Shared) (Q : Flow → Shared → Prop) (f : Flow) (s₂ : Shared) : Prop :=
  match f with
  | .ret v => Q (.ret v) s₂
  | .brk => Q .next s₂
  | _ => SrcEnd h₀ L x stored m₀ l nn post s₁ s₂
section
variable {prog : Program} {w : World} {A : Around} {E : Value → Shared → Prop} {s : Shared} {env : Env} {h₀ : Heap} {x : Str} {body : List Stmt} {Q : Flow → Shared → Prop}
theorem loop_src {r : Addr} {t₀ u₀ v₀ : Tok} {m₀ : Str → Option Value} {l : Addr} {nn : Nat} {post : List (Addr × Obj)} {a b : Int} {t u : Tok} (stored : List Str)
    (hh : A.handled = none) (hr : IsRange s.heap r 0 4 1 t₀ u₀ v₀) (F : Fr h₀ env.locals s.heap m₀) (N : News h₀ env.locals s.heap ((l, W.listOf #[.int a t, .int b u] nn) :: post))
    (turn : ∀ (a : Int) (t : Tok) (b : Int) (u : Tok) (k : Int) (tk : Tok) (um : Str → Option Value) h tk' own, (∀ p ∈ own, p.1 ≠ l) →
      Fr h₀ env.locals h (fun y => if y = x then some (.int k tk) else if stored.contains y then um y else m₀ y) → News h₀ env.locals h ((l, W.listOf #[.int a t, .int b u] nn) :: (post ++ own)) →
      wpAny (model prog w) A (execs body env) (SrcPost h₀ env.locals x stored m₀ l nn (post ++ own) { s with heap := h, toks := tk' } Q) E { s with heap := h, toks := tk' })
    (done : ∀ (um : Str → Option Value) h tk', Fr h₀ env.locals h (fun y => if y = x then um y else if stored.contains y then um y else m₀ y) → Q .next { s with heap := h, toks := tk' }) :
    wpAny (model prog w) A (pyIter (.ref r)) (fun it s₂ => LoopAtV prog w A h₀ env x body Q E it s₂) E s := by
  refine kst_range (n := 4) (σ := Int × Tok × Int × Tok) (fun c => (l, W.listOf #[.int c.1 c.2.1, .int c.2.2.1 c.2.2.2] nn) :: post) (fun _ => []) (fun _ => True) stored (fun _ _ => True) (a, t, b, u)
    hh hr (by decide) (by decide) F N True.intro (List.forall_mem_nil _) True.intro ?_ ?_
  · intro c pre k tk um h tk' own _ _ hoff _ _ F₁ N₁
    have hoff' : ∀ p ∈ own, p.1 ≠ l := fun p hp => hoff p hp l (.head _)
    refine wpAny_mono (turn c.1 c.2.1 c.2.2.1 c.2.2.2 k tk um h tk' own hoff' F₁ N₁) (fun f s₂ q => ?_) fun _ _ x => x
    have fin : SrcEnd h₀ env.locals x stored m₀ l nn (post ++ own) { s with heap := h, toks := tk' } s₂ →
        InvEndN h₀ env.locals (KstS (fun c : Int × Tok × Int × Tok => (l, W.listOf #[.int c.1 c.2.1, .int c.2.2.1 c.2.2.2] nn) :: post) (fun _ => []) (fun _ => True) x stored m₀ (fun _ _ => True) (pre ++ [k])) own
          (((l, W.listOf #[.int a t, .int b u] nn) :: post).map (·.1)) { s with heap := h, toks := tk' } s₂ := by
      rintro ⟨h', tk₂, m', news', a', t', b', u', rfl, F', N', hz, hs⟩
      refine ⟨h', tk₂, m', news', (l, W.listOf #[.int a' t', .int b' u'] nn) :: post, rfl, F', N', ?_, ?_, rfl, ⟨(a', t', b', u'), rfl, True.intro, List.forall_mem_nil _, fun z h1 _ h2 => hz z h1 h2, True.intro⟩⟩
      · intro p hp
        refine hs p ?_
        rcases List.mem_cons.mp hp with rfl | hp
        · exact .head _
        · exact .tail _ (List.mem_append.mpr (.inl hp))
      · exact fun p hp => hs p (.tail _ (List.mem_append.mpr (.inr hp)))
    cases f with
    | ret v => exact q
    | brk => exact q
    | next => exact fin q
    | cont => exact fin q
  · intro c um h tk' _ _ F' _
    exact done um h tk' F'
end

theorem off_five {z a b c d e : Str} (h2 : [a, b, c, d, e].contains z = false) : z ≠ a ∧ z ≠ b ∧ z ≠ c ∧ z ≠ d ∧ z ≠ e := by simpa using h2
/-- the contracts laid ahead of the walk, each over the written part of the head's own -/
theorem pre_cut {q : Program} {loose : List Str} {XP : (Str → Option Value) → Heap → Prop} {Kf : Params → Frag} {as : List Addr} {e : ∀ P, as = (Kf P).map (·.1)} {r : RowW} {d : DefRec} {kwd : List (Str × PySem.Expr)} {run : Value → List Value → Sem Value}
    (prog : Program)
    (hD : ∀ (w : World) (mean : ExcName → Option Value) (mg mb : Str → Option Value), DueC prog w (Kf w.params) q (looseW q loose) mean mg mb) (hT : ∀ (w : World) (mean : ExcName → Option Value) (mg mb : Str → Option Value), TakeC prog w (Kf w.params) q (looseW q loose) mean mg mb) (hP : ∀ (w : World) (mean : ExcName → Option Value) (mg mb : Str → Option Value), PoolC prog w (Kf w.params) q (looseW q loose) mean mg mb)
    (hO : (∀ (w : World) (mean : ExcName → Option Value) (mg mb : Str → Option Value), TakeC prog w (Kf w.params) q (looseW q loose) mean mg mb) → ∀ (w : World) (mean : ExcName → Option Value) (mg mb : Str → Option Value), OneC prog w (Kf w.params) q (looseW q loose) mean mg mb)
    (hR : (∀ (w : World) (mean : ExcName → Option Value) (mg mb : Str → Option Value), DueRoundC prog w (Kf w.params) q (looseW q loose) mean mg mb) → ∀ (w : World) (mean : ExcName → Option Value) (mg mb : Str → Option Value), RightC prog w (Kf w.params) q (looseW q loose) mean mg mb)
    (hk : (∀ (w : World) (mean : ExcName → Option Value) (mg mb : Str → Option Value), RightC prog w (Kf w.params) q (looseW q loose) mean mg mb) → (∀ (w : World) (mean : ExcName → Option Value) (mg mb : Str → Option Value), TakeC prog w (Kf w.params) q (looseW q loose) mean mg mb) → (∀ (w : World) (mean : ExcName → Option Value) (mg mb : Str → Option Value), OneC prog w (Kf w.params) q (looseW q loose) mean mg mb) → (∀ (w : World) (mean : ExcName → Option Value) (mg mb : Str → Option Value), PoolC prog w (Kf w.params) q (looseW q loose) mean mg mb) → WalkO q loose XP (kHook Kf as e).says r d kwd run) :
    WalkO q loose XP (kHook Kf as e).says r d kwd run := hk (hR fun w mean mg mb => dueRound_of (hD w mean mg mb)) hT (hO hT) hP

/-- the contracts at the world, the names and the top at hand -/
theorem four_at {prog : Program} {w : World} {K : Frag} {p : Program} {loose : List Str} {mean : ExcName → Option Value} {mg mb : Str → Option Value} {h : Heap} {α : Type} {A : Around} {t : Sem α} {Q : α → Shared → Prop} {E : Value → Shared → Prop} {s : Shared}
    (hX : K.In h) (hTop : Top p loose mean mg mb h) (hR : RightC prog w K p loose mean mg mb) (hT : TakeC prog w K p loose mean mg mb) (hO : OneC prog w K p loose mean mg mb) (hP : PoolC prog w K p loose mean mg mb)
    (hk : RightC prog w K p loose mean mg mb → TakeC prog w K p loose mean mg mb → OneC prog w K p loose mean mg mb → PoolC prog w K p loose mean mg mb → wpAny (model prog w) A t Q E s) :
    wpAny (model prog w) A t Q E s := hk hR hT hO hP
end Mine

open Mine
local macro_rules | `(tactic| walk_at "mine mem") => `(tactic| (intro p9 hp9; first | exact hp9 | exact .tail _ hp9 | exact .tail _ (.tail _ hp9) | exact .tail _ (.tail _ (.tail _ hp9)) | exact .tail _ (.tail _ (.tail _ (.tail _ hp9)))))
local macro_rules | `(tactic| walk_at "mine bool") => `(tactic| ((rw [Bool.eq_iff_iff]); (simp only [decide_eq_true_eq, beq_iff_eq]); omega))
local macro_rules | `(tactic| k_room) => `(tactic| ktr_room)
local macro_rules | `(tactic| k_all) => `(tactic| assumption)
local macro_rules | `(tactic| walk_at "subscriptTail Name Constant ref int") => `(tactic| (k_here; (with_reducible show wpAny _ _ (subscriptTail _ _ (Value.ref _) (Value.int 0 _)) _ _ _); k_dflt (refine' item_lit0 ?k1 ?k2 ?_; (case k1 => k_asm); (case k2 => k_mem); k_whole)))
local macro_rules | `(tactic| walk_at "subscriptTail Name Constant ref int") => `(tactic| (k_here; (with_reducible show wpAny _ _ (subscriptTail _ _ (Value.ref _) (Value.int 1 _)) _ _ _); k_dflt (refine' item_lit1 ?k1 ?k2 ?_; (case k1 => k_asm); (case k2 => k_mem); k_whole)))
local macro_rules | `(tactic| walk_at "call ref") => `(tactic| (k_here; (with_reducible show wpAny _ _ (call (Value.ref 70) _) _ _ _); (rename TakeC _ _ _ _ _ _ _ _ => cC'); k_dflt (refine' take_use cC' ?k1 ?k2 ?k3 ?k4 ?k5 ?kK ?kd ?ku ?k0 ?k01 ?kU ?_; (case k1 => k_asm); (case k2 => k_asm); (case k3 => k_asm); (case k4 => k_asm); (case k5 => k_asm); (case kK => first | exact rfl | assumption); (case kd => ktr_room); (case ku => ktr_units); (case k0 => omega); (case k01 => omega); (case kU => k_updF); k_whole); intro r' tr' a' t' b' u' h' tk' r0' r1' F' N'; (try dsimp only at N'); (try k_sweep); (try k_fold)))
local macro_rules | `(tactic| walk_at "call builtin:len") => `(tactic| (k_here; (with_reducible show wpAny _ _ (call (Value.builtin "len") [Value.ref _]) _ _ _); k_dflt (refine' len_of ?k1 ?k2 ?k3 ?k4 ?_; (case k1 => k_asm); (case k2 => exact .tail _ (by assumption)); (case k3 => assumption); (case k4 => assumption); k_whole)))
local macro_rules | `(tactic| walk_at "subscriptTail") => `(tactic| (k_here; (with_reducible show wpAny _ _ (subscriptTail _ _ (Value.ref _) (Value.int _ _)) _ _ _); k_dflt (refine' item_of ?k1 ?k2 ?k3 ?k4 ?k5 ?k6 ?_; (case k1 => k_asm); (case k2 => exact .tail _ (by assumption)); (case k3 => assumption); (case k4 => assumption); (case k5 => assumption); (case k6 => assumption); k_whole); intro r' t' hr'))
local macro_rules | `(tactic| k_all) => `(tactic| (exact fun p hp => Nat.ne_of_lt (ktn_ltOf (by first | assumption | exact And.right (by assumption)) p hp)))
local macro_rules | `(tactic| walk_at "call ref") => `(tactic| (k_here; (with_reducible show wpAny _ _ (call (Value.ref 84) _) _ _ _); (rename DueRoundC _ _ _ _ _ _ _ _ => cC'); k_dflt (refine' due_use cC' ?k1 ?k2 ?k3 ?k4 ?k5 ?kK ?kd ?ku ?k0 ?kt ?_; (case k1 => k_asm); (case k2 => k_asm); (case k3 => k_asm); (case k4 => k_asm); (case k5 => k_asm); (case kK => first | exact rfl | assumption); (case kd => ktr_room); (case ku => ktr_units); (case k0 => assumption); (case kt => (unfold roundF; (repeat' split) <;> first | rfl | omega)); k_whole); intro h' tk' F' N'; (try k_sweep); (try k_fold)))
local macro_rules | `(tactic| walk_at "pyIter ref") => `(tactic| (k_here; (rename Fr _ _ _ _ => lF'); (rename News _ _ _ _ => lN'); (with_unfolding_all refine' loop_plain (by rfl) ?kl ?ki lF' lN' (fun n' t' h' tk' own' hmem' F' N' => ?_) (fun u' h' tk' F' N' => ?_)); (case kl => exact .tail _ (.tail _ (by assumption))); (case ki => assumption); (all_goals (try clear lF' lN')); (all_goals (try simp only [List.cons_append, List.nil_append] at N')); (all_goals (try k_fold))))
local macro_rules | `(tactic| walk_at "call ref") => `(tactic| (k_here; (with_reducible show wpAny _ _ (call (Value.ref 91) _) _ _ _); (rename RightC _ _ _ _ _ _ _ _ => cR'); k_dflt (refine' right_use cR' ?k1 ?k2 ?k3 ?k4 ?k5 ?kK ?kd ?ku ?k0 ?k01 ?kl ?ki ?_; (case k1 => k_asm); (case k2 => k_asm); (case k3 => k_asm); (case k4 => k_asm); (case k5 => k_asm); (case kK => first | exact rfl | assumption); (case kd => ktr_room); (case ku => ktr_units); (case kl => k_mem); (case ki => l_ints); (case k0 => omega); (case k01 => omega); k_whole); intro h' tk' F' N'; (try k_sweep); (try k_fold)))
local macro_rules | `(tactic| walk_at "call ref") => `(tactic| (k_here; (with_reducible show wpAny _ _ (call (Value.ref 63) _) _ _ _); (rename PoolC _ _ _ _ _ _ _ _ => cP'); k_dflt (refine' cP' _ _ _ _ _ ?kl ?ki ?kn _ _ _ _ _ _ _ _ _ _ _ _ _ _ _ _ ?k1 ?k2 ?k3 ?k4 ?k5 ?kK ?kd ?ku ?_; (case k1 => k_asm); (case k2 => k_asm); (case k3 => k_asm); (case k4 => k_asm); (case k5 => k_asm); (case kK => first | exact rfl | assumption); (case kd => ktr_room); (case ku => ktr_units); (case kl => k_asm); (case ki => assumption); (case kn => omega); k_whole); intro l' a' b' t' u' h' tk' l1 F' N'; (try k_lt l1); (try k_sweep); (try k_fold)))
local macro_rules | `(tactic| walk_at "call ref") => `(tactic| (k_here; (with_reducible show wpAny _ _ (call (Value.ref 77) _) _ _ _); (rename OneC _ _ _ _ _ _ _ _ => cO'); k_dflt (refine' one_use cO' ?k1 ?k2 ?k3 ?k4 ?k5 ?kK ?kd ?ku ?kU ?kne ?kl ?ki ?k0 ?k01 ?_; (case k1 => k_asm); (case k2 => k_asm); (case k3 => k_asm); (case k4 => k_asm); (case k5 => k_asm); (case kK => first | exact rfl | assumption); (case kd => ktr_room); (case ku => ktr_units); (case kl => k_mem); (case ki => l_ints); (case kne => k_ne); (case kU => k_updF); (case k0 => exact of_decide_eq_true (by rfl)); (case k01 => exact of_decide_eq_true (by rfl)); k_whole); intro r' tr' a' t' b' u' h' tk' hr' F' N'; (try have hb' : 0 ≤ r' ∧ r' ≤ 1000 := (by simp at hr'; omega)); clear hr'; (try dsimp only at N'); (try k_sweep); (try k_fold)))
local macro_rules | `(tactic| walk_at "pyIter ref") => `(tactic| (k_here; (rename Fr _ _ _ _ => lF'); (rename News _ _ _ _ => lN'); (rename IsRange _ _ _ _ _ _ _ _ => rgX); (with_unfolding_all refine' loop_src [PySem.Str.ofString "period", PySem.Str.ofString "phase", PySem.Str.ofString "threshold", PySem.Str.ofString "place", PySem.Str.ofString "distances"] (by rfl) (by first | exact rgX | assumption) lF' lN' (fun a' t' b' u' n' tn' um' h' tk' own' hoff' F' N' => ?_) (fun um' h' tk' F' => ?_)); (all_goals (try clear lF' lN')); (all_goals (try simp only [List.cons_append, List.nil_append] at N')); (all_goals (try k_fold))))
set_option maxRecDepth 100000 in
set_option maxHeartbeats 8000000 in
theorem PySem.Challenge.cw_xm0705_01_holds : PySem.Challenge.rw_xm0705_01.Holds := by
  w_on
  o_law
  k_head
  case hw => w_witness2
  refine' pre_cut PySem.Challenge.rw_xm0705_01.row.prog ?hD ?hT ?hP ?hO ?hR ?hk
  case hD =>
    intro w mean mg mb
    k_fill
    intro pe ph th d t t1 t2 t3 t4 t5 news dp un gd cn cs a ccd cl outer A₀ base h₀ L m s Q E B F X N T hk hdp hun hret
    refine wpAny_call ?_
    k_dflt cell_enter
    k_steps
    all_goals (refine' hret _ _ _ _ ⟨?_, rfl⟩ (by k_asm) (cb_drop (by assumption) (by walk_at "mine mem")); refine congrArg Value.bool ?_; unfold dueF; first | ((repeat' split) <;> first | rfl | (exfalso; omega) | walk_at "mine bool"; done))
  case hT =>
    intro w mean mg mb
    k_fill
    intro l a b t u n top tt news hap htop htop2 dp un gd cn cs a₁ ccd cl outer A₀ base h₀ L m s Q E B F X N T hk hdp hun hret
    refine wpAny_call ?_
    k_dflt cell_enter
    k_steps
    all_goals first | (refine' hret _ _ _ _ ⟨_, _, _, _, _, _, rfl, ⟨Int.fmod_nonneg_of_pos _ htop, Int.fmod_lt_of_pos _ htop⟩, rfl⟩ (by k_asm) (by k_asm))
  case hP =>
    intro w mean mg mb
    k_fill
    intro base l vs ns news hl hints hlen dp un gd cn cs a₁ ccd cl outer A₀ h₀ L m s Q E B F X N T hk hdp hun hret
    refine wpAny_call ?_
    k_dflt cell_enter
    k_steps
    all_goals first | (refine' hret _ _ _ _ _ _ _ (by first | assumption | exact ktn_ltOf (by assumption)) (by k_asm) (by k_asm))
  case hO =>
    intro CT0 w mean mg mb
    have CT := CT0 w mean mg mb
    clear CT0
    k_fill
    intro l a b t u n lt vs ns nn news hap hlt hints hpos hlen dp un gd cn cs a₁ ccd cl outer A₀ base h₀ L m s Q E B F X N T hk hdp hun hret
    refine wpAny_call ?_
    k_dflt cell_enter
    k_steps
    all_goals first | (refine' hret _ _ _ _ ⟨_, _, _, _, _, _, rfl, by assumption, rfl⟩ (by k_asm) (by k_asm))
  case hR =>
    intro CD0 w mean mg mb
    have CD := CD0 w mean mg mb
    clear CD0
    k_fill
    intro pe ph th t1 t2 t3 l vs ns nn news hpe hpe2 hl hints dp un gd cn cs a₁ ccd cl outer A₀ base h₀ L m s Q E B F X N T hk hdp hun hret
    refine wpAny_call ?_
    k_dflt cell_enter
    k_steps
    all_goals first | (refine' hret _ _ _ _ ⟨rfl, rfl⟩ (by k_asm) (cb_drop (by assumption) (by walk_at "mine mem"))) | (refine ⟨_, _, _, _, rfl, by assumption, by assumption, (by intro z hz; exact if_neg hz), (by walk_at "mine mem")⟩)
  case hk =>
    intro CR0 CT0 CO0 CP0
    k_go0
    (all_goals try k_fold)
    rename Frag.In _ _ => kx
    rename Top _ _ _ _ _ _ => tx
    refine four_at kx tx (CR0 _ _ _ _) (CT0 _ _ _ _) (CO0 _ _ _ _) (CP0 _ _ _ _) (fun CR CT CO CP => ?_)
    clear CR0 CT0 CO0 CP0
    k_steps
    all_goals (refine ⟨_, _, _, _, _, _, _, _, rfl, by k_asm, by k_asm, (by intro z h1 h2; obtain ⟨ha, hb, hc, hd, he⟩ := off_five h2; simp only [if_neg ha, if_neg hb, if_neg hc, if_neg hd, if_neg he, if_neg h1, h2]; rfl), (by intro p hp; exact .tail _ (.tail _ (.tail _ (.tail _ hp))))⟩)
