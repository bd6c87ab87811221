/-
  Plain laws on loops over lists; no program in sight.
-/
import Derived.Test.YtbiohjikepebkaaEv3
set_option linter.unusedVariables false
set_option linter.unusedSimpArgs false
/-
  PLAIN LAWS ON LOOPS AND NUMBERS: no program in sight.
-/
namespace Go.Ev

theorem wrap64 {n : Int} (h0 : -9223372036854775808 ≤ n) (h1 : n < 9223372036854775808) : IntKind.wrap .i64 n = n := by
  simp [IntKind.wrap, IntKind.bits, IntKind.signed]
  omega

theorem wrapS {i : Nat} (h : i < 4611686018427387904) : IntKind.wrap .i64 ((i : Int) + 1) = ((i + 1 : Nat) : Int) := by
  rw [wrap64 (by omega) (by omega)]; rfl

theorem chk_neg {γ : Type} {c : Prop} [Decidable c] (h : ¬ c) (K : Option γ) : chk c K = none := if_neg h

theorem beqI (a b : Int) : (a == b) = decide (a = b) := by by_cases h : a = b <;> simp [h]
theorem bneI (a b : Int) : (a != b) = !decide (a = b) := by simp [bne, beqI]
theorem beqB (a b : Bool) : (a == b) = decide (a = b) := by cases a <;> cases b <;> rfl
theorem beqS (a b : ByteArray) : (a.toList == b.toList) = decide (a = b) := by
  by_cases h : a = b
  · subst h; simp
  · have : ¬ a.toList = b.toList := fun e => h (by
      have h1 : ∀ x : ByteArray, x.toList = x.data.toList := fun x => by
        have hl : ∀ (n i : Nat) (r : List UInt8), x.size - i = n → ByteArray.toList.loop x i r = r.reverse ++ x.data.toList.drop i := by
          intro n
          induction n with
          | zero =>
            intro i r hn
            unfold ByteArray.toList.loop
            rw [if_neg (by omega)]
            have : x.data.toList.length ≤ i := by simp only [Array.length_toList]; exact Nat.le_of_sub_eq_zero hn
            rw [List.drop_of_length_le this]
            simp
          | succ n ih =>
            intro i r hn
            have hi : i < x.size := by omega
            unfold ByteArray.toList.loop
            rw [if_pos hi, ih (i + 1) _ (by omega)]
            have hi' : i < x.data.toList.length := by simp only [Array.length_toList]; exact hi
            rw [List.drop_eq_getElem_cons hi']
            have : x.get! i = x.data.toList[i] := by
              show x.data[i]! = _
              rw [getElem!_pos x.data i (by simpa using hi')]
              simp
            rw [List.reverse_cons, this]
            simp
        have := hl x.size 0 [] (by omega)
        simp only [List.reverse_nil, List.nil_append, List.drop_zero] at this
        exact this
      rw [h1, h1] at e
      cases a; cases b
      simp only at e
      rw [Array.toList_inj.mp e])
    simp [h, this]

theorem get_lt {α : Type} {xs : List α} {i : Nat} {x : α} (h : xs[i]? = some x) : i < xs.length := (List.getElem?_eq_some_iff.mp h).1

theorem dec_lt {α : Type} {xs : List α} {i : Nat} {x : α} (h : xs[i]? = some x) : decide ((i : Int) < (xs.length : Int)) = true := by
  have := get_lt h
  simp; omega

theorem dec_nlt (n : Nat) : decide ((n : Int) < (n : Int)) = false := by simp

theorem drop_get {α : Type} {xs r : List α} {x : α} {i : Nat} (h : xs.drop i = x :: r) : xs[i]? = some x ∧ xs.drop (i + 1) = r := by
  constructor
  · have := congrArg (fun l => l[0]?) h
    simpa using this
  · have := congrArg List.tail h
    simpa [List.tail_drop] using this

/-! ### loops over a list -/

/-- on with the next round, or out -/
def goTo {σ S τ : Type} (r : S ⊕ τ) (f : S → σ) : σ ⊕ τ :=
  match r with
  | .inl s => .inl (f s)
  | .inr z => .inr z

theorem goTo_l {σ S τ : Type} (s : S) (f : S → σ) : goTo (τ := τ) (.inl s) f = .inl (f s) := rfl
theorem goTo_r {σ S τ : Type} (z : τ) (f : S → σ) : goTo (.inr z) f = .inr z := rfl
theorem goTo_if {σ S τ : Type} (c : Bool) (a b : S ⊕ τ) (f : S → σ) : goTo (bif c then a else b) f = bif c then goTo a f else goTo b f := by cases c <;> rfl

/-- what a loop over a list comes to -/
def goL {α S τ : Type} (step : Nat → α → S → S ⊕ τ) (fin : S → τ) : List α → Nat → S → τ
  | [], _, s => fin s
  | x :: r, i, s => match step i x s with
    | .inl s' => goL step fin r (i + 1) s'
    | .inr z => z

theorem loop_list {σ τ α S : Type} {nxt : σ → Option (σ ⊕ τ)} (xs : List α) (enc : Nat → S → σ) (step : Nat → α → S → S ⊕ τ) (fin : S → τ) (I : Nat → S → Prop)
    (h1 : ∀ i x s, I i s → xs[i]? = some x → nxt (enc i s) = some (goTo (step i x s) (enc (i + 1))))
    (hI : ∀ i x s s', I i s → xs[i]? = some x → step i x s = .inl s' → I (i + 1) s')
    (h2 : ∀ s, I xs.length s → nxt (enc xs.length s) = some (.inr (fin s))) :
    ∀ (r : List α) (i : Nat) (s : S), xs.drop i = r → i ≤ xs.length → I i s → loopF nxt (enc i s) = some (goL step fin r i s)
  | [], i, s, hd, hi, hs => by
    have hlen : i = xs.length := by
      have := congrArg List.length hd
      simp at this; omega
    subst hlen
    exact loopF_inr (h2 s hs)
  | x :: r, i, s, hd, hi, hs => by
    obtain ⟨hx, hr⟩ := drop_get hd
    have := h1 i x s hs hx
    simp only [goL]
    cases hst : step i x s with
    | inl s' =>
      rw [hst] at this
      rw [loopF_inl this]
      exact loop_list xs enc step fin I h1 hI h2 r (i + 1) s' hr (by have := get_lt hx; omega) (hI i x s s' hs hx hst)
    | inr z =>
      rw [hst] at this
      exact loopF_inr this

/-- from the beginning, without a condition -/
theorem loop_list0 {σ τ α S : Type} {nxt : σ → Option (σ ⊕ τ)} (xs : List α) (enc : Nat → S → σ) (step : Nat → α → S → S ⊕ τ) (fin : S → τ) (s : S)
    (h1 : ∀ i x s, xs[i]? = some x → nxt (enc i s) = some (goTo (step i x s) (enc (i + 1))))
    (h2 : ∀ s, nxt (enc xs.length s) = some (.inr (fin s))) {st : σ} (h0 : enc 0 s = st) : loopF nxt st = some (goL step fin xs 0 s) :=
  h0 ▸ loop_list xs enc step fin (fun _ _ => True) (fun i x s _ h => h1 i x s h) (fun _ _ _ _ _ _ _ => trivial) (fun s _ => h2 s) xs 0 s (by simp) (Nat.zero_le _) trivial

theorem goL_fold {α S τ : Type} (f : S → α → S) (fin : S → τ) : ∀ (r : List α) (i : Nat) (s : S), goL (fun _ x s => .inl (f s x)) fin r i s = fin (r.foldl f s)
  | [], _, _ => rfl
  | x :: r, i, s => by simp only [goL, goL_fold f fin r, List.foldl_cons]

/-- all elements are good, or the loop is left -/
theorem goL_all {α τ : Type} (p : Nat → α → Bool) (T F : τ) : ∀ (r : List α) (i : Nat), goL (fun i x (_ : Unit) => bif p i x then .inl () else .inr F) (fun _ => T) r i () = bif (r.zipIdx i).all (fun q => p q.2 q.1) then T else F
  | [], _ => rfl
  | x :: r, i => by
    simp only [goL, List.zipIdx_cons, List.all_cons]
    cases h : p i x with
    | true => simp only [cond_true, Bool.true_and]; exact goL_all p T F r (i + 1)
    | false => rfl

theorem goL_set {α β τ : Type} (f : α → β) (fin : List β → τ) : ∀ (r : List α) (i : Nat) (s : List β), s.length = i + r.length → goL (fun i x s => .inl (s.set i (f x))) fin r i s = fin (s.take i ++ r.map f)
  | [], i, s, h => by
    simp only [goL, List.map_nil, List.append_nil]
    rw [List.take_of_length_le (by simp at h; omega)]
  | x :: r, i, s, h => by
    simp only [List.length_cons] at h
    simp only [goL]
    rw [goL_set f fin r (i + 1) _ (by simp; omega)]
    congr 1
    rw [List.take_add_one, List.take_set_of_le (Nat.le_refl i), List.getElem?_set_self (by omega)]
    simp

/-- a loop that fills a row -/
theorem loop_list1 {σ τ α S : Type} {nxt : σ → Option (σ ⊕ τ)} (xs : List α) (enc : Nat → S → σ) (step : Nat → α → S → S ⊕ τ) (fin : S → τ) (I : Nat → S → Prop) (s : S)
    (h1 : ∀ i x s, I i s → xs[i]? = some x → nxt (enc i s) = some (goTo (step i x s) (enc (i + 1))))
    (hI : ∀ i x s s', I i s → xs[i]? = some x → step i x s = .inl s' → I (i + 1) s')
    (h2 : ∀ s, I xs.length s → nxt (enc xs.length s) = some (.inr (fin s))) (hi : I 0 s) {st : σ} (h0 : enc 0 s = st) : loopF nxt st = some (goL step fin xs 0 s) :=
  h0 ▸ loop_list xs enc step fin I h1 hI h2 xs 0 s (by simp) (Nat.zero_le _) hi

theorem loop_map {σ τ α β : Type} {nxt : σ → Option (σ ⊕ τ)} (xs : List α) (f : α → β) (enc : Nat → List β → σ) (fin : List β → τ) (s : List β) (hs : s.length = xs.length)
    (h1 : ∀ i x s, s.length = xs.length → xs[i]? = some x → nxt (enc i s) = some (.inl (enc (i + 1) (s.set i (f x)))))
    (h2 : ∀ s, s.length = xs.length → nxt (enc xs.length s) = some (.inr (fin s))) {st : σ} (h0 : enc 0 s = st) : loopF nxt st = some (fin (xs.map f)) := by
  subst h0
  have := loop_list xs enc (fun i x s => .inl (s.set i (f x))) fin (fun _ s => s.length = xs.length) (fun i x s hs h => h1 i x s hs h)
    (fun i x s s' hs hx h => by cases h; simpa using hs) (fun s hs => h2 s hs) xs 0 s (by simp) (Nat.zero_le _) hs
  rw [this, goL_set f fin xs 0 s (by omega)]
  simp

/-- a loop that holds two rows against each other -/
theorem loop_eq2 {σ τ α : Type} [DecidableEq α] {nxt : σ → Option (σ ⊕ τ)} (xs ys : List α) (enc : Nat → σ) (T F : τ) (hlen : xs.length = ys.length)
    (h1 : ∀ i x y, xs[i]? = some x → ys[i]? = some y → nxt (enc i) = some (if x = y then .inl (enc (i + 1)) else .inr F))
    (h2 : nxt (enc xs.length) = some (.inr T)) {st : σ} (h0 : enc 0 = st) : loopF nxt st = some (if xs = ys then T else F) := by
  subst h0
  have key : ∀ (r q : List α) (i : Nat), xs.drop i = r → ys.drop i = q → i ≤ xs.length → loopF nxt (enc i) = some (if r = q then T else F) := by
    intro r
    induction r with
    | nil =>
      intro q i hr hq hi
      have hl : i = xs.length := by
        have := congrArg List.length hr
        simp at this; omega
      subst hl
      have : q = [] := by rw [← hq, hlen]; simp
      subst this
      simpa using loopF_inr h2
    | cons x r ih =>
      intro q i hr hq hi
      obtain ⟨hx, hr'⟩ := drop_get hr
      have hlt := get_lt hx
      cases q with
      | nil =>
        have := congrArg List.length hq
        simp at this; omega
      | cons y q =>
        obtain ⟨hy, hq'⟩ := drop_get hq
        have h := h1 i x y hx hy
        by_cases e : x = y
        · rw [if_pos e] at h
          rw [loopF_inl h, ih q (i + 1) hr' hq' (by omega)]
          simp [e]
        · rw [if_neg e] at h
          rw [loopF_inr h]
          simp [e]
  exact key xs ys 0 (by simp) (by simp) (Nat.zero_le _)

/-! ### marks -/

/-- a row of marks: element i is made of the number k + c * i -/
def marks {α : Type} (E : Int → α) (c : Nat) : Nat → Int → List α
  | 0, _ => []
  | n + 1, k => E k :: marks E c n (k + c)

theorem marks_length {α : Type} (E : Int → α) (c : Nat) : ∀ (n : Nat) (k : Int), (marks E c n k).length = n
  | 0, _ => rfl
  | n + 1, k => by simp [marks, marks_length E c n]

theorem loop_mark {σ τ α : Type} {nxt : σ → Option (σ ⊕ τ)} (E : Int → α) (c : Nat) (enc : Nat → Int → List α → σ) (fin : Int → List α → τ) (xs : List α) (k : Int) (K : Int) (hk : 0 ≤ k) (hK : k + c * xs.length ≤ K)
    (h1 : ∀ i k s, 0 ≤ k → k + c ≤ K → s.length = xs.length → i < xs.length → nxt (enc i k s) = some (.inl (enc (i + 1) (k + c) (s.set i (E k)))))
    (h2 : ∀ k s, s.length = xs.length → nxt (enc xs.length k s) = some (.inr (fin k s))) {st : σ} (h0 : enc 0 k xs = st) : loopF nxt st = some (fin (k + c * xs.length) (marks E c xs.length k)) := by
  subst h0
  have key : ∀ (n i : Nat) (k : Int) (s : List α), i + n = xs.length → s.length = xs.length → 0 ≤ k → k + c * n ≤ K → loopF nxt (enc i k s) = some (fin (k + c * n) (s.take i ++ marks E c n k)) := by
    intro n
    induction n with
    | zero =>
      intro i k s hi hs _ _
      obtain rfl : i = xs.length := by omega
      rw [loopF_inr (h2 k s hs)]
      rw [List.take_of_length_le (by omega)]
      simp [marks]
    | succ n ih =>
      intro i k s hi hs hk hK
      have hc : (c : Int) * ((n + 1 : Nat) : Int) = c * n + c := by rw [Int.natCast_succ, Int.mul_add, Int.mul_one]
      have hn : (0 : Int) ≤ c * n := Int.mul_nonneg (by omega) (by omega)
      rw [hc] at hK ⊢
      rw [loopF_inl (h1 i k s hk (by omega) hs (by omega)), ih (i + 1) (k + c) _ (by omega) (by simpa using hs) (by omega) (by omega)]
      congr 2
      · omega
      · rw [List.take_add_one, List.take_set_of_le (Nat.le_refl i), List.getElem?_set_self (by omega)]
        simp [marks]
  have := key xs.length 0 k xs (by omega) rfl hk hK
  simpa using this

theorem loop_held {σ τ α : Type} {nxt : σ → Option (σ ⊕ τ)} (E : Int → α) (c : Nat) (n : Nat) (k0 : Int) (enc : Nat → Int → σ) (fin : Int → τ) (K : Int) (hk : 0 ≤ k0) (hK : k0 + c * n ≤ K)
    (h1 : ∀ i k, 0 ≤ k → k + c ≤ K → (marks E c n k0)[i]? = some (E k) → nxt (enc i k) = some (.inl (enc (i + 1) (k + c))))
    (h2 : ∀ k, nxt (enc n k) = some (.inr (fin k))) {st : σ} (h0 : enc 0 k0 = st) : loopF nxt st = some (fin (k0 + c * n)) := by
  subst h0
  have key : ∀ (m i : Nat) (k : Int), i + m = n → (marks E c n k0).drop i = marks E c m k → 0 ≤ k → k + c * m ≤ K → loopF nxt (enc i k) = some (fin (k + c * m)) := by
    intro m
    induction m with
    | zero =>
      intro i k hi _ _ _
      obtain rfl : i = n := by omega
      rw [loopF_inr (h2 k)]
      simp
    | succ m ih =>
      intro i k hi hd hk hK
      have hc : (c : Int) * ((m + 1 : Nat) : Int) = c * m + c := by rw [Int.natCast_succ, Int.mul_add, Int.mul_one]
      have hn : (0 : Int) ≤ c * m := Int.mul_nonneg (by omega) (by omega)
      rw [hc] at hK ⊢
      simp only [marks] at hd
      obtain ⟨hx, hr⟩ := drop_get hd
      rw [loopF_inl (h1 i k hk (by omega) hx), ih (i + 1) (k + c) (by omega) hr (by omega) (by omega)]
      congr 2
      omega
  have := key n 0 k0 (by omega) (by simp) hk hK
  simpa using this

/-- all elements are good, and the state goes along; or the loop is left -/
theorem goL_allst {α S τ : Type} (p : Nat → α → Bool) (f : S → α → S) (fin : S → τ) (F : τ) : ∀ (r : List α) (i : Nat) (s : S),
    goL (fun i x s => bif p i x then .inl (f s x) else .inr F) fin r i s = bif (r.zipIdx i).all (fun q => p q.2 q.1) then fin (r.foldl f s) else F
  | [], _, _ => rfl
  | x :: r, i, s => by
    simp only [goL, List.zipIdx_cons, List.all_cons, List.foldl_cons]
    cases h : p i x with
    | true => simp only [cond_true, Bool.true_and]; exact goL_allst p f fin F r (i + 1) (f s x)
    | false => rfl

theorem all_zip {α : Type} {p : Nat → α → Bool} : ∀ {r : List α} {n : Nat}, (r.zipIdx n).all (fun q => p q.2 q.1) = true ↔ ∀ i x, r[i]? = some x → p (n + i) x = true
  | [], n => by simp
  | y :: r, n => by
    simp only [List.zipIdx_cons, List.all_cons, Bool.and_eq_true, all_zip (r := r)]
    constructor
    · rintro ⟨h1, h2⟩ i x hx
      cases i with
      | zero => simp only [List.getElem?_cons_zero, Option.some.injEq] at hx; subst hx; exact h1
      | succ i => simp only [List.getElem?_cons_succ] at hx; have := h2 i x hx; rwa [show n + 1 + i = n + (i + 1) from by omega] at this
    · intro h
      exact ⟨h 0 y rfl, fun i x hx => by have := h (i + 1) x hx; rwa [show n + (i + 1) = n + 1 + i from by omega] at this⟩

theorem all_zip0 {α : Type} {p : Nat → α → Bool} {r : List α} : r.zipIdx.all (fun q => p q.2 q.1) = true ↔ ∀ i x, r[i]? = some x → p i x = true := by
  have := all_zip (p := p) (r := r) (n := 0)
  simpa using this

end Go.Ev
