/- venue: what is said; the document's answer does it. -/
import Derived.Test.YtfmbbknpnokijaaXVenB
namespace Go.AI
open IntKind

def noteR (ns : List NotR) (what id qty price : Int) : NotR := ((ns.length : Int) + 1, (what, (id, (qty, (price, ())))))
def upN (ns : List NotR) (what id qty price : Int) : List NotR := ns ++ [noteR ns what id qty price]
def newO (m : MsgR) (acc : Bool) : OrdR := (m.2.1, (m.2.2.1, (m.2.2.2.1, (m.2.2.2.2.1, (m.2.2.2.2.2.1, (m.2.2.2.2.2.2.1, (0, ((bif acc then 2 else 3), (0, (0, (0, (false, ()))))))))))))
def endO (o : OrdR) : OrdR := (o.1, (o.2.1, (o.2.2.1, (o.2.2.2.1, (o.2.2.2.2.1, (o.2.2.2.2.2.1, (o.2.2.2.2.2.2.1, (3, o.2.2.2.2.2.2.2.2))))))))
def verO (o : OrdR) (m : MsgR) : OrdR := (o.1, (o.2.1, (o.2.2.1, (o.2.2.2.1, (o.2.2.2.2.1, (o.2.2.2.2.2.1, (o.2.2.2.2.2.2.1, (o.2.2.2.2.2.2.2.1, (o.2.2.2.2.2.2.2.2.1, (o.2.2.2.2.2.2.2.2.2.1, (m.2.2.2.2.2.2.2.1, o.2.2.2.2.2.2.2.2.2.2.2)))))))))))
def chO (o : OrdR) (m : MsgR) : OrdR := (o.1, (o.2.1, (o.2.2.1, (o.2.2.2.1, (m.2.2.2.2.2.1, (m.2.2.2.2.2.2.1, (o.2.2.2.2.2.2.1, (o.2.2.2.2.2.2.2.1, (o.2.2.2.2.2.2.2.2.1, (o.2.2.2.2.2.2.2.2.2.1, (m.2.2.2.2.2.2.2.1, o.2.2.2.2.2.2.2.2.2.2.2)))))))))))
def fillO (o : OrdR) (q : Int) : OrdR := (o.1, (o.2.1, (o.2.2.1, (o.2.2.2.1, (o.2.2.2.2.1, (o.2.2.2.2.2.1, (o.2.2.2.2.2.2.1 + q, ((if o.2.2.2.2.2.2.1 + q = o.2.2.2.2.1 then 3 else o.2.2.2.2.2.2.2.1), o.2.2.2.2.2.2.2.2))))))))

abbrev AnsR : Type := VenR × (Int × Unit)
def sendV (v : VenR) (m : MsgR) : AnsR :=
  if ¬ (rightV v = true ∧ msgP m) then (v, (1, ())) else if v.1.length = 400 then (v, (6, ())) else ((v.1 ++ [m], v.2), (0, ()))
abbrev DeskR : Type := List OrdR × (List NotR × Unit)
def liveV (os : List OrdR) (ns : List NotR) (m : MsgR) (acc : Bool) (o : OrdR) : DeskR :=
  if m.1 = 3 then (if acc = true then (putO os (endO o), (upN ns 4 o.1 0 0, ())) else (os, (ns, ())))
  else if m.2.2.2.2.2.2.2.1 ≤ o.2.2.2.2.2.2.2.2.2.2.1 then (os, (ns, ()))
  else if acc = true ∧ m.2.2.2.2.2.1 > o.2.2.2.2.2.2.1 then (putO os (chO o m), (upN ns 5 o.1 m.2.2.2.2.2.1 m.2.2.2.2.2.2.1, ()))
  else (putO os (verO o m), (upN ns 6 o.1 0 0, ()))
def bodyV (os : List OrdR) (ns : List NotR) (m : MsgR) (acc : Bool) : DeskR := match getO os m.2.1 with
  | none => if m.1 = 1 then (putO os (newO m acc), (upN ns (bif acc then 1 else 2) m.2.1 0 0, ())) else (os, (ns, ()))
  | some o => if m.1 = 1 ∨ o.2.2.2.2.2.2.2.1 ≠ 2 then (os, (ns, ())) else liveV os ns m acc o
def takeV (v : VenR) (acc : Bool) : AnsR :=
  if rightV v = false then (v, (1, ())) else match v.1 with
    | [] => (v, (7, ()))
    | m :: ms => if v.2.2.1.length = 400 ∨ (m.1 = 1 ∧ getO v.2.1 m.2.1 = none ∧ v.2.1.length = 400) then (v, (6, ())) else ((ms, bodyV v.2.1 v.2.2.1 m acc), (0, ()))
def fillV (v : VenR) (id q : Int) : AnsR :=
  if ¬ (rightV v = true ∧ 1 ≤ q) then (v, (1, ())) else match getO v.2.1 id with
    | none => (v, (7, ()))
    | some o => if o.2.2.2.2.2.2.2.1 ≠ 2 ∨ q > o.2.2.2.2.1 - o.2.2.2.2.2.2.1 then (v, (8, ())) else if v.2.2.1.length = 400 then (v, (6, ())) else ((v.1, (putO v.2.1 (fillO o q), (upN v.2.2.1 3 o.1 q 0, ()))), (0, ()))
def leaveV (v : VenR) (id : Int) : AnsR :=
  if rightV v = false then (v, (1, ())) else match getO v.2.1 id with
    | none => (v, (7, ()))
    | some o => if o.2.2.2.2.2.2.2.1 ≠ 2 then (v, (8, ())) else if v.2.2.1.length = 400 then (v, (6, ())) else ((v.1, (putO v.2.1 (endO o), (upN v.2.2.1 4 o.1 0 0, ()))), (0, ()))

/-! ### With an order -/
theorem app_ok {α : Type} (l : List α) (x : α) {b : Nat} (hl : l.length ≤ 2000) (hb : b ≤ 96) : appX l (x :: []) b = some (l ++ [x]) := by
  have h1 : (l.length + 1) * b ≤ 2001 * 96 := Nat.mul_le_mul (by omega) hb
  exact appX_ok (ys := [x]) (by simp only [List.length_cons, List.length_nil, Nat.zero_add]; omega) (by simp [maxLen]; omega)
theorem clone_ok {α : Type} (l : List α) {b : Nat} (hl : l.length ≤ 2000) (hb : b ≤ 96) : appX [] l b = some l := by
  have h1 : l.length * b ≤ 2000 * 96 := Nat.mul_le_mul (by omega) hb
  rw [appX_ok (by simp only [List.length_nil, Nat.zero_add]; omega) (by simp [maxLen]; omega)]
  rfl
def withR (f : OrdR) : List OrdR → Bool → List OrdR × Bool
  | [], p => ([], p)
  | x :: l, p => ((bif !p && decide (x.1 ≥ f.1) then [f] else []) ++ (bif x.1 != f.1 then [x] else []) ++ (withR f l (p || decide (x.1 ≥ f.1))).1, (withR f l (p || decide (x.1 ≥ f.1))).2)
theorem withR_behind (f : OrdR) : ∀ (l : List OrdR), (∀ x ∈ l, f.1 < x.1) → withR f l true = (l, true)
  | [], _ => rfl
  | x :: l, h => by
    have hx := h x List.mem_cons_self
    simp only [withR, Bool.true_or, Bool.not_true, Bool.false_and, cond_false, List.nil_append]
    have e : (x.1 != f.1) = true := by simp; omega
    rw [withR_behind f l fun y hy => h y (List.mem_cons_of_mem _ hy), e]
    rfl
theorem withR_eq (f : OrdR) : ∀ (l : List OrdR), SrtO l → (withR f l false).1 ++ (bif !(withR f l false).2 then [f] else []) = putO l f
  | [], _ => rfl
  | x :: l, hs => by
    simp only [withR, Bool.false_or, Bool.not_false, Bool.true_and, putO]
    by_cases h : x.1 < f.1
    · have e1 : decide (x.1 ≥ f.1) = false := decide_eq_false (by omega)
      have e : (x.1 != f.1) = true := by simp; omega
      rw [if_pos h, e1, e, ← withR_eq f l hs.tail]
      rfl
    · have e1 : decide (x.1 ≥ f.1) = true := decide_eq_true (by omega)
      rw [if_neg h, e1]
      simp only [cond_true]
      by_cases e : x.1 = f.1
      · have e2 : (x.1 != f.1) = false := by simp [e]
        rw [if_pos e, e2, withR_behind f l fun y hy => by rw [← e]; exact hs.head y hy]
        simp
      · have e2 : (x.1 != f.1) = true := by simp [e]
        rw [if_neg e, e2, withR_behind f l fun y hy => by have := hs.head y hy; omega]
        simp
theorem withR_len (f : OrdR) : ∀ (l : List OrdR) p, (withR f l p).1.length ≤ 2 * l.length
  | [], p => by simp [withR]
  | x :: l, p => by
    simp only [withR, List.length_append, List.length_cons]
    have h1 : ∀ c : Bool, (bif c then [f] else [] : List OrdR).length ≤ 1 := by intro c; cases c <;> simp
    have h2 : ∀ c : Bool, (bif c then [x] else [] : List OrdR).length ≤ 1 := by intro c; cases c <;> simp
    have := withR_len f l (p || decide (x.1 ≥ f.1))
    have := h1 (!p && decide (x.1 ≥ f.1))
    have := h2 (x.1 != f.1)
    omega
theorem ref16_with (ms : List MsgR) (os : List OrdR) (ns : List NotR) (o : OrdR) (n : NotR) (hs : SrtO os) (hl : os.length ≤ 400) (hn : ns.length ≤ 400) :
    g_ref16_with ((ms, (os, (ns, ()))), (o, (n, ()))) = some (ms, (putO os o, ((if n.2.1 ≠ 0 then upN ns n.2.1 o.1 n.2.2.2.1 n.2.2.2.2.1 else ns), ()))) := by
  unfold g_ref16_with
  simp only
  rw [loop_over0 os (fun i (b : List OrdR × Bool) => (b.1, (b.2, ((i : Int), ())))) (fun l b => (b.1 ++ (withR o l b.2).1, ((withR o l b.2).2, ()))) (fun i b => b.1.length ≤ 2 * i) (b := ([], false)) ?_ ?_ (by simp) (by rfl)]
  · have hlen := withR_len o os false
    have h2 := withR_eq o os hs
    simp only [List.nil_append, Option.bind_some]
    have e1 : (bif !(withR o os false).2 then ((appX (withR o os false).1 (o :: []) 96)).bind (fun (v11 : (List OrdR)) => some (v11, ())) else some ((withR o os false).1, ())) = some (putO os o, ()) := by
      rw [← h2]
      cases (withR o os false).2 with
      | true => simp
      | false =>
        rw [Bool.not_false, cond_true, app_ok _ _ (by omega) (by omega)]
        rfl
    rw [e1]
    simp only [Option.bind_some]
    by_cases h0 : n.2.1 = 0
    · have e : (n.2.1 != 0) = false := by simp [h0]
      rw [e, cond_false, if_neg (by simp [h0])]
    · have e : (n.2.1 != 0) = true := by simp [h0]
      rw [e, cond_true, if_pos h0, clone_ok ns (by omega) (by omega), Option.bind_some, wrap_succ (n := ns.length) (by omega), app_ok _ _ (by omega) (by omega)]
      rfl
  · intro b hb
    simp only [ltI', cond_false, withR, List.append_nil]
    rfl
  · intro i b hi hb
    obtain ⟨acc, p⟩ := b
    simp only at hb
    left
    simp only [ltI hi, cond_true, getI_at hi, Option.bind_some]
    rw [drop_at hi]
    generalize os[i] = x
    have e1 : (bif !p then some (decide (x.1 ≥ o.1)) else some false) = some (!p && decide (x.1 ≥ o.1)) := by cases p <;> rfl
    rw [e1]
    simp only [Option.bind_some]
    have e2 : (bif (!p && decide (x.1 ≥ o.1)) then ((appX acc (o :: []) 96)).bind (fun (v4 : (List OrdR)) => some (v4, (true, ()))) else some (acc, (p, ()))) = some (acc ++ (bif !p && decide (x.1 ≥ o.1) then [o] else []), ((p || decide (x.1 ≥ o.1)), ())) := by
      cases p with
      | true => simp
      | false =>
        by_cases hx : x.1 ≥ o.1
        · rw [decide_eq_true hx]
          simp only [Bool.not_false, Bool.and_self, cond_true, Bool.or_true]
          rw [app_ok _ _ (by omega) (by omega)]
          rfl
        · rw [decide_eq_false hx]
          simp
    rw [e2]
    simp only [Option.bind_some]
    have hb1 : (acc ++ (bif !p && decide (x.1 ≥ o.1) then [o] else [])).length ≤ 2 * i + 1 := by
      rw [List.length_append]
      cases (!p && decide (x.1 ≥ o.1)) <;> simp <;> omega
    generalize hA : acc ++ (bif !p && decide (x.1 ≥ o.1) then [o] else []) = A at hb1
    have e3 : (bif (x.1 != o.1) then ((appX A (x :: []) 96)).bind (fun (v8 : (List OrdR)) => some (v8, ())) else some (A, ())) = some (A ++ (bif x.1 != o.1 then [x] else []), ()) := by
      cases (x.1 != o.1) with
      | false => simp
      | true =>
        simp only [cond_true]
        rw [app_ok _ _ (by omega) (by omega)]
        rfl
    rw [e3]
    simp only [Option.bind_some]
    refine ⟨(A ++ (bif x.1 != o.1 then [x] else []), (p || decide (x.1 ≥ o.1))), ?_, ?_, ?_⟩
    · rw [wrap_succ (by omega)]
    · simp only [List.length_append]
      cases (x.1 != o.1) <;> simp <;> omega
    · conv => lhs; unfold withR
      simp only [← hA, List.append_assoc]

/-! ### The document's answer -/
theorem ref16_Send (v : VenR) (m : MsgR) : g_ref16_Send (v, (m, ())) = some (sendV v m) := by
  unfold g_ref16_Send sendV
  rw [ref16_Right, ref16_RightMsg]
  simp only [Option.bind_some]
  cases hr : rightV v with
  | false => simp
  | true =>
    have hR := (rightV_iff v).1 hr
    by_cases hm : msgP m
    · simp only [Bool.not_true, cond_false, hm, decide_true, Option.bind_some, and_self, not_true, if_false]
      by_cases h4 : v.1.length = 400
      · have e : decide ((v.1.length : Int) ≥ 400) = true := decide_eq_true (by omega)
        rw [e, cond_true, if_pos h4]
      · have h5 := hR.inb
        have e : decide ((v.1.length : Int) ≥ 400) = false := decide_eq_false (by omega)
        rw [e, cond_false, if_neg h4, clone_ok _ (by omega) (by omega), Option.bind_some, app_ok _ _ (by omega) (by omega)]
        rfl
    · simp [hm]

theorem at_none : atI none = -1 := rfl
theorem ref16_Take (v : VenR) (acc : Bool) : g_ref16_Take (v, (acc, ())) = some (takeV v acc) := by
  unfold g_ref16_Take takeV
  rw [ref16_Right, Option.bind_some]
  cases hr : rightV v with
  | false => rfl
  | true =>
    have hR := (rightV_iff v).1 hr
    obtain ⟨ms, os, ns, ⟨⟩⟩ := v
    obtain ⟨h1, h2, h3, h4, h5, h6, h7⟩ := hR
    simp only at h1 h2 h3 h5 h6 h7
    rw [Bool.not_true, cond_false, if_neg (by simp)]
    simp only
    cases ms with
    | nil => rfl
    | cons m ms =>
      have e0 : (((m :: ms).length : Int) == 0) = false := by simp; omega
      rw [e0, cond_false]
      by_cases hn : ns.length = 400
      · have e : decide ((ns.length : Int) ≥ 400) = true := decide_eq_true (by omega)
        rw [e, cond_true]
        simp only
        rw [if_pos (.inl hn)]
      · have e : decide ((ns.length : Int) ≥ 400) = false := decide_eq_false (by omega)
        have hm := h7 m List.mem_cons_self
        have hmk : m.1 = 1 ∨ m.1 = 2 ∨ m.1 = 3 := by
          obtain ⟨_, _, _, _, _, _, _, _, h | h | h⟩ := hm
          · exact .inl h.1
          · exact .inr (.inl h.1)
          · exact .inr (.inr h.1)
        have hsub : subI (m :: ms) 1 ((m :: ms).length : Int) = some ms := by
          have := subI_nat (m :: ms) (a := 1) (b := (m :: ms).length) (by simp) (Nat.le_refl _)
          rw [List.take_length] at this
          exact this
        rw [e, cond_false, show getI (m :: ms) 0 = some m from rfl, Option.bind_some, ref16_Find _ _ (by simp only; omega), Option.bind_some, hsub]
        simp only
        rw [posO_getO h6]
        simp only [List.length_cons] at h1
        unfold bodyV
        cases hg : getO os m.2.1 with
        | none =>
          dsimp only [Option.map_none, atI]
          simp only [show ((-1 : Int) < 0) = True from eq_true (by decide), show ((-1 : Int) ≥ 0) = False from eq_false (by decide), decide_true, decide_false]
          by_cases hk : m.1 = 1
          · have ek : (m.1 == 1) = true := by simp [hk]
            by_cases h40 : os.length = 400
            · have e4 : decide ((os.length : Int) ≥ 400) = true := decide_eq_true (by omega)
              rw [ek, e4, if_pos (.inr ⟨hk, trivial, h40⟩)]
              rfl
            · have e4 : decide ((os.length : Int) ≥ 400) = false := decide_eq_false (by omega)
              rw [ek, e4, if_neg (by simp [hn, h40]), if_pos hk, Bool.and_false, cond_false, Option.bind_some, clone_ok ms (by omega) (by omega), Option.bind_some, cond_true]
              rw [cond_false]
              cases acc with
              | true => rw [cond_true, ref16_with _ _ _ _ _ h6 h3 h2]; rfl
              | false => rw [cond_false, ref16_with _ _ _ _ _ h6 h3 h2]; rfl
          · have ek : (m.1 == 1) = false := by simp [hk]
            rw [ek, if_neg (by simp [hn, hk]), if_neg hk, Bool.false_and, Bool.false_and, cond_false, Option.bind_some, clone_ok ms (by omega) (by omega), Option.bind_some, cond_false, cond_true, Option.bind_some, cond_true]
        | some o =>
          have hat := getO_at h6 hg
          have ho := h5 o (getO_mem hg)
          have hnm := getO_name hg
          dsimp only [Option.map_some, atI]
          simp only [show ((rankO os m.2.1 : Int) < 0) = False from eq_false (by omega), show ((rankO os m.2.1 : Int) ≥ 0) = True from eq_true (by omega), decide_true, decide_false]
          rw [if_neg (by simp [hn]), Bool.and_false, Bool.false_and, cond_false, Option.bind_some, clone_ok ms (by omega) (by omega), Option.bind_some, getI_nat, hat]
          simp only [cond_true, cond_false, Option.bind_some]
          by_cases hk : m.1 = 1
          · have ek : (m.1 == 1) = true := by simp [hk]
            rw [ek, cond_true, if_pos (.inl hk)]
          · have ek : (m.1 == 1) = false := by simp [hk]
            rw [ek, cond_false]
            by_cases hp : o.2.2.2.2.2.2.2.1 = 2
            · have ep : (o.2.2.2.2.2.2.2.1 != 2) = false := by simp [hp]
              rw [ep, cond_false, if_neg (by simp [hk, hp])]
              unfold liveV
              by_cases h3k : m.1 = 3
              · have e3 : (m.1 == 3) = true := by simp [h3k]
                rw [e3, cond_true, if_pos h3k]
                cases acc with
                | true => rw [cond_true, ref16_with _ _ _ _ _ h6 h3 h2, if_pos rfl]; rfl
                | false => rfl
              · have e3 : (m.1 == 3) = false := by simp [h3k]
                rw [e3, cond_false, if_neg h3k]
                by_cases hv : m.2.2.2.2.2.2.2.1 ≤ o.2.2.2.2.2.2.2.2.2.2.1
                · rw [decide_eq_true hv, cond_true, if_pos hv]
                · rw [decide_eq_false hv, cond_false, if_neg hv]
                  by_cases hq : acc = true ∧ m.2.2.2.2.2.1 > o.2.2.2.2.2.2.1
                  · rw [if_pos hq, hq.1, decide_eq_true hq.2, Bool.true_and, cond_true, ref16_with _ _ _ _ _ h6 h3 h2]; rfl
                  · have eq : (acc && decide (m.2.2.2.2.2.1 > o.2.2.2.2.2.2.1)) = false := by
                      cases acc with
                      | false => rfl
                      | true => simpa using hq
                    rw [if_neg hq, eq, cond_false, ref16_with _ _ _ _ _ h6 h3 h2]; rfl
            · have ep : (o.2.2.2.2.2.2.2.1 != 2) = true := by simp [hp]
              rw [ep, cond_true, if_pos (.inr hp)]

theorem ref16_Fill (v : VenR) (id q : Int) (hv : ∀ o ∈ v.2.1, R_OrdR o) (hq : R_i64 q) : g_ref16_Fill (v, (id, (q, ()))) = some (fillV v id q) := by
  unfold g_ref16_Fill fillV
  rw [ref16_Right, Option.bind_some]
  cases hr : rightV v with
  | false => simp
  | true =>
    have hR := (rightV_iff v).1 hr
    obtain ⟨ms, os, ns, ⟨⟩⟩ := v
    obtain ⟨h1, h2, h3, h4, h5, h6, h7⟩ := hR
    simp only at h1 h2 h3 h5 h6 h7 hv
    by_cases h0 : 1 ≤ q
    · rw [if_neg (by simp [h0]), Bool.not_true, Bool.false_or, show decide (q < 1) = false from decide_eq_false (by omega), cond_false]
      simp only
      rw [ref16_Find _ _ (by simp only; omega), Option.bind_some]
      simp only
      rw [posO_getO h6]
      cases hg : getO os id with
      | none => rfl
      | some o =>
        have hat := getO_at h6 hg
        have ho := h5 o (getO_mem hg)
        have hro := hv o (getO_mem hg)
        dsimp only [Option.map_some, atI]
        simp only [show ((rankO os id : Int) < 0) = False from eq_false (by omega), decide_false]
        rw [cond_false, getI_nat, hat, Option.bind_some]
        obtain ⟨ho1, _⟩ := ho
        unfold ordP at ho1
        unfold R_OrdR R_i64 at hro
        unfold R_i64 at hq
        rw [wrap_of (n := o.2.2.2.2.1 - o.2.2.2.2.2.2.1) (by omega) (by omega)]
        by_cases hp : o.2.2.2.2.2.2.2.1 ≠ 2 ∨ q > o.2.2.2.2.1 - o.2.2.2.2.2.2.1
        · have e : ((o.2.2.2.2.2.2.2.1 != 2) || decide (q > o.2.2.2.2.1 - o.2.2.2.2.2.2.1)) = true := by simpa using hp
          rw [e, cond_true, if_pos hp]
        · have e : ((o.2.2.2.2.2.2.2.1 != 2) || decide (q > o.2.2.2.2.1 - o.2.2.2.2.2.2.1)) = false := by simpa using hp
          rw [e, cond_false, if_neg hp]
          by_cases hn : ns.length = 400
          · rw [if_pos hn, show decide ((ns.length : Int) ≥ 400) = true from decide_eq_true (by omega), cond_true]
          · rw [if_neg hn, show decide ((ns.length : Int) ≥ 400) = false from decide_eq_false (by omega), cond_false, wrap_of (n := o.2.2.2.2.2.2.1 + q) (by omega) (by omega)]
            have e5 : (bif (o.2.2.2.2.2.2.1 + q == o.2.2.2.2.1) then some (o.1, (o.2.1, (o.2.2.1, (o.2.2.2.1, (o.2.2.2.2.1, (o.2.2.2.2.2.1, (o.2.2.2.2.2.2.1 + q, (3, o.2.2.2.2.2.2.2.2))))))))
                else some (o.1, (o.2.1, (o.2.2.1, (o.2.2.2.1, (o.2.2.2.2.1, (o.2.2.2.2.2.1, (o.2.2.2.2.2.2.1 + q, o.2.2.2.2.2.2.2)))))))) = some (fillO o q) := by
              unfold fillO
              by_cases hz : o.2.2.2.2.2.2.1 + q = o.2.2.2.2.1
              · rw [if_pos hz, hz]; simp
              · have : (o.2.2.2.2.2.2.1 + q == o.2.2.2.2.1) = false := by simp [hz]
                rw [if_neg hz, this]; rfl
            rw [e5]
            simp only [Option.bind_some]
            rw [ref16_with _ _ _ _ _ h6 h3 h2]
            rfl
    · rw [if_pos (by simp; omega), Bool.not_true, Bool.false_or, show decide (q < 1) = true from decide_eq_true (by omega), cond_true]

theorem ref16_Out (v : VenR) (id : Int) : g_ref16_Out (v, (id, ())) = some (leaveV v id) := by
  unfold g_ref16_Out leaveV
  rw [ref16_Right, Option.bind_some]
  cases hr : rightV v with
  | false => simp
  | true =>
    have hR := (rightV_iff v).1 hr
    obtain ⟨ms, os, ns, ⟨⟩⟩ := v
    obtain ⟨h1, h2, h3, h4, h5, h6, h7⟩ := hR
    simp only at h1 h2 h3 h5 h6 h7
    rw [Bool.not_true, cond_false, if_neg (by simp), ref16_Find _ _ (by simp only; omega), Option.bind_some]
    simp only
    rw [posO_getO h6]
    cases hg : getO os id with
    | none => rfl
    | some o =>
      have hat := getO_at h6 hg
      dsimp only [Option.map_some, atI]
      simp only [show ((rankO os id : Int) < 0) = False from eq_false (by omega), decide_false]
      rw [cond_false, getI_nat, hat, Option.bind_some]
      by_cases hp : o.2.2.2.2.2.2.2.1 = 2
      · have ep : (o.2.2.2.2.2.2.2.1 != 2) = false := by simp [hp]
        rw [ep, cond_false, if_neg (by simp [hp])]
        by_cases hn : ns.length = 400
        · rw [if_pos hn, show decide ((ns.length : Int) ≥ 400) = true from decide_eq_true (by omega), cond_true]
        · rw [if_neg hn, show decide ((ns.length : Int) ≥ 400) = false from decide_eq_false (by omega), cond_false, ref16_with _ _ _ _ _ h6 h3 h2]
          rfl
      · have ep : (o.2.2.2.2.2.2.2.1 != 2) = true := by simp [hp]
        rw [ep, cond_true, if_pos hp]
end Go.AI
