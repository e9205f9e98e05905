import PyProof.Rows.All
import Wide.All
import OpenK.AllK
import Wide.FinOn
import HandS.ForMost
import HandS.IsInst
import HandS.WideBits
import HandS.Wide
import HandS.EndBits
import HandS.Evl
import HandS.More
import HandS.DictComp
import HandS.RevRange
import HandS.DeepEq
import HandS.ListEq
import HandS.Deep
import PySem.Challenge.RW_dotpress_k51_stages_tell_late
set_option Elab.async false
set_option linter.all false
set_option maxRecDepth 100000
set_option maxHeartbeats 4000000


namespace Dpr
open PySem PySem.Spec PyProof.Rows L2
/-! ### steps of a reading, one a construct -/
section
variable {K : PySem.W.Frag} {D : Ends} {σ : L2.St} {H : Hp} {Q : VK} {QB : Bool → Hp → Prop} {QA : List V → Hp → Prop} {ta tb tc te : TE} {t u : TS} {c : TT} {g : TG} {r r' : R2} {v x y : V}
theorem w_seq (h : t { D with nx := u D } σ H) : tSeq t u D σ H := h
theorem w_cut (M : L2.St → Hp → Prop) (h : t { D with nx := M } σ H) (k : ∀ σ' H', M σ' H' → u D σ' H') : Evl.tCut t u D σ H := ⟨M, h, k⟩
theorem w_asg {i : Nat} (h : te σ H fun v H1 => D.nx (σ.set i (some v)) H1) : tAsg te (gName i) D σ H := h
theorem w_asgG (h : te σ H fun v H1 => g v σ H1 D.nx) : tAsg te g D σ H := h
theorem w_drop (h : te σ H fun _ H1 => D.nx σ H1) : tDrop te D σ H := h
theorem w_ret (h : te σ H D.rt) : tRet te D σ H := h
theorem w_retN (h : D.rt .non H) : tRetN D σ H := h
theorem w_next (h : D.nx σ H) : tNext D σ H := h
theorem w_cont (h : D.ct σ H) : tCont D σ H := h
theorem w_brk (h : D.bk σ H) : tBreak D σ H := h
theorem w_if (h : c σ H fun b H1 => if b = true then t D σ H1 else u D σ H1) : tIfS c t u D σ H := h
theorem w_aug {i : Nat} {ti : TIp} (hx : σ[i]? = some (some x)) (h : te σ H fun y H1 => ti x y H1 fun z H2 => D.nx (σ.set i (some z)) H2) : tAug i te ti D σ H := ⟨x, hx, h⟩
theorem w_ipI {f : Int → Int → Int} {i j : Int} (h : Q (.int (f i j)) H) : ipI f (.int i) (.int j) H Q := ⟨i, j, rfl, rfl, h⟩
theorem w_var {i : Nat} (hx : σ[i]? = some (some v)) (h : Q v H) : tVar i σ H Q := ⟨v, hx, h⟩
theorem w_c (h : Q v H) : tC v σ H Q := h
theorem w_op (h : ta σ H fun x H1 => tb σ H1 fun y H2 => r x y H2 Q) : tOp r ta tb σ H Q := h
theorem w_un {f : V → Hp → VK → Prop} (h : ta σ H fun x H1 => f x H1 Q) : tUn f ta σ H Q := h
theorem w_chain (h : ta σ H fun x H1 => tb σ H1 fun y H2 => r x y H2 fun z H3 => ∃ k, z = .bl k ∧ (if k = true then tc σ H3 fun w' H4 => r' y w' H4 Q else Q (.bl false) H3)) : tChain r r' ta tb tc σ H Q := h
theorem w_test (h : te σ H fun x H1 => ∃ k, x = .bl k ∧ QB k H1) : tTest te σ H QB := h
theorem w_tB (h : te σ H fun x H1 => ∃ k, x = .bl k ∧ QB k H1) : tB te σ H QB := h
theorem w_bl {b : Bool} {P : Bool → Prop} (h : P b) : ∃ k, V.bl b = .bl k ∧ P k := ⟨b, rfl, h⟩
theorem w_and {t u : TT} (h : t σ H fun c H1 => if c = true then u σ H1 QB else QB false H1) : tAnd t u σ H QB := h
theorem w_or {t u : TT} (h : t σ H fun c H1 => if c = true then QB true H1 else u σ H1 QB) : tOr t u σ H QB := h
theorem w_not {t : TT} (h : t σ H fun c H1 => QB (!c) H1) : tNot t σ H QB := h
theorem w_andV (h : ta σ H fun x H1 => ∃ c, x = .bl c ∧ if c = true then tb σ H1 Q else Q (.bl false) H1) : tAndV ta tb σ H Q := h
theorem w_orV (h : ta σ H fun x H1 => ∃ c, x = .bl c ∧ if c = true then Q (.bl true) H1 else tb σ H1 Q) : tOrV ta tb σ H Q := h
theorem w_notV (h : ta σ H fun x H1 => ∃ c, x = .bl c ∧ Q (.bl (!c)) H1) : tNotV ta σ H Q := h
theorem w_ifx {t : TT} (h : t σ H fun c H1 => if c = true then ta σ H1 Q else tb σ H1 Q) : tIf t ta tb σ H Q := h
theorem w_nil (h : QA [] H) : tNil σ H QA := h
theorem w_cons {tr : TA} (h : ta σ H fun x H1 => tr σ H1 fun xs H2 => QA (x :: xs) H2) : tCons ta tr σ H QA := h
/-- a new tuple, a new list: the heap is a letter -/
def AlT (xs : List V) (H : Hp) (Q : VK) : Prop := xs.length ≤ sizeLine ∧ ∀ p, H p = none → Q (.ref p) (upd H p (.tup xs))
def AlL (xs : List V) (H : Hp) (Q : VK) : Prop := xs.length ≤ sizeLine ∧ ∀ p, H p = none → Q (.ref p) (upd H p (.lst xs))
theorem same_upd {H : Hp} {p : Addr} {o : HO} (h : H p = none) : Same H (upd H p o) := fun b x e => by
  rw [upd_ne (ne_of_none e h)]
  exact e
theorem w_tup {s : TA} (h : s σ H fun xs H1 => AlT xs H1 Q) : tTup s σ H Q := h
theorem w_lst {s : TA} (h : s σ H fun xs H1 => AlL xs H1 Q) : tLst s σ H Q := h
theorem sz_le {n : Nat} (h : Nat.ble n 1000 = true) : n ≤ sizeLine := Nat.le_trans (Nat.le_of_ble_eq_true h) (by rw [sizeLine_eq]; decide)
theorem w_alT {xs : List V} (hl : xs.length ≤ sizeLine) (h : ∀ p H', H p = none → Same H H' → H' p = some (.tup xs) → Q (.ref p) H') : AlT xs H Q := ⟨hl, fun p hp => h p _ hp (same_upd hp) upd_same⟩
theorem w_alL {xs : List V} (hl : xs.length ≤ sizeLine) (h : ∀ p H', H p = none → Same H H' → H' p = some (.lst xs) → Q (.ref p) H') : AlL xs H Q := ⟨hl, fun p hp => h p _ hp (same_upd hp) upd_same⟩
theorem w_call {sp : Sp} {dvs : List V} {E : XK} {s : TA} (h : s σ H fun vs H1 => sp (vs ++ dvs) H1 Q E) : tCall sp dvs E s σ H Q := h
theorem w_cb {f : List V → Hp → VK → Prop} {s : TA} (h : s σ H fun vs H1 => f vs H1 Q) : tCB f s σ H Q := h
theorem w_I0 {f : Int → Int → V} {i j : Int} (h : Q (f i j) H) : rI0 f (.int i) (.int j) H Q := ⟨i, j, rfl, rfl, h⟩
theorem w_I {C : Int → Int → Prop} {f : Int → Int → V} {i j : Int} (hc : C i j) (h : Q (f i j) H) : rI C f (.int i) (.int j) H Q := ⟨i, j, rfl, rfl, hc, h⟩
theorem w_U {f : Int → V} {i : Int} (h : Q (f i) H) : rU f (.int i) H Q := ⟨i, rfl, h⟩
theorem w_eq (hs : scal x y = true) (h : Q (.bl (decide (x = y))) H) : rEq x y H Q := ⟨hs, h⟩
theorem w_ne (hs : scal x y = true) (h : Q (.bl (!decide (x = y))) H) : rNe x y H Q := ⟨hs, h⟩
theorem w_bits {i : Int} (h : Q (.int (Builtin.Int.intBits i : Nat)) H) : (∃ j, V.int i = .int j ∧ Q (.int (Builtin.Int.intBits j : Nat)) H) := ⟨i, rfl, h⟩
theorem w_tbits (h : te σ H fun x H1 => ∃ i, x = .int i ∧ Q (.int (Builtin.Int.intBits i : Nat)) H1) : tBits te σ H Q := h
theorem w_ixL {p : Addr} {xs : List V} {i : Int} (hl : SqL K H p xs) (ha : atI xs i = some v) (h : Q v H) : rIxL K (.ref p) (.int i) H Q := ⟨p, xs, i, v, rfl, rfl, hl, ha, h⟩
theorem w_ixT {p : Addr} {xs : List V} {i : Int} (hl : SqT K H p xs) (ha : atI xs i = some v) (h : Q v H) : rIxT K (.ref p) (.int i) H Q := ⟨p, xs, i, v, rfl, rfl, hl, ha, h⟩
/-! tests -/
theorem w_itT {A B : Prop} (h : A) : if true = true then A else B := by rw [if_pos rfl]; exact h
theorem w_itF {A B : Prop} (h : B) : if false = true then A else B := by rw [if_neg Bool.false_ne_true]; exact h
theorem w_itC {b : Bool} {A B : Prop} (e : b = true) (h : A) : if b = true then A else B := by rw [if_pos e]; exact h
theorem w_itD {b : Bool} {A B : Prop} (e : b = false) (h : B) : if b = true then A else B := by rw [e, if_neg Bool.false_ne_true]; exact h
theorem w_itI {i j : Int} {A B : Prop} (h1 : i = j → A) (h2 : i ≠ j → B) : if decide (V.int i = V.int j) = true then A else B := by
  by_cases e : i = j
  · rw [if_pos (by rw [e]; exact decide_eq_true rfl)]; exact h1 e
  · rw [if_neg (fun z => e (V.int.inj (of_decide_eq_true z)))]; exact h2 e
theorem w_itN {i j : Int} {A B : Prop} (h1 : i ≠ j → A) (h2 : i = j → B) : if (!decide (V.int i = V.int j)) = true then A else B := by
  by_cases e : i = j
  · rw [e, decide_eq_true rfl]; exact w_itF (h2 e)
  · rw [decide_eq_false (fun z => e (V.int.inj z))]; exact w_itT (h1 e)
theorem w_itd {p A B : Prop} [Decidable p] (h1 : p → A) (h2 : ¬ p → B) : if decide p = true then A else B := by
  by_cases e : p
  · rw [if_pos (decide_eq_true e)]; exact h1 e
  · rw [if_neg (fun z => e (of_decide_eq_true z))]; exact h2 e
theorem w_itn {p A B : Prop} [Decidable p] (h1 : ¬ p → A) (h2 : p → B) : if (!decide p) = true then A else B := by
  by_cases e : p
  · rw [decide_eq_true e]; exact w_itF (h2 e)
  · rw [decide_eq_false e]; exact w_itT (h1 e)
theorem w_itb {b : Bool} {A B : Prop} (h1 : b = true → A) (h2 : b = false → B) : if b = true then A else B := by
  cases b with
  | true => exact w_itT (h1 rfl)
  | false => exact w_itF (h2 rfl)
end
/-! calls of built-ins, by names of our own -/
def rLen (K : PySem.W.Frag) : List V → Hp → VK → Prop := fun xs H Q => ∃ p ys, xs = [.ref p] ∧ (SqL K H p ys ∨ SqT K H p ys) ∧ Q (.int ys.length) H
theorem c_len {X : Cx} : CallR X (.builtin "len") (rLen X.K) := call_len_seq
theorem w_lenL {K : PySem.W.Frag} {H : Hp} {Q : VK} {p : Addr} {xs : List V} (h : SqL K H p xs) (q : Q (.int (xs.length : Int)) H) : rLen K [.ref p] H Q := ⟨p, xs, rfl, .inl h, q⟩
theorem w_lenT {K : PySem.W.Frag} {H : Hp} {Q : VK} {p : Addr} {xs : List V} (h : SqT K H p xs) (q : Q (.int (xs.length : Int)) H) : rLen K [.ref p] H Q := ⟨p, xs, rfl, .inr h, q⟩
def rAbs : List V → Hp → VK → Prop := fun xs H Q => ∃ i, xs = [.int i] ∧ Q (.int (if i < 0 then -i else i)) H
theorem c_abs {X : Cx} : CallR X (.builtin "abs") rAbs := call_abs
theorem w_abs {H : Hp} {Q : VK} {i : Int} (q : Q (.int (if i < 0 then -i else i)) H) : rAbs [.int i] H Q := ⟨i, rfl, q⟩
def rMax2 : List V → Hp → VK → Prop := fun xs H Q => ∃ i j, xs = [.int i, .int j] ∧ Q (.int (if j > i then j else i)) H
def rMin2 : List V → Hp → VK → Prop := fun xs H Q => ∃ i j, xs = [.int i, .int j] ∧ Q (.int (if j < i then j else i)) H
theorem c_max2 {X : Cx} (hc : X.calm = true) : CallR X (.builtin "max") rMax2 := call_max2 hc
theorem c_min2 {X : Cx} (hc : X.calm = true) : CallR X (.builtin "min") rMin2 := call_min2 hc
theorem w_max2 {H : Hp} {Q : VK} {i j : Int} (q : Q (.int (if j > i then j else i)) H) : rMax2 [.int i, .int j] H Q := ⟨i, j, rfl, q⟩
theorem w_min2 {H : Hp} {Q : VK} {i j : Int} (q : Q (.int (if j < i then j else i)) H) : rMin2 [.int i, .int j] H Q := ⟨i, j, rfl, q⟩
def rListOf (K : PySem.W.Frag) : List V → Hp → VK → Prop := fun xs H Q => ∃ p ys, xs = [.ref p] ∧ (SqL K H p ys ∨ SqT K H p ys) ∧ ∀ l, H l = none → Q (.ref l) (upd H l (.lst ys))
theorem c_list {X : Cx} : CallR X (.type "list") (rListOf X.K) := call_list_of
theorem w_listL {K : PySem.W.Frag} {H : Hp} {Q : VK} {p : Addr} {xs : List V} (h : SqL K H p xs) (q : ∀ l H', H l = none → Same H H' → H' l = some (.lst xs) → Q (.ref l) H') : rListOf K [.ref p] H Q := ⟨p, xs, rfl, .inl h, fun l hl => q l _ hl (same_upd hl) upd_same⟩
theorem w_listT {K : PySem.W.Frag} {H : Hp} {Q : VK} {p : Addr} {xs : List V} (h : SqT K H p xs) (q : ∀ l H', H l = none → Same H H' → H' l = some (.lst xs) → Q (.ref l) H') : rListOf K [.ref p] H Q := ⟨p, xs, rfl, .inr h, fun l hl => q l _ hl (same_upd hl) upd_same⟩
/-- a product of two ints of any size that the model allows -/
theorem op_mulI {X : Cx} : OpR X (binaryOp .Mult) (rI IntMulOk fun i j => .int (i * j)) := opI fun _ _ _ _ _ _ _ hc q => mul_int q hc
/-- isinstance, the answer told -/
theorem w_isi {K : PySem.W.Frag} {H : Hp} {Q : VK} {x : V} {t : Value} {n : String} {b : Bool} (ty : TyX K H x t) (e : PySem.W.kitOne K t (.type n) = some b) (q : Q (.bl b) H) : rIsi K [x, .ty n] H Q := ⟨x, .ty n, t, _, b, rfl, .ty n, ty, e, q⟩
theorem kit_ii (K : PySem.W.Frag) : PySem.W.kitOne K (.type "int") (.type "int") = some true := kit_ty (by decide +kernel)
theorem kit_ib (K : PySem.W.Frag) : PySem.W.kitOne K (.type "int") (.type "bool") = some false := kit_ty (by decide +kernel)
theorem kit_bi (K : PySem.W.Frag) : PySem.W.kitOne K (.type "bool") (.type "int") = some true := kit_ty (by decide +kernel)
theorem kit_bb (K : PySem.W.Frag) : PySem.W.kitOne K (.type "bool") (.type "bool") = some true := kit_ty (by decide +kernel)
theorem kit_ll (K : PySem.W.Frag) : PySem.W.kitOne K (.type "list") (.type "list") = some true := kit_ty (by decide +kernel)
theorem kit_tt (K : PySem.W.Frag) : PySem.W.kitOne K (.type "tuple") (.type "tuple") = some true := kit_ty (by decide +kernel)
theorem kit_ss (K : PySem.W.Frag) : PySem.W.kitOne K (.type "str") (.type "str") = some true := kit_ty (by decide +kernel)
theorem w_isiT {K : PySem.W.Frag} {H : Hp} {Q : VK} {p : Addr} {xs : List V} (e : H p = some (.tup xs)) (q : Q (.bl true) H) : rIsi K [.ref p, .ty "tuple"] H Q := w_isi (TyX.base (TyOf.tup e)) (kit_tt K) q
theorem w_isiL {K : PySem.W.Frag} {H : Hp} {Q : VK} {p : Addr} {xs : List V} (e : H p = some (.lst xs)) (q : Q (.bl true) H) : rIsi K [.ref p, .ty "list"] H Q := w_isi (TyX.base (TyOf.lst e)) (kit_ll K) q
theorem kit_tl (K : PySem.W.Frag) : PySem.W.kitOne K (.type "tuple") (.type "list") = some false := kit_ty (by decide +kernel)
theorem kit_lt (K : PySem.W.Frag) : PySem.W.kitOne K (.type "list") (.type "tuple") = some false := kit_ty (by decide +kernel)
/-! slices and sums of lists -/
section
variable {K : PySem.W.Frag} {σ : L2.St} {H : Hp} {Q : VK} {te : TE} {tl th : TO} {QO : Option Int → Hp → Prop}
theorem w_tsl {f : V → Option Int → Option Int → Hp → VK → Prop} (h : te σ H fun x H1 => tl σ H1 fun l H2 => th σ H2 fun u H3 => f x l u H3 Q) : tSl f te tl th σ H Q := h
theorem w_tnp (h : QO none H) : tNoPart σ H QO := h
theorem w_tpt (h : te σ H fun x H1 => ∃ i, x = .int i ∧ QO (some i) H1) : tPart te σ H QO := h
theorem w_pt {i : Int} {P : Int → Prop} (h : P i) : ∃ j, V.int i = .int j ∧ P j := ⟨i, rfl, h⟩
theorem w_sl {p : Addr} {xs : List V} {lo hi : Option Int} (h : SqL K H p xs) (q : ∀ l H', H l = none → Same H H' → H' l = some (.lst (cutV xs lo hi)) → Q (.ref l) H') : rSlL K (.ref p) lo hi H Q :=
  ⟨p, xs, rfl, h, fun l hl => q l _ hl (same_upd hl) upd_same⟩
theorem w_cat {p b : Addr} {xs ys : List V} (h1 : H p = some (.lst xs)) (h2 : H b = some (.lst ys)) (hz : xs.length + ys.length ≤ 16000000) (q : ∀ l H', H l = none → Same H H' → H' l = some (.lst (xs ++ ys)) → Q (.ref l) H') : rCat (.ref p) (.ref b) H Q :=
  ⟨p, b, xs, ys, rfl, rfl, h1, h2, Nat.le_trans hz (by rw [sizeLine_eq]; decide), fun l hl => q l _ hl (same_upd hl) upd_same⟩
end
/-! heaps that grow -/
theorem same_at {H H' : Hp} {b : Addr} {o : HO} (s : Same H H') (h : H b = some o) : H' b = some o := s b o h
theorem same_tup {K : PySem.W.Frag} {H H' : Hp} {a : Addr} {xs : List V} (e : Same H H') (h : SqT K H a xs) : SqT K H' a xs := by
  rcases h with (h | ⟨o, h⟩) | h
  · exact .inl (.inl (e _ _ h))
  · exact .inl (.inr ⟨o, e _ _ h⟩)
  · exact .inr h
theorem p2pos (k : Nat) : (0 : Int) < 2 ^ k := Int.pow_pos (by decide)
/-! loops -/
section
variable {K : PySem.W.Frag} {D : Ends} {σ : L2.St} {H : Hp} {Q : VK} {ta te tl : TE} {t : TS} {g : TG} {s : TA} {wi : TI} {tt : TT} {vs : List Nat}
def ForB (J : It) (g : TG) (t : TS) (D : Ends) (σ : L2.St) (H : Hp) : Prop := ∃ W : Nat → Nat → L2.St → Hp → Prop, (∃ m, W 0 m σ H) ∧ ∀ i m σ H, W i m σ H →
  (J.stop i H ∧ D.nx σ H) ∨ (J.go i H ∧ ∃ N : L2.St → Hp → Prop, (∀ σ' H', N σ' H' → ∃ m', m' < m ∧ W (i + 1) m' σ' H') ∧ ∀ x H', J.yld i H x H' → g x σ H' fun σ2 H2 => t { D with nx := N, ct := N, bk := D.nx } σ2 H2)
theorem w_for (h : wi σ H fun J H1 => ForB J g t D σ H1) : tFor wi g t D σ H := h
def LcB (J : It) (g : TG) (tt : TT) (te : TE) (vs : List Nat) (σ : L2.St) (Q : VK) (H1 : Hp) : Prop := ∀ D, H1 D = none → ∃ W : Nat → Nat → Hp → Prop, (∃ m, W 0 m (upd H1 D (.lst []))) ∧ ∀ i m H, W i m H →
  (J.stop i H ∧ Q (.ref D) H) ∨ (J.go i H ∧ ∃ Nx : Hp → Prop, (∀ H', Nx H' → ∃ m', m' < m ∧ W (i + 1) m' H') ∧ ∀ x H', J.yld i H x H' → g x (wipe σ vs) H' fun σ2 H2 => wipe σ2 vs = wipe σ vs ∧ tt σ2 H2 fun b H3 =>
    if b = true then te σ2 H3 fun y H4 => ∃ acc, H4 D = some (.lst acc) ∧ acc.length < sizeLine ∧ Nx (upd H4 D (.lst (acc ++ [y]))) else Nx H3)
theorem w_lc (h : wi σ H fun J H1 => LcB J g tt te vs σ Q H1) : tLc wi g tt te vs σ H Q := h
def IL1 (K : PySem.W.Frag) (R : It → Hp → Prop) (x : V) (H1 : Hp) : Prop := ∃ a, x = .ref a ∧ (∃ xs, SqL K H1 a xs) ∧ R (Itl K a) H1
def IT1 (K : PySem.W.Frag) (R : It → Hp → Prop) (x : V) (H1 : Hp) : Prop := ∃ a, x = .ref a ∧ (∃ xs, SqT K H1 a xs) ∧ R (Itt K a) H1
def IR1 (R : It → Hp → Prop) (vs : List V) (H1 : Hp) : Prop := ∃ j : Int, vs = [.int j] ∧ -(2 ^ 62) ≤ j ∧ j < 2 ^ 62 ∧ R (Itr 0 j.toNat) H1
def IR2 (R : It → Hp → Prop) (vs : List V) (H1 : Hp) : Prop := ∃ i j : Int, vs = [.int i, .int j] ∧ (-(2 ^ 62) ≤ i ∧ i < 2 ^ 62 ∧ -(2 ^ 62) ≤ j ∧ j < 2 ^ 62) ∧ R (Itr i (j - i).toNat) H1
variable {R : It → Hp → Prop}
theorem w_iL (h : tl σ H fun x H1 => IL1 K R x H1) : iList K tl σ H R := h
theorem w_iT (h : tl σ H fun x H1 => IT1 K R x H1) : iTup K tl σ H R := h
theorem w_iR1 (h : s σ H fun x H1 => IR1 R x H1) : iRng1 s σ H R := h
theorem w_iR2 (h : s σ H fun x H1 => IR2 R x H1) : iRng2 s σ H R := h
theorem w_IL1 {a : Addr} {xs : List V} (h : SqL K H a xs) (q : R (Itl K a) H) : IL1 K R (.ref a) H := ⟨a, rfl, ⟨xs, h⟩, q⟩
theorem w_IT1 {a : Addr} {xs : List V} (h : SqT K H a xs) (q : R (Itt K a) H) : IT1 K R (.ref a) H := ⟨a, rfl, ⟨xs, h⟩, q⟩
theorem w_IR1 {j : Int} (h : -1000000 ≤ j ∧ j ≤ 1000000) (q : R (Itr 0 j.toNat) H) : IR1 R [.int j] H := ⟨j, rfl, by omega, by omega, q⟩
theorem w_IR2 {i j : Int} (h : -1000000 ≤ i ∧ i ≤ 1000000 ∧ -1000000 ≤ j ∧ j ≤ 1000000) (q : R (Itr i (j - i).toNat) H) : IR2 R [.int i, .int j] H := ⟨i, j, rfl, by omega, q⟩
/-- for x in a list that stands: Pv by the turn, the slots, the heap -/
theorem for_l {a : Addr} {j : Nat} (xs : List V) (Pv : Nat → L2.St → Hp → Prop) (h0 : Pv 0 σ H) (hl : ∀ i σ H, i ≤ xs.length → Pv i σ H → SqL K H a xs)
    (hs : ∀ i x σ' H', xs[i]? = some x → Pv i σ' H' → t { D with nx := Pv (i + 1), ct := Pv (i + 1), bk := D.nx } (σ'.set j (some x)) H') (hd : ∀ σ' H', Pv xs.length σ' H' → D.nx σ' H') : ForB (Itl K a) (gName j) t D σ H :=
  for_list Pv h0 hl hs hd
theorem for_t {a : Addr} {j : Nat} (xs : List V) (Pv : Nat → L2.St → Hp → Prop) (h0 : Pv 0 σ H) (hl : ∀ i σ H, i ≤ xs.length → Pv i σ H → SqT K H a xs)
    (hs : ∀ i x σ' H', xs[i]? = some x → Pv i σ' H' → t { D with nx := Pv (i + 1), ct := Pv (i + 1), bk := D.nx } (σ'.set j (some x)) H') (hd : ∀ σ' H', Pv xs.length σ' H' → D.nx σ' H') : ForB (Itt K a) (gName j) t D σ H :=
  for_tup Pv h0 hl hs hd
theorem for_r {n j : Nat} (Pv : Nat → L2.St → Hp → Prop) (h0 : Pv 0 σ H)
    (hs : ∀ (i : Nat) σ' H', i < n → Pv i σ' H' → t { D with nx := Pv (i + 1), ct := Pv (i + 1), bk := D.nx } (σ'.set j (some (.int (i : Int)))) H') (hd : ∀ σ' H', Pv n σ' H' → D.nx σ' H') : ForB (Itr 0 n) (gName j) t D σ H :=
  for_range Pv h0 (fun i σ' H' hi p => by
    show t _ (σ'.set j (some (.int (0 + (i : Int))))) H'
    rw [Int.zero_add]
    exact hs i σ' H' hi p) hd
theorem for_r2 {lo : Int} {n j : Nat} (Pv : Nat → L2.St → Hp → Prop) (h0 : Pv 0 σ H)
    (hs : ∀ (i : Nat) σ' H', i < n → Pv i σ' H' → t { D with nx := Pv (i + 1), ct := Pv (i + 1), bk := D.nx } (σ'.set j (some (.int (lo + (i : Int))))) H') (hd : ∀ σ' H', Pv n σ' H' → D.nx σ' H') : ForB (Itr lo n) (gName j) t D σ H :=
  for_range Pv h0 hs hd
/-- a comprehension over range(n) whose elements leave the heap -/
theorem lc_r {n j : Nat} (f : Nat → V) (hn : n < 1000000) (hw : ∀ x, wipe ((wipe σ vs).set j (some x)) vs = wipe σ vs)
    (he : ∀ (i : Nat) H' (Q' : VK), i < n → Same H H' → Q' (f i) H' → te ((wipe σ vs).set j (some (.int (i : Int)))) H' Q')
    (q : ∀ p H', H p = none → Same H H' → H' p = some (.lst ((List.range n).map f)) → Q (.ref p) H') : LcB (Itr 0 n) (gName j) tYes te vs σ Q H := fun p hp =>
  lc_range (lo := 0) (n := n) (fun i H' => H' = upd H p (.lst ((List.range i).map f))) rfl (fun i H' hi e => by
    subst e
    have e0 : V.int (0 + (i : Int)) = V.int (i : Int) := by rw [Int.zero_add]
    show wipe ((wipe σ vs).set j (some (V.int (0 + (i : Int))))) vs = wipe σ vs ∧ te ((wipe σ vs).set j (some (V.int (0 + (i : Int))))) (upd H p (.lst ((List.range i).map f)))
      (fun y H4 => ∃ acc, H4 p = some (.lst acc) ∧ acc.length < sizeLine ∧ upd H4 p (.lst (acc ++ [y])) = upd H p (.lst ((List.range (i + 1)).map f)))
    rw [e0]
    refine ⟨hw _, he i _ _ hi (same_upd hp) ⟨_, upd_same, ?_, ?_⟩⟩
    · rw [List.length_map, List.length_range]
      exact Nat.lt_of_lt_of_le (show i < 16777216 by omega) (by rw [sizeLine_eq]; exact Nat.le_refl _)
    · rw [upd_upd, List.range_succ, List.map_append]
      rfl) fun H' e => by
    subst e
    exact q p _ hp (same_upd hp) upd_same
end
/-! lists of ints -/
theorem get_map {α : Type} {xs : List α} {f : α → V} {i : Nat} {x : V} (h : (xs.map f)[i]? = some x) : ∃ y, xs[i]? = some y ∧ x = f y := by
  rw [List.getElem?_map] at h
  cases e : xs[i]? with
  | none => rw [e] at h; cases h
  | some y => rw [e] at h; exact ⟨y, rfl, (Option.some.inj h).symm⟩
theorem cut_upto (xs : List V) (n : Nat) : cutV xs none (some (n : Int)) = xs.take n := by
  unfold cutV
  rw [HT.sIx_none, HT.sIx_nat, List.drop_zero, Nat.sub_zero]
  rcases Nat.le_total n xs.length with h | h
  · rw [Nat.min_eq_left h]
  · rw [Nat.min_eq_right h, List.take_of_length_le (Nat.le_refl _), List.take_of_length_le h]
theorem cut_from (xs : List V) (n : Nat) (h : n ≤ xs.length) : cutV xs (some (n : Int)) none = xs.drop n := by
  unfold cutV
  rw [HT.sIx_none, HT.sIx_nat, Nat.min_eq_left h]
  exact List.take_of_length_le (by rw [List.length_drop]; exact Nat.le_refl _)
/-- the cells of a law: at most 63 of the script, and nought behind -/
def cells (ns : List Int) : List Int := ns.take 63 ++ [0]
theorem cells_eq (ns : List Int) : cutV (ns.map V.int) none (some (63 : Int)) ++ [V.int 0] = (cells ns).map V.int := by
  rw [show (63 : Int) = ((63 : Nat) : Int) from rfl, cut_upto, cells, List.map_append, List.map_take]
  rfl
theorem cells_len (ns : List Int) : (cells ns).length ≤ 64 ∧ 1 ≤ (cells ns).length := by
  unfold cells
  rw [List.length_append, List.length_take, List.length_singleton]
  omega
theorem cutV_le (xs : List V) (lo hi : Option Int) {n : Nat} (h : xs.length ≤ n) : (cutV xs lo hi).length ≤ n := Nat.le_trans (cutV_length xs lo hi) h
/-! == of data -/
theorem w_neD {K : PySem.W.Frag} {H : Hp} {Q : VK} {x y : V} {d e : PyData} (hx : Dp K H x d) (hy : Dp K H y e) (sd : SeqAt.shaped d = true) (se : SeqAt.shaped e = true) (q : Q (.bl (!PyData.eqv d e)) H) : rNeD K x y H Q := ⟨d, e, hx, hy, sd, se, q⟩
theorem w_eqD {K : PySem.W.Frag} {H : Hp} {Q : VK} {x y : V} {d e : PyData} (hx : Dp K H x d) (hy : Dp K H y e) (sd : SeqAt.shaped d = true) (se : SeqAt.shaped e = true) (q : Q (.bl (PyData.eqv d e)) H) : rEqD K x y H Q := ⟨d, e, hx, hy, sd, se, q⟩
theorem w_neSame {K : PySem.W.Frag} {H : Hp} {Q : VK} {x y : V} (d : PyData) (hx : Dp K H x d) (hy : Dp K H y d) (sd : SeqAt.shaped d = true) (q : Q (.bl false) H) : rNeD K x y H Q :=
  ⟨d, d, hx, hy, sd, sd, by rw [SeqAt.eqv_refl d (SeqAt.canLay_of_shaped sd)]; exact q⟩
theorem w_eqSame {K : PySem.W.Frag} {H : Hp} {Q : VK} {x y : V} (d : PyData) (hx : Dp K H x d) (hy : Dp K H y d) (sd : SeqAt.shaped d = true) (q : Q (.bl true) H) : rEqD K x y H Q :=
  ⟨d, d, hx, hy, sd, sd, by rw [SeqAt.eqv_refl d (SeqAt.canLay_of_shaped sd)]; exact q⟩
theorem dp_ints {K : PySem.W.Frag} {H : Hp} : ∀ ns : List Int, DpAll K H (ns.map V.int) (ns.map PyData.int)
  | [] => .nil
  | n :: r => .cons (.int n) (dp_ints r)
theorem lay_ints : ∀ ns : List Int, PyData.canLayAll0 (ns.map PyData.int) = true
  | [] => rfl
  | n :: r => by
    show (PyData.canLay0 (.int n) && PyData.canLayAll0 (r.map PyData.int)) = true
    rw [lay_ints r]
    rfl
/-! lists that change -/
section
variable {K : PySem.W.Frag} {D : Ends} {σ : L2.St} {H H1 : Hp} {Q : VK} {to : TE} {t : TA} {b : TS}
/-- what H does not know may change behind it -/
theorem same_mut {o : Addr} {u : HO} (s : Same H H1) (n : H o = none) : Same H (upd H1 o u) := fun c x e => by
  rw [upd_ne (ne_of_none e n)]
  exact s c x e
def BM1 (K : PySem.W.Frag) (T : String) (f : V → List V → Hp → VK → Prop) (t : TA) (σ : L2.St) (Q : VK) (x : V) (H1 : Hp) : Prop := tyV K T x H1 ∧ t σ H1 fun xs H2 => f x xs H2 Q
def BM0 (K : PySem.W.Frag) (T : String) (f : V → List V → Hp → VK → Prop) (Q : VK) (x : V) (H1 : Hp) : Prop := tyV K T x H1 ∧ f x [] H1 Q
theorem w_bm {T : String} {f : V → List V → Hp → VK → Prop} (h : to σ H fun x H1 => BM1 K T f t σ Q x H1) : tBM K T f to t σ H Q := h
theorem w_bm0 {T : String} {f : V → List V → Hp → VK → Prop} (h : to σ H fun x H1 => BM0 K T f Q x H1) : tBM0 K T f to σ H Q := h
theorem w_BML {f : V → List V → Hp → VK → Prop} {p : Addr} {xs : List V} (e : H p = some (.lst xs)) (q : t σ H fun vs H2 => f (.ref p) vs H2 Q) : BM1 K "list" f t σ Q (.ref p) H := ⟨.inl ⟨rfl, xs, SqL.of e⟩, q⟩
theorem w_BM0L {f : V → List V → Hp → VK → Prop} {p : Addr} {xs : List V} (e : H p = some (.lst xs)) (q : f (.ref p) [] H Q) : BM0 K "list" f Q (.ref p) H := ⟨.inl ⟨rfl, xs, SqL.of e⟩, q⟩
theorem w_append {p : Addr} {xs : List V} {y : V} (e : H p = some (.lst xs)) (hz : xs.length ≤ 1000000) (q : Q .non (upd H p (.lst (xs ++ [y])))) : rAppend (.ref p) [y] H Q :=
  ⟨p, xs, y, rfl, rfl, e, Nat.lt_of_le_of_lt hz (by rw [sizeLine_eq]; decide), q⟩
/-- for k, x in enumerate(a list that stands) -/
def IE1 (K : PySem.W.Frag) (R : It → Hp → Prop) (vs : List V) (H1 : Hp) : Prop := ∃ a xs, vs = [.ref a] ∧ SqL K H1 a xs ∧ R (Ite K a) H1
theorem w_iE {s : TA} {R : It → Hp → Prop} (h : s σ H fun x H1 => IE1 K R x H1) : iEnum K s σ H R := h
theorem w_IE1 {a : Addr} {xs : List V} {R : It → Hp → Prop} (h : SqL K H a xs) (q : R (Ite K a) H) : IE1 K R [.ref a] H := ⟨a, xs, rfl, h, q⟩
theorem for_e {a : Addr} {j k : Nat} (xs : List V) (Pv : Nat → L2.St → Hp → Prop) (h0 : Pv 0 σ H) (hl : ∀ n σ H, n ≤ xs.length → Pv n σ H → SqL K H a xs)
    (hs : ∀ (n : Nat) x σ' H' H'', xs[n]? = some x → Pv n σ' H' → Same H' H'' → b { D with nx := Pv (n + 1), ct := Pv (n + 1), bk := D.nx } ((σ'.set j (some (.int (n : Int)))).set k (some x)) H'') (hd : ∀ σ' H', Pv xs.length σ' H' → D.nx σ' H') :
    ForB (Ite K a) (gTup K 2 (gCons (gName j) (gCons (gName k) gNil))) b D σ H := by
  refine ⟨fun i m σ H => m = xs.length - i ∧ i ≤ xs.length ∧ Pv i σ H, ⟨xs.length, by simp, Nat.zero_le _, h0⟩, ?_⟩
  rintro i m σ H ⟨rfl, hi, p⟩
  have q := hl i σ H hi p
  by_cases hlt : i < xs.length
  · refine .inr ⟨⟨xs, xs[i], q, by simp [hlt]⟩, Pv (i + 1), fun σ' H' p' => ⟨xs.length - (i + 1), by omega, rfl, hlt, p'⟩, fun x H' y => ?_⟩
    obtain ⟨T, y, rfl, nT, rfl, hy⟩ := y
    refine ⟨T, _, rfl, SqT.of upd_same, rfl, _, _, rfl, _, _, rfl, rfl, ?_⟩
    exact hs i y σ H _ (hy xs q) p (same_upd nT)
  · have e : i = xs.length := by omega
    subst e
    exact .inl ⟨⟨xs, q, Nat.le_refl _⟩, hd σ H p⟩
end
/-- x & 1 -/
def rBit1 : R2 := fun x y H Q => ∃ i : Int, x = .int i ∧ y = .int 1 ∧ Q (.int (i % 2)) H
theorem op_bit1 {X : Cx} : OpR X (binaryOp .BitAnd) rBit1 := by
  intro pins s σ H x y v u Q I rx ry h
  obtain ⟨i, rfl, rfl, q⟩ := h
  have e : Builtin.bitAnd i 1 = i % 2 := PySem.W.kbt_mask i 1
  rw [← e] at q
  exact op_and pins s σ H _ _ v u Q I rx ry ⟨_, _, rfl, rfl, q⟩
theorem w_bit1 {H : Hp} {Q : VK} {i : Int} (q : Q (.int (i % 2)) H) : rBit1 (.int i) (.int 1) H Q := ⟨i, rfl, rfl, q⟩
/-- x >> k, k a place -/
def rShrN : R2 := fun x y H Q => ∃ (i : Int) (k : Nat), x = .int i ∧ y = .int (k : Int) ∧ Q (.int (i / 2 ^ k)) H
theorem op_shrK {X : Cx} : OpR X (binaryOp .RShift) rShrN := op_shrN
theorem w_shrN {H : Hp} {Q : VK} {i : Int} {k : Nat} (q : Q (.int (i / 2 ^ k)) H) : rShrN (.int i) (.int (k : Int)) H Q := ⟨i, k, rfl, rfl, q⟩
/-- x << k, x small, k a place -/
def rShlN : R2 := fun x y H Q => ∃ (i : Int) (k : Nat), x = .int i ∧ y = .int (k : Int) ∧ (-100 ≤ i ∧ i ≤ 100 ∧ k ≤ 1000000) ∧ Q (.int (i * 2 ^ k)) H
theorem op_shlK {X : Cx} : OpR X (binaryOp .LShift) rShlN := by
  intro pins s σ H x y v u Q I rx ry h
  obtain ⟨i, k, rfl, rfl, ⟨h1, h2, h3⟩, q⟩ := h
  refine op_shl pins s σ H _ _ v u Q I rx ry ⟨_, _, rfl, rfl, ⟨by omega, by omega, Nat.lt_of_le_of_lt (show i.natAbs ≤ 100 by omega) (by decide)⟩, ?_⟩
  show Q (.int (i * 2 ^ (k : Int).toNat)) H
  rw [Int.toNat_natCast]
  exact q
theorem w_shlN {H : Hp} {Q : VK} {i : Int} {k : Nat} (h : -100 ≤ i ∧ i ≤ 100 ∧ k ≤ 1000000) (q : Q (.int (i * 2 ^ k)) H) : rShlN (.int i) (.int (k : Int)) H Q := ⟨i, k, rfl, rfl, h, q⟩
theorem bits_of_int {i : Int} {n : Nat} (h : i.natAbs < 2 ^ n) : Builtin.Int.intBits i ≤ n + 1 := by
  have b : Builtin.Int.intBits i ≤ i.natAbs.log2 + 1 := by
    unfold Builtin.Int.intBits
    split <;> omega
  rcases Nat.eq_zero_or_pos n with h0 | h0
  · subst h0
    have e : i.natAbs = 0 := by omega
    rw [e] at b
    exact b
  · have := PySem.Flt.log2_lt_of h0 h
    omega
theorem mul_ok {i j : Int} {n : Nat} (hi : Builtin.Int.intBits i ≤ 1048576) (hj : j.natAbs < 2 ^ n) (hn : n ≤ 1000000) : IntMulOk i j :=
  CMulX.ok (show (Builtin.Int.intBits i : Int) + (Builtin.Int.intBits j : Int) ≤ 134217728 by have := bits_of_int hj; omega)
theorem mul_sm {i j : Int} (h : -1000000000000 ≤ i ∧ i ≤ 1000000000000) : IntMulOk i j := .of_left (intBits_le_64 (by omega) (by omega))
theorem mul_sm2 {i j : Int} (h : -1000000000000 ≤ j ∧ j ≤ 1000000000000) : IntMulOk i j := .of_right (intBits_le_64 (by omega) (by omega))
theorem depth_ints : ∀ ns : List Int, PyData.depthAll (ns.map PyData.int) ≤ 1
  | [] => Nat.zero_le 1
  | n :: r => by
    have := depth_ints r
    show max (PyData.depth (.int n)) (PyData.depthAll (r.map PyData.int)) ≤ 1
    exact Nat.max_le.mpr ⟨Nat.zero_le 1, this⟩
theorem shaped_ints (ns : List Int) : SeqAt.shaped (.list (ns.map PyData.int)) = true := by
  unfold SeqAt.shaped
  rw [show PyData.canLay0 (.list (ns.map PyData.int)) = true from lay_ints ns, Bool.true_and]
  have h := depth_ints ns
  exact decide_eq_true (show PyData.depthAll (ns.map PyData.int) + 1 ≤ 64 by omega)
/-! targets of several names -/
section
variable {K : PySem.W.Frag} {σ : L2.St} {H : Hp} {t : TG} {u tt : TGs} {QS : L2.St → Hp → Prop}
theorem w_gTup {n : Nat} {a : Addr} {xs : List V} (h : SqT K H a xs) (e : xs.length = n) (q : tt xs σ H QS) : gTup K n tt (.ref a) σ H QS := ⟨a, xs, rfl, h, e, q⟩
theorem w_gCons {v : V} {r : List V} (q : t v σ H fun σ' H' => u r σ' H' QS) : gCons t u (v :: r) σ H QS := ⟨v, r, rfl, q⟩
theorem w_gNil (q : QS σ H) : gNil [] σ H QS := ⟨rfl, q⟩
theorem w_gName {v : V} {i : Nat} (q : QS (σ.set i (some v)) H) : gName i v σ H QS := q
end
/-- how many bits a number has -/
theorem ib_le {x : Int} (h : 0 ≤ x) (n : Nat) : Builtin.Int.intBits x ≤ n ↔ x < 2 ^ n := by
  obtain ⟨k, rfl⟩ := Int.eq_ofNat_of_zero_le h
  have e : (k : Int) < 2 ^ n ↔ k < 2 ^ n := by
    rw [show ((2 : Int) ^ n) = ((2 ^ n : Nat) : Int) by rw [Int.natCast_pow]; rfl]
    exact Int.ofNat_lt
  rw [e]
  by_cases h0 : k = 0
  · subst h0
    exact ⟨fun _ => Nat.pos_of_ne_zero (by intro z; exact absurd z (Nat.ne_of_gt (Nat.pow_pos (by decide)))), fun _ => Nat.zero_le _⟩
  · have hb : Builtin.Int.intBits (k : Int) = k.log2 + 1 := by
      unfold Builtin.Int.intBits
      rw [if_neg (by simpa using h0)]
      rfl
    rw [hb]
    exact (Nat.log2_lt h0)
theorem mul_cc {i j : Int} (hi : Builtin.Int.intBits i ≤ 1048576) (hj : Builtin.Int.intBits j ≤ 1048576) : IntMulOk i j :=
  CMulX.ok (show (Builtin.Int.intBits i : Int) + (Builtin.Int.intBits j : Int) ≤ 134217728 by omega)
theorem abs_pow (n : Nat) : ((1 : Int) * 2 ^ n).natAbs = 2 ^ n := by
  rw [Int.one_mul, Int.natAbs_pow]
  rfl
/-! cells of a script by their places -/
theorem get_int {ns : List Int} {i : Nat} (hi : i < ns.length) : atI (ns.map V.int) (i : Int) = some (.int ns[i]) := atI_nat (by rw [List.getElem?_map, List.getElem?_eq_getElem hi]; rfl)
theorem atI_lastD {bs : List Int} (h : bs ≠ []) : atI (bs.map V.int) (-1) = some (.int (bs.getLastD 0)) := by
  obtain ⟨r, x, rfl⟩ : ∃ r x, bs = r ++ [x] := ⟨bs.dropLast, bs.getLast h, (List.dropLast_concat_getLast h).symm⟩
  rw [List.map_append]
  have e : (r ++ [x]).getLastD 0 = x := by simp
  rw [e]
  exact atI_last _ _
theorem atI_prev {xs : List Int} {k : Nat} (hk : k < xs.length) : ∃ c, atI (xs.map V.int) ((k : Int) - 1) = some (.int c) ∧ c ∈ xs := by
  cases k with
  | zero =>
    have hne : xs ≠ [] := fun z => by
      rw [z] at hk
      exact absurd hk (by decide)
    refine ⟨xs.getLastD 0, atI_lastD hne, ?_⟩
    obtain ⟨r, x, rfl⟩ : ∃ r x, xs = r ++ [x] := ⟨xs.dropLast, xs.getLast hne, (List.dropLast_concat_getLast hne).symm⟩
    simp
  | succ j =>
    have hj : j < xs.length := by omega
    refine ⟨xs[j], ?_, List.getElem_mem hj⟩
    have e : ((j + 1 : Nat) : Int) - 1 = (j : Int) := by omega
    rw [e]
    exact get_int hj
theorem cells_bits {ns : List Int} (h : ∀ z ∈ ns, Builtin.Int.intBits z ≤ 1048576) : ∀ z ∈ cells ns, Builtin.Int.intBits z ≤ 1048576 := by
  intro z hz
  rcases List.mem_append.mp hz with q | q
  · exact h z (List.mem_of_mem_take q)
  · have e : z = 0 := List.mem_singleton.mp q
    rw [e]
    decide
/-! texts compared -/
theorem w_itS1 {x y : Str} {A B : Prop} (e : decide (x = y) = true) (h : A) : if decide (V.str x = V.str y) = true then A else B := by
  rw [of_decide_eq_true e, decide_eq_true rfl]
  exact w_itT h
theorem w_itS0 {x y : Str} {A B : Prop} (e : decide (x = y) = false) (h : B) : if decide (V.str x = V.str y) = true then A else B := by
  rw [decide_eq_false (fun z => of_decide_eq_false e (V.str.inj z))]
  exact w_itF h
theorem w_itN1 {x y : Str} {A B : Prop} (e : decide (x = y) = true) (h : B) : if (!decide (V.str x = V.str y)) = true then A else B := by
  rw [of_decide_eq_true e, decide_eq_true rfl]
  exact w_itF h
theorem w_itN0 {x y : Str} {A B : Prop} (e : decide (x = y) = false) (h : A) : if (!decide (V.str x = V.str y)) = true then A else B := by
  rw [decide_eq_false (fun z => of_decide_eq_false e (V.str.inj z))]
  exact w_itT h
theorem w_itS {x y : Str} {A B : Prop} (h1 : x = y → A) (h2 : x ≠ y → B) : if decide (V.str x = V.str y) = true then A else B := by
  by_cases e : x = y
  · exact w_itS1 (decide_eq_true e) (h1 e)
  · exact w_itS0 (decide_eq_false e) (h2 e)
theorem w_itSN {x y : Str} {A B : Prop} (h1 : x ≠ y → A) (h2 : x = y → B) : if (!decide (V.str x = V.str y)) = true then A else B := by
  by_cases e : x = y
  · exact w_itN1 (decide_eq_true e) (h2 e)
  · exact w_itN0 (decide_eq_false e) (h1 e)
/-! dicts asked -/
def DG1 (x y : V) (H2 : Hp) (Q : VK) : Prop := ∃ a v, x = .ref a ∧ DGet H2 a y (some v) ∧ Q v H2
theorem w_dget {td ty : TE} {σ : L2.St} {H : Hp} {Q : VK} (h : td σ H fun x H1 => ty σ H1 fun y H2 => DG1 x y H2 Q) : tDGet td ty σ H Q := h
theorem w_DG1 {a : Addr} {kvs : List (Key × V)} {n : Str} {v : V} {H : Hp} {Q : VK} (e : H a = some (.dK kvs)) (g : valV kvs (Sum.inr n) = some v) (q : Q v H) : DG1 (.ref a) (.str n) H Q :=
  ⟨a, v, rfl, by rw [← g]; exact DGet.k (k := Sum.inr n) e, q⟩
/-! lists in step -/
def A2 {α β : Type} (R : α → β → Prop) (xs : List α) (ys : List β) : Prop := xs.length = ys.length ∧ ∀ (i : Nat) x y, xs[i]? = some x → ys[i]? = some y → R x y
theorem A2.nil {α β : Type} {R : α → β → Prop} : A2 R [] [] := ⟨rfl, fun i x y h => by cases h⟩
theorem A2.snoc {α β : Type} {R : α → β → Prop} {xs : List α} {ys : List β} {x : α} {y : β} (h : A2 R xs ys) (r : R x y) : A2 R (xs ++ [x]) (ys ++ [y]) := by
  refine ⟨by rw [List.length_append, List.length_append, h.1]; rfl, fun i u v hu hv => ?_⟩
  rcases Nat.lt_trichotomy i xs.length with q | q | q
  · rw [List.getElem?_append_left q] at hu
    rw [List.getElem?_append_left (by rw [← h.1]; exact q)] at hv
    exact h.2 i u v hu hv
  · subst q
    rw [List.getElem?_append_right (Nat.le_refl _), Nat.sub_self] at hu
    rw [h.1, List.getElem?_append_right (Nat.le_refl _), Nat.sub_self] at hv
    cases hu
    cases hv
    exact r
  · rw [List.getElem?_eq_none (by rw [List.length_append]; exact q)] at hu
    cases hu
theorem A2.mono {α β : Type} {R S : α → β → Prop} {xs : List α} {ys : List β} (h : A2 R xs ys) (k : ∀ x y, R x y → S x y) : A2 S xs ys := ⟨h.1, fun i x y a b => k x y (h.2 i x y a b)⟩
theorem A2.get {α β : Type} {R : α → β → Prop} {xs : List α} {ys : List β} {i : Nat} {x : α} (h : A2 R xs ys) (e : xs[i]? = some x) : ∃ y, ys[i]? = some y ∧ R x y := by
  have hi := (List.getElem?_eq_some_iff.mp e).1
  have hj : i < ys.length := by rw [← h.1]; exact hi
  exact ⟨ys[i], List.getElem?_eq_getElem hj, h.2 i x _ e (List.getElem?_eq_getElem hj)⟩
theorem A2.get2 {α β : Type} {R : α → β → Prop} {xs : List α} {ys : List β} {i : Nat} {y : β} (h : A2 R xs ys) (e : ys[i]? = some y) : ∃ x, xs[i]? = some x ∧ R x y := by
  have hi := (List.getElem?_eq_some_iff.mp e).1
  have hj : i < xs.length := by rw [h.1]; exact hi
  exact ⟨xs[i], List.getElem?_eq_getElem hj, h.2 i _ y (List.getElem?_eq_getElem hj) e⟩
theorem mul_ok2 {i j : Int} {n : Nat} (hi : Builtin.Int.intBits i ≤ 1048576) (hj : j.natAbs < 2 ^ n) (hn : n ≤ 1000000) : IntMulOk i j := mul_ok hi hj hn
/-! the rules with the written part named (within a comprehension it must be) -/
theorem ix_tupK {X : Cx} (K : PySem.W.Frag) (e : X.K = K := by rfl) : IxR X (rIxT K) := by subst e; exact ix_tup
theorem ix_listK {X : Cx} (K : PySem.W.Frag) (e : X.K = K := by rfl) : IxR X (rIxL K) := by subst e; exact ix_list
theorem c_lenK {X : Cx} (K : PySem.W.Frag) (e : X.K = K := by rfl) : CallR X (.builtin "len") (rLen K) := by subst e; exact c_len
theorem c_listK {X : Cx} (K : PySem.W.Frag) (e : X.K = K := by rfl) : CallR X (.type "list") (rListOf K) := by subst e; exact c_list
theorem c_isiK {X : Cx} (K : PySem.W.Frag) (e : X.K = K := by rfl) : CallR X (.builtin "isinstance") (rIsi K) := by subst e; exact call_isi
/-- a comprehension over a list that stands, whose elements leave the heap -/
theorem lc_l {K : PySem.W.Frag} {σ : L2.St} {H : Hp} {Q : VK} {te : TE} {vs : List Nat} {a : Addr} {j : Nat} (xs ys : List V) (hlen : ys.length = xs.length) (hS : SqL K H a xs) (hz : xs.length ≤ 1000000) (hw : ∀ x, wipe ((wipe σ vs).set j (some x)) vs = wipe σ vs)
    (he : ∀ (i : Nat) x y H' (Q' : VK), xs[i]? = some x → ys[i]? = some y → Same H H' → Q' y H' → te ((wipe σ vs).set j (some x)) H' Q')
    (q : ∀ p H', H p = none → Same H H' → H' p = some (.lst ys) → Q (.ref p) H') : LcB (Itl K a) (gName j) tYes te vs σ Q H := fun p hp =>
  lc_list (xs := xs) (fun i H' => H' = upd H p (.lst (ys.take i))) rfl (fun i H' _ e => by
    subst e
    exact (same_upd hp).seq hS) (fun i x H' hx e => by
    subst e
    have hi := (List.getElem?_eq_some_iff.mp hx).1
    have hy : ys[i]? = some ys[i] := List.getElem?_eq_getElem (by omega)
    show wipe ((wipe σ vs).set j (some x)) vs = wipe σ vs ∧ te ((wipe σ vs).set j (some x)) (upd H p (.lst (ys.take i)))
      (fun y H4 => ∃ acc, H4 p = some (.lst acc) ∧ acc.length < sizeLine ∧ upd H4 p (.lst (acc ++ [y])) = upd H p (.lst (ys.take (i + 1))))
    refine ⟨hw _, he i x _ _ _ hx hy (same_upd hp) ⟨_, upd_same, ?_, ?_⟩⟩
    · rw [List.length_take]
      exact Nat.lt_of_lt_of_le (show min i ys.length < 16777216 by omega) (by rw [sizeLine_eq]; exact Nat.le_refl _)
    · rw [upd_upd, List.take_add_one, hy]
      rfl) fun H' e => by
    subst e
    refine q p _ hp (same_upd hp) ?_
    rw [upd_same, List.take_of_length_le (by omega)]
/-- x // (1 << k) -/
def rDivP : R2 := fun x y H Q => ∃ (i : Int) (k : Nat), x = .int i ∧ y = .int (1 * 2 ^ k) ∧ k ≤ 5000 ∧ Q (.int (i / 2 ^ k)) H
theorem op_divP {X : Cx} : OpR X (binaryOp .FloorDiv) rDivP := by
  intro pins s σ H x y v u Q I rx ry h
  obtain ⟨i, k, rfl, rfl, hk, q⟩ := h
  refine op_fdivW pins s σ H _ _ v u Q I rx ry ⟨_, _, rfl, rfl, ?_, ?_⟩
  · refine wide_div (b := k + 1) (by rw [Int.one_mul]; exact p2pos k) ?_ (Nat.succ_pos _) (by omega)
    rw [abs_pow]
    exact Nat.pow_lt_pow_right (by decide) (Nat.lt_succ_self k)
  · show Q (.int (i / (1 * 2 ^ k))) H
    rw [Int.one_mul]
    exact q
theorem w_divP {H : Hp} {Q : VK} {i : Int} {k : Nat} (h : k ≤ 5000) (q : Q (.int (i / 2 ^ k)) H) : rDivP (.int i) (.int (1 * 2 ^ k)) H Q := ⟨i, k, rfl, rfl, h, q⟩
theorem hp_upd {H : Hp} {a b : Addr} {o u : HO} (ne : b ≠ a) (h : H b = some o) : upd H a u b = some o := by rw [upd_ne ne]; exact h
theorem hp_upd2 {H : Hp} {a b : Addr} {o u : HO} (ne : a ≠ b) (h : H b = some o) : upd H a u b = some o := hp_upd ne.symm h
/-- a comprehension over a range, of whose elements something is known -/
theorem lc_rx {σ : L2.St} {H : Hp} {Q : VK} {te : TE} {vs : List Nat} {lo : Int} {n j : Nat} (P : V → Prop) (hn : n < 1000000) (hw : ∀ x, wipe ((wipe σ vs).set j (some x)) vs = wipe σ vs)
    (he : ∀ (i : Nat) H' (Q' : VK), i < n → Same H H' → (∀ y, P y → Q' y H') → te ((wipe σ vs).set j (some (.int (lo + (i : Int))))) H' Q')
    (q : ∀ ys p H', ys.length = n → (∀ y ∈ ys, P y) → H p = none → Same H H' → H' p = some (.lst ys) → Q (.ref p) H') : LcB (Itr lo n) (gName j) tYes te vs σ Q H := fun p hp =>
  lc_range (lo := lo) (n := n) (fun i H' => ∃ ys : List V, ys.length = i ∧ (∀ y ∈ ys, P y) ∧ H' = upd H p (.lst ys)) ⟨[], rfl, fun y h => (by cases h), rfl⟩ (fun i H' hi e => by
    obtain ⟨ys, hl, hP, rfl⟩ := e
    show wipe ((wipe σ vs).set j (some (V.int (lo + (i : Int))))) vs = wipe σ vs ∧ te ((wipe σ vs).set j (some (V.int (lo + (i : Int))))) (upd H p (.lst ys))
      (fun y H4 => ∃ acc, H4 p = some (.lst acc) ∧ acc.length < sizeLine ∧ ∃ zs : List V, zs.length = i + 1 ∧ (∀ y ∈ zs, P y) ∧ upd H4 p (.lst (acc ++ [y])) = upd H p (.lst zs))
    refine ⟨hw _, he i _ _ hi (same_upd hp) fun y hy => ⟨ys, upd_same, ?_, ys ++ [y], ?_, ?_, ?_⟩⟩
    · exact Nat.lt_of_lt_of_le (show ys.length < 16777216 by omega) (by rw [sizeLine_eq]; exact Nat.le_refl _)
    · rw [List.length_append, hl]
      rfl
    · intro z hz
      rcases List.mem_append.mp hz with k | k
      · exact hP z k
      · rw [List.mem_singleton.mp k]
        exact hy
    · rw [upd_upd]) fun H' e => by
    obtain ⟨ys, hl, hP, rfl⟩ := e
    exact q ys p _ hl hP hp (same_upd hp) upd_same
/-- .. over a list -/
theorem lc_lx {K : PySem.W.Frag} {σ : L2.St} {H : Hp} {Q : VK} {te : TE} {vs : List Nat} {a : Addr} {j : Nat} (xs : List V) (P : V → Prop) (hS : SqL K H a xs) (hz : xs.length ≤ 1000000) (hw : ∀ x, wipe ((wipe σ vs).set j (some x)) vs = wipe σ vs)
    (he : ∀ (i : Nat) x H' (Q' : VK), xs[i]? = some x → Same H H' → (∀ y, P y → Q' y H') → te ((wipe σ vs).set j (some x)) H' Q')
    (q : ∀ ys p H', ys.length = xs.length → (∀ y ∈ ys, P y) → H p = none → Same H H' → H' p = some (.lst ys) → Q (.ref p) H') : LcB (Itl K a) (gName j) tYes te vs σ Q H := fun p hp =>
  lc_list (xs := xs) (fun i H' => ∃ ys : List V, ys.length = i ∧ (∀ y ∈ ys, P y) ∧ H' = upd H p (.lst ys)) ⟨[], rfl, fun y h => (by cases h), rfl⟩ (fun i H' _ e => by
    obtain ⟨ys, hl, hP, rfl⟩ := e
    exact (same_upd hp).seq hS) (fun i x H' hx e => by
    obtain ⟨ys, hl, hP, rfl⟩ := e
    have hi := (List.getElem?_eq_some_iff.mp hx).1
    show wipe ((wipe σ vs).set j (some x)) vs = wipe σ vs ∧ te ((wipe σ vs).set j (some x)) (upd H p (.lst ys))
      (fun y H4 => ∃ acc, H4 p = some (.lst acc) ∧ acc.length < sizeLine ∧ ∃ zs : List V, zs.length = i + 1 ∧ (∀ y ∈ zs, P y) ∧ upd H4 p (.lst (acc ++ [y])) = upd H p (.lst zs))
    refine ⟨hw _, he i x _ _ hx (same_upd hp) fun y hy => ⟨ys, upd_same, ?_, ys ++ [y], ?_, ?_, ?_⟩⟩
    · exact Nat.lt_of_lt_of_le (show ys.length < 16777216 by omega) (by rw [sizeLine_eq]; exact Nat.le_refl _)
    · rw [List.length_append, hl]
      rfl
    · intro z hz
      rcases List.mem_append.mp hz with k | k
      · exact hP z k
      · rw [List.mem_singleton.mp k]
        exact hy
    · rw [upd_upd]) fun H' e => by
    obtain ⟨ys, hl, hP, rfl⟩ := e
    exact q ys p _ hl hP hp (same_upd hp) upd_same
/-- values that are all of one form -/
theorem all_map {α : Type} {f : α → V} {R : α → Prop} : ∀ {ys : List V}, (∀ y ∈ ys, ∃ x, y = f x ∧ R x) → ∃ xs : List α, ys = xs.map f ∧ ∀ x ∈ xs, R x
  | [], _ => ⟨[], rfl, fun x h => by cases h⟩
  | y :: r, h => by
    obtain ⟨x, rfl, hx⟩ := h y (List.mem_cons_self ..)
    obtain ⟨xs, rfl, hr⟩ := all_map (f := f) (R := R) fun z hz => h z (List.mem_cons_of_mem _ hz)
    exact ⟨x :: xs, rfl, fun z hz => by
      rcases List.mem_cons.mp hz with e | e
      · rw [e]; exact hx
      · exact hr z e⟩
/-- int(a truth value) -/
def rIntB : List V → Hp → VK → Prop := fun xs H Q => ∃ k : Bool, xs = [.bl k] ∧ Q (.int (if k then 1 else 0)) H
theorem c_intB {X : Cx} : CallR X (.type "int") rIntB := by
  intro pins s σ H xs us Q I r h
  obtain ⟨k, rfl, q⟩ := h
  exact call_int1 pins s σ H _ us Q I r (.inr ⟨k, rfl, q⟩)
theorem w_intB {H : Hp} {Q : VK} {k : Bool} (q : Q (.int (if k then 1 else 0)) H) : rIntB [.bl k] H Q := ⟨k, rfl, q⟩
theorem w_ixS {z : Str} {i : Int} {c : Nat} {H : Hp} {Q : VK} (hz : z.length ≤ 1000000) (h : atI z.cps.toList i = some c) (q : Q (.str ⟨#[c]⟩) H) : rIxS (.str z) (.int i) H Q :=
  ⟨z, i, c, rfl, rfl, Nat.le_trans hz (by rw [sizeLine_eq]; decide), h, q⟩
theorem w_slS {z : Str} {lo hi : Option Int} {H : Hp} {Q : VK} (hz : z.length ≤ 1000000) (q : Q (.str (cutS z lo hi)) H) : rSlS (.str z) lo hi H Q := ⟨z, rfl, Nat.le_trans hz (by rw [sizeLine_eq]; decide), q⟩
/-- ''.join -/
def rJoin (K : PySem.W.Frag) : V → List V → Hp → VK → Prop := fun x xs H Q => ∃ a p, ∃ ys : List Str, x = .str a ∧ xs = [.ref p] ∧ (SqL K H p (ys.map V.str) ∨ SqT K H p (ys.map V.str)) ∧
    (ys.map (·.length)).sum + ys.length * a.length ≤ 16777216 ∧ Q (.str (Txt.join a ys)) H
theorem p_join {X : Cx} {o e : Expr} {to te : TE} {apos pos : Pos} (K : PySem.W.Frag) (ho : PE X o to) (he : PE X e te) (hs : starEach [e] X.env = [(false, eval e X.env)] := by rfl) (hbase : attributeBase o "join" X.env (eval o X.env) = eval o X.env := by rfl) (hline : (apos.endLine == pos.line) = true := by rfl) (hK : X.K = K := by rfl) :
    PE X (.Call (.Attribute o "join" apos) [e] [] pos) (tM1 (rJoin K) to te) := by
  subst hK
  exact pe_join ho he hs hbase hline
def M11 (f : V → List V → Hp → VK → Prop) (te : TE) (σ : L2.St) (Q : VK) (x : V) (H1 : Hp) : Prop := (∃ a, x = .str a) ∧ te σ H1 fun y H2 => f x [y] H2 Q
theorem w_tm1 {f : V → List V → Hp → VK → Prop} {to te : TE} {σ : L2.St} {H : Hp} {Q : VK} (h : to σ H fun x H1 => M11 f te σ Q x H1) : tM1 f to te σ H Q := h
theorem w_M11 {f : V → List V → Hp → VK → Prop} {te : TE} {σ : L2.St} {H : Hp} {Q : VK} {a : Str} (h : te σ H fun y H2 => f (.str a) [y] H2 Q) : M11 f te σ Q (.str a) H := ⟨⟨a, rfl⟩, h⟩
theorem w_join {K : PySem.W.Frag} {H : Hp} {Q : VK} {a : Str} {p : Addr} {ys : List Str} (h : SqL K H p (ys.map V.str)) (hz : (ys.map (·.length)).sum + ys.length * a.length ≤ 16777216) (q : Q (.str (Txt.join a ys)) H) : rJoin K (.str a) [.ref p] H Q :=
  ⟨a, p, ys, rfl, rfl, .inl h, hz, q⟩
/-! x in a list, in a tuple -/
theorem w_inL {K : PySem.W.Frag} {H : Hp} {Q : VK} {x : V} {p : Addr} {xs : List V} (h : SqL K H p xs) (hx : flatV x = true) (ha : xs.all flatV = true) (q : Q (.bl (inV x xs)) H) : rIn K false x (.ref p) H Q := ⟨p, xs, rfl, .inl h, hx, ha, q⟩
theorem w_inT {K : PySem.W.Frag} {H : Hp} {Q : VK} {x : V} {p : Addr} {xs : List V} (h : SqT K H p xs) (hx : flatV x = true) (ha : xs.all flatV = true) (q : Q (.bl (inV x xs)) H) : rIn K false x (.ref p) H Q := ⟨p, xs, rfl, .inr h, hx, ha, q⟩
theorem op_inK {X : Cx} (K : PySem.W.Frag) (e : X.K = K := by rfl) : OpR X (compareOp .In) (rIn K false) := by subst e; exact op_in_seq
theorem w_niL {K : PySem.W.Frag} {H : Hp} {Q : VK} {x : V} {p : Addr} {xs : List V} (h : SqL K H p xs) (hx : flatV x = true) (ha : xs.all flatV = true) (q : Q (.bl (!inV x xs)) H) : rIn K true x (.ref p) H Q := ⟨p, xs, rfl, .inl h, hx, ha, q⟩
theorem w_niT {K : PySem.W.Frag} {H : Hp} {Q : VK} {x : V} {p : Addr} {xs : List V} (h : SqT K H p xs) (hx : flatV x = true) (ha : xs.all flatV = true) (q : Q (.bl (!inV x xs)) H) : rIn K true x (.ref p) H Q := ⟨p, xs, rfl, .inr h, hx, ha, q⟩
theorem op_niK {X : Cx} (K : PySem.W.Frag) (e : X.K = K := by rfl) : OpR X (compareOp .NotIn) (rIn K true) := by subst e; exact op_notIn_seq
end Dpr

namespace Dpr
open PySem PySem.Spec PyProof.Rows L2 PySem.SeqAt
open MeetsSeq MeetsSeq2 MeetsSeq3 SeqRoads2
/-! != of two lists whose items are alike -/
abbrev LstO (d : Option Addr) (xs : Array Value) (n : Nat) (z : Array (Option Value)) : Obj := { cls := .type "list", dict := d, data := .seq xs n, slots := z }
theorem unlike_loop {pr : Program} {wd : World} {p q : Addr} {xs ys : Array Value} {n m : Nat} {d d' : Option Addr} {z z' : Array (Option Value)} (same : xs.size = ys.size) : ∀ (left i : Nat), xs.size - i = left →
    MeetsIn pr wd (Builtin.«list.__eq__.loop» ⟨[.ref p, .ref q, rawInt i, rawInt 3], []⟩) fun A R s => s.heap.get? p = some (LstO d xs n z) ∧ s.heap.get? q = some (LstO d' ys m z') ∧
      (∀ j (u : j < xs.size) (v : j < ys.size), EqP pr wd A.in1 s xs[j] ys[j] true) ∧ R (.ok (.ret (.bool false))) s := by
  intro left
  induction left with
  | zero =>
    intro i gone A R st ⟨gp, gq, alike, r⟩
    obtain ⟨hp, gl, dd, tk, os⟩ := st
    wp_walk using AutoSeq1.wpAny_loadPart' gp, AutoSeq1.wpAny_loadPart' gq
    have n1 : xs[((i : Nat) : Int).toNat]? = none := Array.getElem?_eq_none (by rw [Int.toNat_natCast]; omega)
    have n2 : ys[((i : Nat) : Int).toNat]? = none := Array.getElem?_eq_none (by rw [Int.toNat_natCast]; omega)
    rw [n1, n2]
    wp_walk using AutoSeq1.wpAny_loadPart' gp, AutoSeq1.wpAny_loadPart' gq
    show R (.ok (.ret (.bool (xs.size != ys.size)))) _
    rw [same, bne_self_eq_false]
    exact r
  | succ left again =>
    intro i gone A R st ⟨gp, gq, alike, r⟩
    obtain ⟨hp, gl, dd, tk, os⟩ := st
    wp_walk using AutoSeq1.wpAny_loadPart' gp, AutoSeq1.wpAny_loadPart' gq
    have u : i < xs.size := by omega
    have v : i < ys.size := by omega
    have n1 : xs[((i : Nat) : Int).toNat]? = some xs[i] := by rw [Int.toNat_natCast]; exact Array.getElem?_eq_getElem u
    have n2 : ys[((i : Nat) : Int).toNat]? = some ys[i] := by rw [Int.toNat_natCast]; exact Array.getElem?_eq_getElem v
    rw [n1, n2]
    refine wpAny_bind (alike i u v _ _ ?_)
    wp_walk
    rw [show ((i : Int) + 1) = ((i + 1 : Nat) : Int) from rfl]
    exact ⟨plainId_quiet plain_eq_loop _, codeAny_builtin entry_eq_loop (by rw [Around.under_plainId plain_eq_loop _]; exact again (i + 1) (by omega) A R _ ⟨gp, gq, alike, r⟩)⟩
theorem unlike_list {pr : Program} {wd : World} {p q : Addr} {xs ys : Array Value} {n m : Nat} {d d' : Option Addr} {z z' : Array (Option Value)} (same : xs.size = ys.size) :
    MeetsIn pr wd (Builtin.«list.__ne__» ⟨[.ref p, .ref q], []⟩) fun A R s => s.heap.get? p = some (LstO d xs n z) ∧ s.heap.get? q = some (LstO d' ys m z') ∧
      (∀ j (u : j < xs.size) (v : j < ys.size), EqP pr wd A.in1 s xs[j] ys[j] true) ∧ R (.ok (.ret (.bool false))) s := by
  intro A R st ⟨gp, gq, alike, r⟩
  obtain ⟨hp, gl, dd, tk, os⟩ := st
  have sub := AutoSeq1.sub_list_list
  have nosz : ¬ (xs.size != ys.size) = true := by rw [same, bne_self_eq_false]; exact Bool.false_ne_true
  wp_walk using AutoSeq1.wpAny_loadPart' gp, AutoSeq1.wpAny_loadPart' gq
  exact ⟨plainId_quiet plain_eq_loop _, codeAny_builtin entry_eq_loop (by rw [Around.under_plainId plain_eq_loop _]; exact unlike_loop same _ 0 rfl A R _ ⟨gp, gq, alike, r⟩)⟩
theorem rc_unlike {pr : Program} {wd : World} {A : Around} {s : Shared} {p q : Addr} {xs ys : Array Value} (lp : s.heap.IsList p xs) (lq : s.heap.IsList q ys) (same : xs.size = ys.size) (room : A.units < cLine)
    (alike : ∀ j (u : j < xs.size) (v : j < ys.size), EqP pr wd A.in1 s xs[j] ys[j] true) (E Q : Value → Shared → Prop) (h : Q (.bool false) s) : wpAny (model pr wd) A (richCompare .NotEq (.ref p) (.ref q)) Q E s := by
  obtain ⟨⟨c, d, t, z⟩, gp, cp, n, tp⟩ := id lp
  obtain ⟨⟨c', d', t', z'⟩, gq, cq, m, tq⟩ := id lq
  simp only at cp tp cq tq
  subst cp tp cq tq
  have ip : s.TypeIs (.ref p) "list" := ⟨_, gp, rfl⟩
  have iq : s.TypeIs (.ref q) "list" := ⟨_, gq, rfl⟩
  exact wpAny_richCompare_same_room (op := .NotEq) ip iq F.slot_list_ne (call_meetsIn F.slot_list_ne ip F.entry_list_ne (F.args_list_ne_2 _ _) (unlike_list same) ⟨gp, gq, alike, show Value.bool false ≠ Value.notImplemented ∧ Q (.bool false) s from ⟨(fun z => nomatch z), h⟩⟩) room
/-- a != b, two lists of alike items -/
def rNeV (K : PySem.W.Frag) : R2 := fun x y H Q => ∃ n, n ≤ 60 ∧ (∃ a b xs ys, x = .ref a ∧ y = .ref b ∧ SqL K H a xs ∧ SqL K H b ys ∧ Paired (EqV K H n) xs ys) ∧ Q (.bl false) H
theorem op_neV {X : Cx} (hu : X.A.units + 64 < cLine) (K : PySem.W.Frag) (e : X.K = K := by rfl) : OpR X (compareOp .NotEq) (rNeV K) := by
  subst e
  intro pins s σ H x y v u Q I rx ry h
  obtain ⟨n, hn, ⟨a, b, xs, ys, rfl, rfl, ha, hb, hp⟩, q⟩ := h
  cases (show v = Value.ref a from rx)
  cases (show u = Value.ref b from ry)
  obtain ⟨us, r1, p1, _⟩ := I.list ha
  obtain ⟨ws, r2, p2, _⟩ := I.list hb
  have sz : us.toArray.size = ws.toArray.size := by
    rw [List.size_toArray, List.size_toArray, ← r1.length, ← r2.length]
    exact Paired.length hp
  refine rc_unlike p1.isList p2.isList sz (by omega) (fun j u v => ?_) _ _ ⟨.bl false, H, I, rfl, q⟩
  have k := items_run (eqV_run I n X.A.in1 (by show X.A.units + 1 + n < cLine; omega)) hp r1 r2 j (by simpa using u) (by simpa using v)
  simpa using k
end Dpr

namespace Dpr
open PySem PySem.Spec PyProof.Rows L2
/-! ### rows of gates -/
inductive Bop where
  | and | or | xor
  deriving DecidableEq
inductive Row where
  | fix (b : Int) | inn (n : Str) (k : Nat) | inv (a : Nat) | bin (o : Bop) (a b : Nat) | lat (a : Nat)
  deriving DecidableEq
def bopS : Bop → Str
  | .and => "and" | .or => "or" | .xor => "xor"
def rowV : Row → List V
  | .fix b => [.str "fix", .int b]
  | .inn n k => [.str "in", .str n, .int (k : Int)]
  | .inv a => [.str "not", .int (a : Int)]
  | .bin o a b => [.str (bopS o), .int (a : Int), .int (b : Int)]
  | .lat a => [.str "latch", .int (a : Int)]
def RowAt (H : Hp) (p : Addr) (r : Row) : Prop := H p = some (.tup (rowV r))
/-- a list of rows that may be read -/
def RowsL (K : PySem.W.Frag) (H : Hp) (a : Addr) (rs : List Row) : Prop := ∃ ps : List Addr, SqL K H a (ps.map V.ref) ∧ A2 (RowAt H) ps rs
/-- one of our own, that may change -/
def RowsM (H : Hp) (a : Addr) (rs : List Row) : Prop := ∃ ps : List Addr, H a = some (.lst (ps.map V.ref)) ∧ A2 (RowAt H) ps rs
theorem RowsL.same {K : PySem.W.Frag} {H H' : Hp} {a : Addr} {rs : List Row} (s : Same H H') (h : RowsL K H a rs) : RowsL K H' a rs := by
  obtain ⟨ps, h1, h2⟩ := h
  exact ⟨ps, s.seq h1, h2.mono fun p r e => s _ _ e⟩
theorem RowsM.same {H H' : Hp} {a : Addr} {rs : List Row} (s : Same H H') (h : RowsM H a rs) : RowsM H' a rs := by
  obtain ⟨ps, h1, h2⟩ := h
  exact ⟨ps, s _ _ h1, h2.mono fun p r e => s _ _ e⟩
theorem RowsM.read {K : PySem.W.Frag} {H : Hp} {a : Addr} {rs : List Row} (h : RowsM H a rs) : RowsL K H a rs := by
  obtain ⟨ps, h1, h2⟩ := h
  exact ⟨ps, SqL.of h1, h2⟩
/-! numbers by names -/
def wkv (ws : List (Str × Int)) : List (Key × V) := ws.map fun p => (Sum.inr p.1, V.int p.2)
def lookW (ws : List (Str × Int)) (n : Str) : Option Int := (ws.find? fun p => decide (p.1 = n)).map (·.2)
theorem valV_wkv (n : Str) : ∀ ws : List (Str × Int), valV (wkv ws) (Sum.inr n) = (lookW ws n).map V.int
  | [] => rfl
  | p :: r => by
    have ih := valV_wkv n r
    by_cases e : p.1 = n
    · rw [show wkv (p :: r) = (Sum.inr p.1, V.int p.2) :: wkv r from rfl, valV_pos (by rw [e])]
      unfold lookW
      rw [List.find?_cons_of_pos (by simpa using e)]
      rfl
    · rw [show wkv (p :: r) = (Sum.inr p.1, V.int p.2) :: wkv r from rfl, valV_neg (fun z => e (Sum.inr.inj z)), ih]
      unfold lookW
      rw [List.find?_cons_of_neg (by simpa using e)]
theorem lookW_hit {n : Str} {v : Int} {ws : List (Str × Int)} : lookW ((n, v) :: ws) n = some v := by
  unfold lookW
  rw [List.find?_cons_of_pos (by simp)]
  rfl
theorem lookW_skip {m n : Str} {v : Int} {ws : List (Str × Int)} (h : decide (m = n) = false) : lookW ((m, v) :: ws) n = lookW ws n := by
  unfold lookW
  rw [List.find?_cons_of_neg (by simpa using h)]
/-! what a gate tells -/
def bopI (o : Bop) (x y : Int) : Int := match o with
  | .and => x * y
  | .or => x + y - x * y
  | .xor => (x + y) % 2
def gateI (ws : List (Str × Int)) (bits : List Int) : Row → Int
  | .fix b => b
  | .inn n k => (lookW ws n).getD 0 / 2 ^ k % 2
  | .inv a => 1 - bits.getD a 0
  | .bin o a b => bopI o (bits.getD a 0) (bits.getD b 0)
  | .lat _ => 0
def is01 (x : Int) : Prop := x = 0 ∨ x = 1
def RowOk (N : Str → Prop) (n : Nat) : Row → Prop
  | .fix b => is01 b
  | .inn m k => N m ∧ k < 64
  | .inv a => a < n
  | .bin _ a b => a < n ∧ b < n
  | .lat a => a < n
def noLat : Row → Prop
  | .lat _ => False
  | _ => True
def RowsOk (N : Str → Prop) (rs : List Row) : Prop := ∀ (i : Nat) r, rs[i]? = some r → RowOk N i r
def NoLats (rs : List Row) : Prop := ∀ r ∈ rs, noLat r
/-- all names have numbers -/
def Has (N : Str → Prop) (ws : List (Str × Int)) : Prop := ∀ n, N n → ∃ v, lookW ws n = some v
def toldL (ws : List (Str × Int)) (rs : List Row) : List Int := rs.foldl (fun bits r => bits ++ [gateI ws bits r]) []
theorem toldL_snoc (ws : List (Str × Int)) (rs : List Row) (r : Row) : toldL ws (rs ++ [r]) = toldL ws rs ++ [gateI ws (toldL ws rs) r] := by
  unfold toldL
  rw [List.foldl_append]
  rfl
theorem take_snoc {α : Type} {xs : List α} {i : Nat} {x : α} (h : xs[i]? = some x) : xs.take (i + 1) = xs.take i ++ [x] := by
  rw [List.take_add_one, h]
  rfl
theorem toldL_len (ws : List (Str × Int)) (rs : List Row) : (toldL ws rs).length = rs.length := by
  have key : ∀ (rs : List Row) (acc : List Int), (rs.foldl (fun bits r => bits ++ [gateI ws bits r]) acc).length = acc.length + rs.length := by
    intro rs
    induction rs with
    | nil => intro acc; rfl
    | cons r rs ih =>
      intro acc
      rw [List.foldl_cons, ih, List.length_append, List.length_singleton, List.length_cons]
      omega
  unfold toldL
  rw [key]
  exact Nat.zero_add _
def All01 (bs : List Int) : Prop := ∀ x ∈ bs, is01 x
theorem all01_get {bs : List Int} (h : All01 bs) (i : Nat) : is01 (bs.getD i 0) := by
  rw [List.getD_eq_getElem?_getD]
  cases e : bs[i]? with
  | none => exact .inl rfl
  | some x => exact h x (List.mem_of_getElem? e)
theorem bopI_01 (o : Bop) {x y : Int} (hx : is01 x) (hy : is01 y) : is01 (bopI o x y) := by
  unfold is01 at *
  cases o <;> unfold bopI <;> rcases hx with rfl | rfl <;> rcases hy with rfl | rfl <;> decide
theorem gateI_01 {N : Str → Prop} {n : Nat} {r : Row} (ws : List (Str × Int)) {bs : List Int} (h : All01 bs) (ok : RowOk N n r) : is01 (gateI ws bs r) := by
  cases r with
  | fix b => exact ok
  | inn m k =>
    show (lookW ws m).getD 0 / 2 ^ k % 2 = 0 ∨ (lookW ws m).getD 0 / 2 ^ k % 2 = 1
    omega
  | inv a =>
    have q : bs.getD a 0 = 0 ∨ bs.getD a 0 = 1 := all01_get h a
    show 1 - bs.getD a 0 = 0 ∨ 1 - bs.getD a 0 = 1
    omega
  | bin o a b => exact bopI_01 o (all01_get h a) (all01_get h b)
  | lat a => exact .inl rfl
theorem toldL_01 {N : Str → Prop} (ws : List (Str × Int)) {rs : List Row} (ok : RowsOk N rs) : ∀ i, All01 (toldL ws (rs.take i))
  | 0 => fun x hx => by cases hx
  | i + 1 => by
    have ih := toldL_01 ws ok i
    cases e : rs[i]? with
    | none =>
      have : rs.take (i + 1) = rs.take i := by rw [List.take_add_one, e]; exact List.append_nil _
      rw [this]
      exact ih
    | some r =>
      rw [take_snoc e, toldL_snoc]
      intro x hx
      rcases List.mem_append.mp hx with q | q
      · exact ih x q
      · rw [List.mem_singleton.mp q]
        exact gateI_01 ws ih (ok i r e)
/-- a bit by its place -/
theorem bit_get {bs : List Int} {a : Nat} (h : a < bs.length) : atI (bs.map V.int) (a : Int) = some (.int (bs.getD a 0)) := by
  rw [get_int h, List.getD_eq_getElem?_getD, List.getElem?_eq_getElem h]
  rfl
/-! rows that are put -/
theorem rowAt_upd {H : Hp} {a p : Addr} {xs ys : List V} {r : Row} (h : H a = some (.lst xs)) (hp : RowAt H p r) : RowAt (upd H a (.lst ys)) p r := by
  have ne : p ≠ a := fun e => by
    rw [e] at hp
    exact absurd (hp.symm.trans h) (fun z => by cases z)
  show upd H a (.lst ys) p = _
  rw [upd_ne ne]
  exact hp
theorem RowsM.push {H : Hp} {a p : Addr} {rs : List Row} {r : Row} {ps : List Addr} (h : H a = some (.lst (ps.map V.ref))) (hA : A2 (RowAt H) ps rs) (hp : RowAt H p r) : RowsM (upd H a (.lst (ps.map V.ref ++ [.ref p]))) a (rs ++ [r]) :=
  ⟨ps ++ [p], by rw [upd_same, List.map_append]; rfl, (hA.mono fun _ _ e => rowAt_upd h e).snoc (rowAt_upd h hp)⟩
theorem RowsM.upd {H : Hp} {a b : Addr} {rs : List Row} {xs ys : List V} (ne : a ≠ b) (h : H b = some (.lst xs)) (hr : RowsM H a rs) : RowsM (upd H b (.lst ys)) a rs := by
  obtain ⟨ps, h1, h2⟩ := hr
  exact ⟨ps, by rw [upd_ne ne]; exact h1, h2.mono fun _ _ e => rowAt_upd h e⟩
theorem RowsM.len {H : Hp} {a : Addr} {rs : List Row} (h : RowsM H a rs) : ∃ ps : List Addr, H a = some (.lst (ps.map V.ref)) ∧ A2 (RowAt H) ps rs ∧ ps.length = rs.length := by
  obtain ⟨ps, h1, h2⟩ := h
  exact ⟨ps, h1, h2, h2.1⟩
theorem RowsOk.snoc {N : Str → Prop} {rs : List Row} {r : Row} (h : RowsOk N rs) (k : RowOk N rs.length r) : RowsOk N (rs ++ [r]) := by
  intro i x hx
  rcases Nat.lt_trichotomy i rs.length with q | q | q
  · rw [List.getElem?_append_left q] at hx
    exact h i x hx
  · subst q
    rw [List.getElem?_append_right (Nat.le_refl _), Nat.sub_self] at hx
    cases hx
    exact k
  · rw [List.getElem?_eq_none (by rw [List.length_append]; exact q)] at hx
    cases hx
theorem NoLats.snoc {rs : List Row} {r : Row} (h : NoLats rs) (k : noLat r) : NoLats (rs ++ [r]) := by
  intro x hx
  rcases List.mem_append.mp hx with q | q
  · exact h x q
  · rw [List.mem_singleton.mp q]
    exact k
/-! rows as data -/
def rowD : Row → PyData
  | .fix b => .tuple [.str "fix", .int b]
  | .inn n k => .tuple [.str "in", .str n, .int (k : Int)]
  | .inv a => .tuple [.str "not", .int (a : Int)]
  | .bin o a b => .tuple [.str (bopS o), .int (a : Int), .int (b : Int)]
  | .lat a => .tuple [.str "latch", .int (a : Int)]
theorem dp_row {K : PySem.W.Frag} {H : Hp} {p : Addr} {r : Row} (h : RowAt H p r) : Dp K H (.ref p) (rowD r) := by
  cases r with
  | fix b => exact .tup (SqT.of h) (.cons (.str _) (.cons (.int _) .nil))
  | inn n k => exact .tup (SqT.of h) (.cons (.str _) (.cons (.str _) (.cons (.int _) .nil)))
  | inv a => exact .tup (SqT.of h) (.cons (.str _) (.cons (.int _) .nil))
  | bin o a b => exact .tup (SqT.of h) (.cons (.str _) (.cons (.int _) (.cons (.int _) .nil)))
  | lat a => exact .tup (SqT.of h) (.cons (.str _) (.cons (.int _) .nil))
theorem A2.tail {α β : Type} {R : α → β → Prop} {x : α} {y : β} {xs : List α} {ys : List β} (h : A2 R (x :: xs) (y :: ys)) : R x y ∧ A2 R xs ys :=
  ⟨h.2 0 x y rfl rfl, by have := h.1; simp only [List.length_cons] at this; omega, fun i u v hu hv => h.2 (i + 1) u v hu hv⟩
theorem dp_rows {K : PySem.W.Frag} {H : Hp} : ∀ {ps : List Addr} {rs : List Row}, A2 (RowAt H) ps rs → DpAll K H (ps.map V.ref) (rs.map rowD)
  | [], [], _ => .nil
  | [], _ :: _, h => by have := h.1; simp at this
  | _ :: _, [], h => by have := h.1; simp at this
  | p :: ps, r :: rs, h => .cons (dp_row h.tail.1) (dp_rows h.tail.2)
def NmOk (r : Row) : Prop := match r with
  | .inn n _ => PyData.strOk n = true
  | _ => True
theorem lay_row {r : Row} (h : NmOk r) : PyData.canLay0 (rowD r) = true := by
  cases r with
  | fix b =>
    show (PyData.strOk "fix" && (true && true)) = true
    decide +kernel
  | inn n k =>
    show (PyData.strOk "in" && (PyData.strOk n && (true && true))) = true
    rw [show PyData.strOk n = true from h]
    decide +kernel
  | inv a =>
    show (PyData.strOk "not" && (true && true)) = true
    decide +kernel
  | bin o a b =>
    show (PyData.strOk (bopS o) && (true && (true && true))) = true
    cases o <;> decide +kernel
  | lat a =>
    show (PyData.strOk "latch" && (true && true)) = true
    decide +kernel
theorem lay_rows : ∀ {rs : List Row}, (∀ r ∈ rs, NmOk r) → PyData.canLayAll0 (rs.map rowD) = true
  | [], _ => rfl
  | r :: rs, h => by
    show (PyData.canLay0 (rowD r) && PyData.canLayAll0 (rs.map rowD)) = true
    rw [lay_row (h r (List.mem_cons_self ..)), lay_rows fun x hx => h x (List.mem_cons_of_mem _ hx)]
    rfl
theorem depth_row (r : Row) : PyData.depth (rowD r) ≤ 1 := by
  cases r <;> exact Nat.le_of_ble_eq_true rfl
theorem depth_rows : ∀ rs : List Row, PyData.depthAll (rs.map rowD) ≤ 1
  | [] => Nat.zero_le 1
  | r :: rs => Nat.max_le.mpr ⟨depth_row r, depth_rows rs⟩
theorem shaped_rows {rs : List Row} (h : ∀ r ∈ rs, NmOk r) : SeqAt.shaped (.list (rs.map rowD)) = true := by
  unfold SeqAt.shaped
  rw [show PyData.canLay0 (.list (rs.map rowD)) = true from lay_rows h, Bool.true_and]
  have := depth_rows rs
  exact decide_eq_true (show PyData.depthAll (rs.map rowD) + 1 ≤ 64 by omega)
/-! dicts of numbers compared, copied -/
theorem flat_wkv (ws : List (Str × Int)) : ∀ p ∈ wkv ws, flatB p.2 = true := by
  intro p hp
  obtain ⟨q, _, rfl⟩ := List.mem_map.mp hp
  rfl
theorem valV_self : ∀ {ws : List (Str × Int)}, (ws.map (·.1)).Nodup → ∀ p ∈ wkv ws, valV (wkv ws) p.1 = some p.2
  | [], _, p, hp => by cases hp
  | q :: r, h, p, hp => by
    obtain ⟨h1, h2⟩ := List.nodup_cons.mp (show (q.1 :: r.map (·.1)).Nodup from h)
    rcases List.mem_cons.mp hp with e | e
    · rw [e]
      exact valV_pos rfl
    · have ih := valV_self h2 p e
      obtain ⟨z, hz, rfl⟩ := List.mem_map.mp e
      have ne : ¬ q.1 = z.1 := fun w => h1 (by rw [w]; exact List.mem_map.mpr ⟨z, hz, rfl⟩)
      rw [show wkv (q :: r) = (Sum.inr q.1, V.int q.2) :: wkv r from rfl, valV_neg (fun w => ne (Sum.inr.inj w))]
      exact ih
theorem w_eqDict {H : Hp} {Q : VK} {a b : Addr} {ws : List (Str × Int)} (h1 : H a = some (.dK (wkv ws))) (h2 : H b = some (.dK (wkv ws))) (nd : (ws.map (·.1)).Nodup) (q : Q (.bl true) H) : rEqDA (.ref a) (.ref b) H Q :=
  ⟨a, b, _, _, rfl, rfl, h1, h2, rfl, fun p hp => ⟨valV_self nd p hp, flat_wkv ws p hp⟩, q⟩
theorem w_neDict {H : Hp} {Q : VK} {a b : Addr} {ws : List (Str × Int)} (h1 : H a = some (.dK (wkv ws))) (h2 : H b = some (.dK (wkv ws))) (nd : (ws.map (·.1)).Nodup) (q : Q (.bl false) H) : rNeDA (.ref a) (.ref b) H Q :=
  ⟨a, b, _, _, rfl, rfl, h1, h2, rfl, fun p hp => ⟨valV_self nd p hp, flat_wkv ws p hp⟩, q⟩
def rDictD : List V → Hp → VK → Prop := fun xs H Q => ∃ (a : Addr) (kvs : List (Key × V)), xs = [.ref a] ∧ Rd H a (.dK kvs) ∧ ∀ p, H p = none → Q (.ref p) (upd H p (.dK kvs))
theorem c_dictD {X : Cx} : CallR X (.type "dict") rDictD := call_dictD
theorem w_dictD {H : Hp} {Q : VK} {a : Addr} {kvs : List (Key × V)} (h : H a = some (.dK kvs)) (q : ∀ p H', H p = none → Same H H' → H' p = some (.dK kvs) → Q (.ref p) H') : rDictD [.ref a] H Q :=
  ⟨a, kvs, rfl, .inl h, fun p hp => q p _ hp (same_upd hp) upd_same⟩
/-! a written dict -/
def DspE (p : Addr) (Q : VK) (ps : List (V × V)) (H2 : Hp) : Prop := H2 p = some (.dK []) ∧ ∃ kvs : List (Key × V), ps = kvs.map (fun kv => (kV kv.1, kv.2)) ∧ kvs.length ≤ 15 ∧ Q (.ref p) (upd H2 p (.dK (mergeK [] kvs)))
theorem w_disp {σ : L2.St} {H : Hp} {Q : VK} {trs : List (TE × TE)} (h : ∀ p H', H p = none → Same H H' → H' p = some (.dK []) → tPairs trs σ H' fun ps H2 => DspE p Q ps H2) : tDisp trs σ H Q := fun p hp => h p _ hp (same_upd hp) upd_same
theorem w_pairs {σ : L2.St} {H : Hp} {tk tv : TE} {r : List (TE × TE)} {R : List (V × V) → Hp → Prop} (h : tk σ H fun x H1 => tv σ H1 fun y H2 => tPairs r σ H2 fun ps H3 => R ((x, y) :: ps) H3) : tPairs ((tk, tv) :: r) σ H R := h
theorem w_pairs0 {σ : L2.St} {H : Hp} {R : List (V × V) → Hp → Prop} (h : R [] H) : tPairs [] σ H R := h
theorem w_DspE {p : Addr} {Q : VK} {ps : List (V × V)} {H2 : Hp} (ws : List (Str × Int)) (nd : (ws.map (·.1)).Nodup) (e : H2 p = some (.dK [])) (ep : ps = (wkv ws).map (fun kv => (kV kv.1, kv.2))) (hl : ws.length ≤ 15) (q : ∀ H', H' p = some (.dK (wkv ws)) → (∀ H0, Same H0 H2 → H0 p = none → Same H0 H') → Q (.ref p) H') : DspE p Q ps H2 := by
  refine ⟨e, wkv ws, ep, by rw [wkv, List.length_map]; exact hl, ?_⟩
  have key : ∀ (r acc : List (Str × Int)), ((acc ++ r).map (·.1)).Nodup → mergeK (wkv acc) (wkv r) = wkv (acc ++ r) := by
    intro r
    induction r with
    | nil => intro acc _; rw [List.append_nil]; rfl
    | cons z r ih =>
      intro acc hn
      have hz : valV (wkv acc) (Sum.inr z.1) = none := by
        cases g : valV (wkv acc) (Sum.inr z.1) with
        | none => rfl
        | some v =>
          have m := valV_in g
          obtain ⟨u, hu, eu⟩ := List.mem_map.mp m
          obtain ⟨t, ht, rfl⟩ := List.mem_map.mp hu
          have e1 : t.1 = z.1 := Sum.inr.inj eu
          rw [List.map_append, List.map_cons] at hn
          have d := (List.nodup_append.mp hn).2.2 t.1 (List.mem_map.mpr ⟨t, ht, rfl⟩) z.1 (List.mem_cons_self ..)
          exact absurd e1 d
      show mergeK (putK (wkv acc) (Sum.inr z.1) (V.int z.2)) (wkv r) = _
      rw [putK_new _ hz]
      have e2 : wkv acc ++ [((Sum.inr z.1 : Key), V.int z.2)] = wkv (acc ++ [z]) := by
        unfold wkv
        rw [List.map_append]
        rfl
      rw [e2, ih (acc ++ [z]) (by rw [List.append_assoc]; exact hn), List.append_assoc]
      rfl
  have := key ws [] nd
  rw [show mergeK [] (wkv ws) = wkv ws from this]
  exact q _ upd_same fun H0 s n => same_mut s n
end Dpr

namespace Dpr
open PySem PySem.Spec PyProof.Rows L2
/-! a number put by its name -/
def putW (ws : List (Str × Int)) (n : Str) (v : Int) : List (Str × Int) :=
  if (ws.any fun kv => decide (kv.1 = n)) = true then ws.map (fun kv => if kv.1 = n then (kv.1, v) else kv) else ws ++ [(n, v)]
theorem put_wkv (ws : List (Str × Int)) (n : Str) (v : Int) : putK (wkv ws) (Sum.inr n) (V.int v) = wkv (putW ws n v) := by
  have e : ((wkv ws).any fun kv => decide (kv.1 = (Sum.inr n : Key))) = (ws.any fun kv => decide (kv.1 = n)) := by
    induction ws with
    | nil => rfl
    | cons p r ih =>
      show (decide ((Sum.inr p.1 : Key) = Sum.inr n) || (wkv r).any _) = (decide (p.1 = n) || r.any _)
      rw [ih]
      by_cases e : p.1 = n
      · rw [decide_eq_true e, decide_eq_true (by rw [e])]
      · rw [decide_eq_false e, decide_eq_false (fun z => e (Sum.inr.inj z))]
  unfold putK putW
  rw [e]
  split
  · unfold wkv
    rw [List.map_map, List.map_map]
    refine List.map_congr_left fun p _ => ?_
    show (if (Sum.inr p.1 : Key) = Sum.inr n then ((Sum.inr p.1 : Key), V.int v) else (Sum.inr p.1, V.int p.2)) = _
    by_cases e : p.1 = n
    · rw [if_pos (by rw [e])]
      show _ = (Sum.inr (if p.1 = n then (p.1, v) else p).1, V.int (if p.1 = n then (p.1, v) else p).2)
      rw [if_pos e]
    · rw [if_neg (fun z => e (Sum.inr.inj z))]
      show _ = (Sum.inr (if p.1 = n then (p.1, v) else p).1, V.int (if p.1 = n then (p.1, v) else p).2)
      rw [if_neg e]
  · unfold wkv
    rw [List.map_append]
    rfl
theorem putW_len (ws : List (Str × Int)) (n : Str) (v : Int) : (putW ws n v).length ≤ ws.length + 1 := by
  unfold putW
  split
  · rw [List.length_map]; omega
  · rw [List.length_append, List.length_cons, List.length_nil]; omega
theorem look_put (ws : List (Str × Int)) (n m : Str) (v : Int) : lookW (putW ws n v) m = if m = n then some v else lookW ws m := by
  have e := valV_wkv m (putW ws n v)
  rw [← put_wkv, valV_put, valV_wkv] at e
  by_cases h : m = n
  · rw [if_pos h]
    rw [if_pos (by rw [h])] at e
    cases g : lookW (putW ws n v) m with
    | none => rw [g] at e; cases e
    | some x => rw [g] at e; cases e; rfl
  · rw [if_neg h]
    rw [if_neg (fun z => h (Sum.inr.inj z))] at e
    cases g : lookW (putW ws n v) m with
    | none =>
      rw [g] at e
      cases g2 : lookW ws m with
      | none => rfl
      | some x => rw [g2] at e; cases e
    | some x =>
      rw [g] at e
      cases g2 : lookW ws m with
      | none => rw [g2] at e; cases e
      | some y => rw [g2] at e; cases e; rfl
theorem putW_keys {ws : List (Str × Int)} {n : Str} {v : Int} (h : (ws.any fun kv => decide (kv.1 = n)) = true) : (putW ws n v).map (·.1) = ws.map (·.1) := by
  unfold putW
  rw [if_pos h, List.map_map]
  refine List.map_congr_left fun p _ => ?_
  show (if p.1 = n then (p.1, v) else p).1 = p.1
  split <;> rfl
theorem putW_nodup {ws : List (Str × Int)} (n : Str) (v : Int) (h : (ws.map (·.1)).Nodup) : ((putW ws n v).map (·.1)).Nodup := by
  by_cases e : (ws.any fun kv => decide (kv.1 = n)) = true
  · rw [putW_keys e]
    exact h
  · unfold putW
    rw [if_neg e, List.map_append]
    refine List.nodup_append.mpr ⟨h, List.nodup_cons.mpr ⟨(fun z => by cases z), List.nodup_nil⟩, fun x hx y hy z => ?_⟩
    rw [List.mem_singleton.mp hy] at z
    obtain ⟨p, hp, ep⟩ := List.mem_map.mp hx
    exact e (List.any_eq_true.mpr ⟨p, hp, decide_eq_true (ep.trans z)⟩)
/-- names whose numbers are known -/
theorem has_put {N : Str → Prop} {ws : List (Str × Int)} {n : Str} {v : Int} (h : Has N ws) : Has (fun m => m = n ∨ N m) (putW ws n v) := by
  intro m hm
  rw [look_put]
  by_cases e : m = n
  · exact ⟨v, if_pos e⟩
  · rw [if_neg e]
    exact h m (hm.resolve_left e)
theorem Has.mono {N M : Str → Prop} {ws : List (Str × Int)} (h : Has N ws) (k : ∀ n, M n → N n) : Has M ws := fun n hn => h n (k n hn)
theorem has_keep {N : Str → Prop} {ws : List (Str × Int)} {n : Str} {v : Int} (h : Has N ws) : Has N (putW ws n v) := (has_put h).mono fun _ h => .inr h
def DPutB (D : Ends) (σ : L2.St) (v x y : V) (H3 : Hp) : Prop := ∃ a H4, x = .ref a ∧ DPut H3 a y v H4 ∧ D.nx σ H4
theorem w_dput {D : Ends} {σ : L2.St} {H : Hp} {td ty tv : TE} (h : tv σ H fun v H1 => td σ H1 fun x H2 => ty σ H2 fun y H3 => DPutB D σ v x y H3) : sDPut td ty tv D σ H := h
theorem w_DPutB {D : Ends} {σ : L2.St} {H : Hp} {a : Addr} {ws : List (Str × Int)} {n : Str} {v : Int} (h : H a = some (.dK (wkv ws))) (hl : ws.length ≤ 1000) (q : D.nx σ (upd H a (.dK (wkv (putW ws n v))))) : DPutB D σ (.int v) (.ref a) (.str n) H :=
  ⟨a, _, rfl, .k (k := Sum.inr n) h (by rw [wkv, List.length_map]; exact Nat.lt_of_le_of_lt hl (by rw [sizeLine_eq]; decide)), by rw [put_wkv]; exact q⟩
def rInsert : V → List V → Hp → VK → Prop := fun x vs H Q => ∃ (l : Addr) (xs : List V) (i : Int) (y : V), x = .ref l ∧ vs = [.int i, y] ∧ H l = some (.lst xs) ∧ xs.length < sizeLine ∧ 0 ≤ i ∧ i < 2 ^ 63 ∧ Q .non (upd H l (.lst (xs.take i.toNat ++ [y] ++ xs.drop i.toNat)))
theorem mt_ins0 {X : Cx} : MtR X "list.insert" rInsert := mt_insert
theorem w_insert {H : Hp} {Q : VK} {p : Addr} {xs : List V} {y : V} {i : Int} (e : H p = some (.lst xs)) (hz : xs.length ≤ 1000000) (hi : 0 ≤ i ∧ i ≤ 1000000) (q : Q .non (upd H p (.lst (xs.take i.toNat ++ [y] ++ xs.drop i.toNat)))) : rInsert (.ref p) [.int i, y] H Q :=
  ⟨p, xs, i, y, rfl, rfl, e, Nat.lt_of_le_of_lt hz (by rw [sizeLine_eq]; decide), hi.1, by omega, q⟩
theorem w_dnewK {σ : L2.St} {H : Hp} {Q : VK} (h : ∀ p H', H p = none → Same H H' → H' p = some (.dK (wkv [])) → Q (.ref p) H') : tDNewK σ H Q := fun p hp => h p _ hp (same_upd hp) upd_same
end Dpr

namespace Dpr
open PySem PySem.Spec PyProof.Rows L2
def RevB (R : It → Hp → Prop) (a b : Int) (H1 : Hp) : Prop := -(2 ^ 62) ≤ a ∧ a < 2 ^ 62 ∧ -(2 ^ 62) ≤ b ∧ b < 2 ^ 62 ∧ R (Itc (a + (((b - a).toNat : Nat) : Int) - 1) (-1) (b - a).toNat) H1
def RG1 (R : Int → Int → Hp → Prop) (x : V) (H1 : Hp) : Prop := ∃ i, x = .int i ∧ R 0 i H1
theorem w_revR {σ : L2.St} {H : Hp} {R : It → Hp → Prop} {tr : L2.St → Hp → (Int → Int → Hp → Prop) → Prop} (h : tr σ H (RevB R)) : iRevR tr σ H R := h
theorem w_rg1 {σ : L2.St} {H : Hp} {R : Int → Int → Hp → Prop} {ta : TE} (h : ta σ H (RG1 R)) : tRg1 ta σ H R := h
theorem w_RG1 {R : Int → Int → Hp → Prop} {b : Int} {H : Hp} (q : R 0 b H) : RG1 R (.int b) H := ⟨b, rfl, q⟩
theorem w_RevB {R : It → Hp → Prop} {a b : Int} {H : Hp} (h : -1000000 ≤ a ∧ a ≤ 1000000 ∧ -1000000 ≤ b ∧ b ≤ 1000000) (q : R (Itc (a + (((b - a).toNat : Nat) : Int) - 1) (-1) (b - a).toNat) H) : RevB R a b H := ⟨by omega, by omega, by omega, by omega, q⟩
theorem for_rc {lo c : Int} {n j : Nat} {t : TS} {D : Ends} {σ : L2.St} {H : Hp} (Pv : Nat → L2.St → Hp → Prop) (h0 : Pv 0 σ H)
    (hs : ∀ (i : Nat) σ' H', i < n → Pv i σ' H' → t { D with nx := Pv (i + 1), ct := Pv (i + 1), bk := D.nx } (σ'.set j (some (.int (lo + (i : Nat) * c)))) H') (hd : ∀ σ' H', Pv n σ' H' → D.nx σ' H') : ForB (Itc lo c n) (gName j) t D σ H :=
  for_rangeC Pv h0 hs hd
end Dpr

namespace Dpr
open PySem PySem.Spec PyProof.Rows L2
/-! a row from its second part on, the greatest of a list -/
theorem w_slT1 {K : PySem.W.Frag} {H : Hp} {Q : VK} {p : Addr} {x : V} {r : List V} (h : SqT K H p (x :: r)) (q : ∀ l H', H l = none → Same H H' → H' l = some (.tup r) → Q (.ref l) H') : rSlT K (.ref p) (some 1) none H Q := by
  refine ⟨p, _, rfl, h, fun z => ?_, fun l hl => ?_⟩
  · have e := z.1
    rw [show (1 : Int) = ((1 : Nat) : Int) from rfl, HT.sIx_nat, List.length_cons] at e
    omega
  · have e : cutV (x :: r) (some 1) none = r := cut_from (x :: r) 1 (by rw [List.length_cons]; omega)
    rw [e]
    exact q l _ hl (same_upd hl) upd_same
theorem w_maxL {K : PySem.W.Frag} {H : Hp} {Q : VK} {p : Addr} {ns : List Int} (h : SqL K H p (ns.map V.int)) (hn : 0 < ns.length) (q : ∀ m, m ∈ ns → (∀ y ∈ ns, y ≤ m) → Q (.int m) H) : rMax K [.ref p] H Q := ⟨p, ns, rfl, h, hn, q⟩
theorem c_maxK {X : Cx} (K : PySem.W.Frag) (e : X.K = K := by rfl) (hc : X.calm = true := by rfl) : CallR X (.builtin "max") (rMax K) := by subst e; exact cr_max hc
/-! lists told row by row -/
def runL (f : List Int → Row → Int) (rs : List Row) : List Int := rs.foldl (fun a r => a ++ [f a r]) []
theorem runL_snoc (f : List Int → Row → Int) (rs : List Row) (r : Row) : runL f (rs ++ [r]) = runL f rs ++ [f (runL f rs) r] := by
  unfold runL
  rw [List.foldl_append]
  rfl
theorem runL_len (f : List Int → Row → Int) (rs : List Row) : (runL f rs).length = rs.length := by
  have key : ∀ (rs : List Row) (acc : List Int), (rs.foldl (fun a r => a ++ [f a r]) acc).length = acc.length + rs.length := by
    intro rs
    induction rs with
    | nil => intro acc; rfl
    | cons r rs ih =>
      intro acc
      rw [List.foldl_cons, ih, List.length_append, List.length_singleton, List.length_cons]
      omega
  unfold runL
  rw [key]
  exact Nat.zero_add _
theorem runL_take (f : List Int → Row → Int) (rs : List Row) (i : Nat) : runL f (rs.take i) = (runL f rs).take i := by
  rcases Nat.le_total rs.length i with h | h
  · rw [List.take_of_length_le h, List.take_of_length_le (by rw [runL_len]; exact h)]
  · have key : ∀ (ss acc : List Int) (rs : List Row), ∃ t, rs.foldl (fun a r => a ++ [f a r]) acc = acc ++ t := by
      intro ss acc rs
      induction rs generalizing acc with
      | nil => exact ⟨[], (List.append_nil _).symm⟩
      | cons r rs ih =>
        obtain ⟨t, e⟩ := ih (acc ++ [f acc r])
        exact ⟨[f acc r] ++ t, by rw [List.foldl_cons, e, List.append_assoc]⟩
    obtain ⟨t, e⟩ := key [] (runL f (rs.take i)) (rs.drop i)
    have e2 : runL f rs = runL f (rs.take i) ++ t := by
      rw [← e]
      show rs.foldl _ [] = (rs.drop i).foldl _ ((rs.take i).foldl _ [])
      rw [← List.foldl_append, List.take_append_drop]
    rw [e2, List.take_left' (by rw [runL_len, List.length_take]; omega)]
theorem runL_get (f : List Int → Row → Int) {rs : List Row} {i : Nat} {r : Row} (h : rs[i]? = some r) : (runL f rs)[i]? = some (f ((runL f rs).take i) r) := by
  have hi := (List.getElem?_eq_some_iff.mp h).1
  have e : (runL f rs).take (i + 1) = (runL f rs).take i ++ [f ((runL f rs).take i) r] := by
    rw [← runL_take, take_snoc h, runL_snoc, runL_take]
  have hl : ((runL f rs).take i).length = i := by rw [List.length_take, runL_len]; omega
  have e2 : ((runL f rs).take (i + 1))[i]? = some (f ((runL f rs).take i) r) := by
    rw [e, List.getElem?_append_right (by omega), hl, Nat.sub_self]
    rfl
  rw [List.getElem?_take, if_pos (Nat.lt_succ_self i)] at e2
  exact e2
/-! depths -/
def ownR : Row → List Nat
  | .inv a => [a]
  | .bin _ a b => [a, b]
  | _ => []
def natI (ws : List Nat) : List Int := ws.map fun (z : Nat) => (z : Int)
theorem natI_len (ws : List Nat) : (natI ws).length = ws.length := List.length_map ..
theorem natI_get {ws : List Nat} {i : Nat} {x : Int} (h : (natI ws)[i]? = some x) : ∃ z : Nat, ws[i]? = some z ∧ x = (z : Int) := by
  unfold natI at h
  rw [List.getElem?_map] at h
  cases e : ws[i]? with
  | none => rw [e] at h; cases h
  | some y => rw [e] at h; exact ⟨y, rfl, (Option.some.inj h).symm⟩
def top2 (x y : Int) : Int := if y > x then y else x
def deepI (ds : List Int) (r : Row) : Int := (ownR r).foldl (fun d w => top2 d (ds.getD w 0 + 1)) 0
def depthL (rs : List Row) : List Int := runL deepI rs
theorem own_lt {N : Str → Prop} {i : Nat} {r : Row} (h : RowOk N i r) : ∀ w ∈ ownR r, w < i := by
  intro w hw
  cases r with
  | inv a => rw [List.mem_singleton.mp hw]; exact h
  | bin o a b =>
    rcases List.mem_cons.mp hw with e | e
    · rw [e]; exact h.1
    · rw [List.mem_singleton.mp e]; exact h.2
  | _ => cases hw
theorem own_len (r : Row) : (ownR r).length ≤ 2 := by
  cases r <;> exact Nat.le_of_ble_eq_true rfl
theorem top_of (g : Nat → Int) : ∀ (ws : List Nat) (x m : Int), m ∈ x :: ws.map g → (∀ y ∈ x :: ws.map g, y ≤ m) → m = ws.foldl (fun d w => top2 d (g w)) x
  | [], x, m, h, _ => List.mem_singleton.mp h
  | w :: r, x, m, h, hm => by
    show m = r.foldl (fun d w => top2 d (g w)) (top2 x (g w))
    have a1 := hm x (List.mem_cons_self ..)
    have a2 := hm (g w) (List.mem_cons_of_mem _ (List.mem_cons_self ..))
    refine top_of g r _ m ?_ fun y hy => ?_
    · unfold top2
      rcases List.mem_cons.mp h with e | e
      · subst e
        rw [if_neg (by omega)]
        exact List.mem_cons_self ..
      · rcases List.mem_cons.mp e with e | e
        · by_cases c : g w > x
          · rw [if_pos c, e]
            exact List.mem_cons_self ..
          · rw [if_neg c, show m = x by omega]
            exact List.mem_cons_self ..
        · exact List.mem_cons_of_mem _ e
    · rcases List.mem_cons.mp hy with e | e
      · rw [e]
        unfold top2
        split
        · exact a2
        · exact a1
      · exact hm y (List.mem_cons_of_mem _ (List.mem_cons_of_mem _ e))
end Dpr

namespace Dpr
open PySem PySem.Spec PyProof.Rows L2
/-! ways -/
def dep (rs : List Row) (x : Nat) : Int := (depthL rs).getD x 0
theorem fold_top (g : Nat → Int) : ∀ (ws : List Nat) (x : Int), ws.foldl (fun d w => top2 d (g w)) x = x ∨ ∃ w ∈ ws, ws.foldl (fun d w => top2 d (g w)) x = g w
  | [], x => .inl rfl
  | w :: r, x => by
    show r.foldl (fun d w => top2 d (g w)) (top2 x (g w)) = x ∨ ∃ z ∈ w :: r, r.foldl (fun d w => top2 d (g w)) (top2 x (g w)) = g z
    rcases fold_top g r (top2 x (g w)) with e | ⟨z, hz, e⟩
    · rw [e]
      unfold top2
      split
      · exact .inr ⟨w, List.mem_cons_self .., rfl⟩
      · exact .inl rfl
    · exact .inr ⟨z, List.mem_cons_of_mem _ hz, e⟩
theorem fold_top_le (g : Nat → Int) : ∀ (ws : List Nat) (x : Int), x ≤ ws.foldl (fun d w => top2 d (g w)) x ∧ ∀ w ∈ ws, g w ≤ ws.foldl (fun d w => top2 d (g w)) x
  | [], x => ⟨Int.le_refl _, fun w h => by cases h⟩
  | w :: r, x => by
    have ih := fold_top_le g r (top2 x (g w))
    have t1 : x ≤ top2 x (g w) ∧ g w ≤ top2 x (g w) := by unfold top2; split <;> omega
    refine ⟨Int.le_trans t1.1 ih.1, fun z hz => ?_⟩
    rcases List.mem_cons.mp hz with e | e
    · rw [e]; exact Int.le_trans t1.2 ih.1
    · exact ih.2 z e
theorem fold_congr {g h : Nat → Int} : ∀ (ws : List Nat) (x : Int), (∀ w ∈ ws, g w = h w) → ws.foldl (fun d w => top2 d (g w)) x = ws.foldl (fun d w => top2 d (h w)) x
  | [], _, _ => rfl
  | w :: r, x, e => by
    show r.foldl (fun d w => top2 d (g w)) (top2 x (g w)) = r.foldl (fun d w => top2 d (h w)) (top2 x (h w))
    rw [e w (List.mem_cons_self ..)]
    exact fold_congr r _ fun z hz => e z (List.mem_cons_of_mem _ hz)
theorem dep_eq {N : Str → Prop} {rs : List Row} (ok : RowsOk N rs) {x : Nat} {r : Row} (h : rs[x]? = some r) : dep rs x = (ownR r).foldl (fun d w => top2 d (dep rs w + 1)) 0 := by
  unfold dep
  have e := runL_get deepI h
  rw [List.getD_eq_getElem?_getD]
  show ((runL deepI rs)[x]?).getD 0 = _
  rw [e]
  show deepI ((runL deepI rs).take x) r = _
  unfold deepI
  refine fold_congr _ _ fun w hw => ?_
  have hlt := own_lt (ok x r h) w hw
  show ((runL deepI rs).take x).getD w 0 + 1 = (runL deepI rs).getD w 0 + 1
  rw [List.getD_eq_getElem?_getD, List.getD_eq_getElem?_getD, List.getElem?_take, if_pos hlt]
theorem dep_nn {N : Str → Prop} {rs : List Row} (ok : RowsOk N rs) (x : Nat) : 0 ≤ dep rs x := by
  cases e : rs[x]? with
  | some r => rw [dep_eq ok e]; exact (fold_top_le _ _ _).1
  | none =>
    have h : rs.length ≤ x := List.getElem?_eq_none_iff.mp e
    unfold dep
    rw [List.getD_eq_getElem?_getD, List.getElem?_eq_none (by show (runL deepI rs).length ≤ x; rw [runL_len]; exact h)]
    exact Int.le_refl 0
theorem dep_le {N : Str → Prop} {rs : List Row} (ok : RowsOk N rs) : ∀ (n x : Nat), x < n → dep rs x ≤ x
  | 0, x, h => by omega
  | n + 1, x, h => by
    cases e : rs[x]? with
    | some r =>
      rw [dep_eq ok e]
      rcases fold_top (fun z => dep rs z + 1) (ownR r) 0 with q | ⟨z, hz, q⟩
      · rw [q]; omega
      · rw [q]
        have hlt := own_lt (ok x r e) z hz
        have ih := dep_le ok n z (by omega)
        omega
    | none =>
      have h : rs.length ≤ x := List.getElem?_eq_none_iff.mp e
      unfold dep
      rw [List.getD_eq_getElem?_getD, List.getElem?_eq_none (by show (runL deepI rs).length ≤ x; rw [runL_len]; exact h)]
      show (0 : Int) ≤ x
      omega
def Way (rs : List Row) (w : Nat) (ws : List Nat) : Prop := ws[0]? = some w ∧ (∀ (k x y : Nat), ws[k]? = some x → ws[k + 1]? = some y → ∃ r, rs[x]? = some r ∧ y ∈ ownR r) ∧ ∀ (k x : Nat), ws[k]? = some x → x < rs.length ∧ dep rs x = dep rs w - k
theorem Way.one {rs : List Row} {w : Nat} (h : w < rs.length) : Way rs w [w] :=
  ⟨rfl, fun k x y _ hy => (by cases hy), fun k x hx => (by
    cases k with
    | zero => cases hx; exact ⟨h, by omega⟩
    | succ k => cases hx)⟩
theorem Way.snoc {rs : List Row} {w x y : Nat} {us : List Nat} {r : Row} (h : Way rs w (us ++ [x])) (hr : rs[x]? = some r) (hy : y ∈ ownR r) (hl : y < rs.length) (hd : dep rs y = dep rs x - 1) : Way rs w (us ++ [x] ++ [y]) := by
  have hux : (us ++ [x])[us.length]? = some x := by rw [List.getElem?_append_right (Nat.le_refl _), Nat.sub_self]; rfl
  have hlen : (us ++ [x]).length = us.length + 1 := by rw [List.length_append]; rfl
  refine ⟨by rw [List.getElem?_append_left (by omega)]; exact h.1, fun k a b ha hb => ?_, fun k a ha => ?_⟩
  · have hb' := (List.getElem?_eq_some_iff.mp hb).1
    rw [List.length_append, List.length_singleton, hlen] at hb'
    by_cases e : k + 1 < us.length + 1
    · rw [List.getElem?_append_left (by omega)] at ha hb
      exact h.2.1 k a b ha hb
    · have ek : k = us.length := by omega
      subst ek
      rw [List.getElem?_append_left (by omega), hux] at ha
      cases ha
      rw [List.getElem?_append_right (by omega), hlen, Nat.sub_self] at hb
      cases hb
      exact ⟨r, hr, hy⟩
  · have ha' := (List.getElem?_eq_some_iff.mp ha).1
    rw [List.length_append, List.length_singleton, hlen] at ha'
    by_cases e : k < us.length + 1
    · rw [List.getElem?_append_left (by omega)] at ha
      exact h.2.2 k a ha
    · have ek : k = us.length + 1 := by omega
      subst ek
      rw [List.getElem?_append_right (by omega), hlen, Nat.sub_self] at ha
      cases ha
      have hx := (h.2.2 us.length x hux).2
      exact ⟨hl, by omega⟩
/-- a way from its first wire on -/
def WayR (rs : List Row) (w : Nat) (ws : List Nat) : Prop := (ws.length : Int) = dep rs w + 1 ∧ (∀ x ∈ ws, x < rs.length) ∧ (∀ (k x y : Nat), ws[k]? = some y → ws[k + 1]? = some x → ∃ r, rs[x]? = some r ∧ y ∈ ownR r) ∧ (∃ us, ws = us ++ [w]) ∧ ∃ z, ws[0]? = some z ∧ dep rs z = 0
theorem Way.rev {rs : List Row} {w x : Nat} {us : List Nat} (h : Way rs w (us ++ [x])) (hx : dep rs x = 0) : WayR rs w (us ++ [x]).reverse := by
  have hux : (us ++ [x])[us.length]? = some x := by rw [List.getElem?_append_right (Nat.le_refl _), Nat.sub_self]; rfl
  have hlen : (us ++ [x]).length = us.length + 1 := by rw [List.length_append]; rfl
  have h0 := (h.2.2 us.length x hux).2
  refine ⟨by rw [List.length_reverse, hlen]; omega, fun z hz => ?_, fun k a b ha hb => ?_, ?_, x, ?_, hx⟩
  · obtain ⟨k, hk⟩ := List.mem_iff_getElem?.mp (List.mem_reverse.mp hz)
    exact (h.2.2 k z hk).1
  · have hb' := (List.getElem?_eq_some_iff.mp hb).1
    rw [List.length_reverse, hlen] at hb'
    rw [List.getElem?_reverse (by omega), hlen] at ha hb
    refine h.2.1 (us.length - (k + 1)) a b ?_ ?_
    · rw [show us.length - (k + 1) = us.length + 1 - 1 - (k + 1) by omega]; exact hb
    · rw [show us.length - (k + 1) + 1 = us.length + 1 - 1 - k by omega]; exact ha
  · have e := h.1
    cases us with
    | nil => cases e; exact ⟨[], rfl⟩
    | cons u us =>
      cases e
      exact ⟨(us ++ [x]).reverse, by rw [List.cons_append, List.reverse_cons]⟩
  · rw [List.getElem?_reverse (by omega), hlen]
    exact hux
theorem nat_last (us : List Nat) (x : Nat) : atI ((natI (us ++ [x])).map V.int) (-1) = some (.int (x : Int)) := by
  unfold natI
  rw [List.map_append, List.map_append]
  exact atI_last _ _
theorem nat_at {ws : List Nat} {k x : Nat} (h : ws[k]? = some x) : atI ((natI ws).map V.int) (k : Int) = some (.int (x : Int)) := atI_nat (by
  unfold natI
  rw [List.map_map, List.getElem?_map, h]
  rfl)
theorem nat_snoc (ws : List Nat) (x : Nat) : (natI ws).map V.int ++ [V.int (x : Int)] = (natI (ws ++ [x])).map V.int := by
  unfold natI
  rw [List.map_append, List.map_append]
  rfl
theorem nat_rev (ws : List Nat) : ((natI ws).map V.int).reverse = (natI ws.reverse).map V.int := by
  unfold natI
  rw [List.map_reverse, List.map_reverse]
end Dpr

namespace Dpr
open PySem PySem.Spec PyProof.Rows L2
theorem ib_abs (x : Int) (n : Nat) : Builtin.Int.intBits x ≤ n ↔ x.natAbs < 2 ^ n := by
  have e : Builtin.Int.intBits x = Builtin.Int.intBits (x.natAbs : Int) := by
    unfold Builtin.Int.intBits
    by_cases h : x = 0
    · subst h; rfl
    · rw [if_neg (by simpa using h), if_neg (by simpa using h)]
      rfl
  rw [e, ib_le (by omega) n]
  rw [show ((2 : Int) ^ n) = ((2 ^ n : Nat) : Int) by rw [Int.natCast_pow]; rfl]
  exact Int.ofNat_lt
theorem bits_add {c j : Int} {n : Nat} (h : Builtin.Int.intBits c ≤ n) (hj : Builtin.Int.intBits j ≤ n) : Builtin.Int.intBits (c + j) ≤ n + 1 := by
  rw [ib_abs] at *
  rw [Nat.pow_succ]
  omega
/-! beats -/
def beatI (ws : List (Str × Int)) (prev bits : List Int) (r : Row) : Int := match r with
  | .lat a => prev.getD a 0
  | r => gateI ws bits r
def beatL (rs : List Row) (prev : List Int) (ws : List (Str × Int)) : List Int := runL (beatI ws prev) rs
def beatsL (rs : List Row) (wss : List (List (Str × Int))) : List (List Int) := wss.foldl (fun acc ws => acc ++ [beatL rs (acc.getLastD []) ws]) []
theorem beatsL_snoc (rs : List Row) (wss : List (List (Str × Int))) (ws : List (Str × Int)) : beatsL rs (wss ++ [ws]) = beatsL rs wss ++ [beatL rs ((beatsL rs wss).getLastD []) ws] := by
  unfold beatsL
  rw [List.foldl_append]
  rfl
theorem beat_01 {N : Str → Prop} {n : Nat} {r : Row} (ws : List (Str × Int)) {prev bs : List Int} (hp : All01 prev) (h : All01 bs) (ok : RowOk N n r) : is01 (beatI ws prev bs r) := by
  cases r with
  | lat a => exact all01_get hp a
  | fix b => exact gateI_01 (r := .fix b) ws h ok
  | inn m k => exact gateI_01 (r := .inn m k) ws h ok
  | inv a => exact gateI_01 (r := .inv a) ws h ok
  | bin o a b => exact gateI_01 (r := .bin o a b) ws h ok
theorem beatL_01 {N : Str → Prop} (ws : List (Str × Int)) {prev : List Int} (hp : All01 prev) {rs : List Row} (ok : RowsOk N rs) : ∀ i, All01 (runL (beatI ws prev) (rs.take i))
  | 0 => fun x hx => by cases hx
  | i + 1 => by
    have ih := beatL_01 ws hp ok i
    cases e : rs[i]? with
    | none =>
      have : rs.take (i + 1) = rs.take i := by rw [List.take_add_one, e]; exact List.append_nil _
      rw [this]
      exact ih
    | some r =>
      rw [take_snoc e, runL_snoc]
      intro x hx
      rcases List.mem_append.mp hx with q | q
      · exact ih x q
      · rw [List.mem_singleton.mp q]
        exact beat_01 ws hp ih (ok i r e)
theorem A2.mono2 {α β : Type} {R S : α → β → Prop} {xs : List α} {ys : List β} (h : A2 R xs ys) (k : ∀ x y, x ∈ xs → R x y → S x y) : A2 S xs ys := ⟨h.1, fun i x y a b => k x y (List.mem_of_getElem? a) (h.2 i x y a b)⟩
def DictAt (H : Hp) (p : Addr) (ws : List (Str × Int)) : Prop := H p = some (.dK (wkv ws))
def IntsAt (H : Hp) (p : Addr) (bs : List Int) : Prop := H p = some (.lst (bs.map V.int))
def DictsL (K : PySem.W.Frag) (H : Hp) (a : Addr) (wss : List (List (Str × Int))) : Prop := ∃ ps : List Addr, SqL K H a (ps.map V.ref) ∧ A2 (DictAt H) ps wss
/-- what stood at the beat before: nothing, or a list -/
def Before (H : Hp) (n : Nat) (prev : List Int) (bv : V) : Prop := (bv = .non ∧ prev = []) ∨ ∃ q, bv = .ref q ∧ IntsAt H q prev ∧ prev.length = n
theorem Before.same {H H' : Hp} {n : Nat} {prev : List Int} {bv : V} (s : Same H H') (h : Before H n prev bv) : Before H' n prev bv := by
  rcases h with h | ⟨q, h1, h2, h3⟩
  · exact .inl h
  · exact .inr ⟨q, h1, s _ _ h2, h3⟩
def rIsNo : R2 := fun x y H Q => y = .non ∧ Q (.bl (decide (x = .non))) H
def rNotNo : R2 := fun x y H Q => y = .non ∧ Q (.bl (!decide (x = .non))) H
theorem op_isNo {X : Cx} : OpR X (compareOp .Is) rIsNo := op_isN
theorem op_notNo {X : Cx} : OpR X (compareOp .IsNot) rNotNo := op_notN
theorem w_isNo1 {H : Hp} {Q : VK} (h : Q (.bl true) H) : rIsNo .non .non H Q := ⟨rfl, h⟩
theorem w_isNo0 {p : Addr} {H : Hp} {Q : VK} (h : Q (.bl false) H) : rIsNo (.ref p) .non H Q := ⟨rfl, by rw [decide_eq_false (fun z => by cases z)]; exact h⟩
theorem w_notNo1 {H : Hp} {Q : VK} (h : Q (.bl false) H) : rNotNo .non .non H Q := ⟨rfl, h⟩
theorem w_notNo0 {p : Addr} {H : Hp} {Q : VK} (h : Q (.bl true) H) : rNotNo (.ref p) .non H Q := ⟨rfl, by rw [decide_eq_false (fun z => by cases z)]; exact h⟩
end Dpr

namespace Dpr
open PySem PySem.Spec PyProof.Rows L2
/-! objects of the program's classes -/
def IsC (K : PySem.W.Frag) (c : Str) (C : Addr) : Prop := PySem.W.nsIn K mainGlobals c = some (some (.ref C))
theorem IsC.one {K : PySem.W.Frag} {c : Str} {C D : Addr} (h : IsC K c C) (k : IsC K c D) : C = D := by
  unfold IsC at h k
  rw [h] at k
  cases k
  rfl
theorem lookup_hd {f : Str} {v : V} {r : List (Str × V)} : ((f, v) :: r).lookup f = some v := List.lookup_cons_self ..
theorem lookup_tl {f g : Str} {v : V} {r : List (Str × V)} {o : Option V} (h : (f == g) = false) (k : r.lookup f = o) : ((g, v) :: r).lookup f = o := by
  rw [List.lookup_cons, h]
  exact k
theorem lookup_no {f : Str} : ([] : List (Str × V)).lookup f = none := rfl
section
variable {K : PySem.W.Frag} {σ : L2.St} {H : Hp} {Q : VK} {D : Ends} {ta tv : TE} {t : TA} {f m : Str}
def FldB (K : PySem.W.Frag) (f : Str) (Q : VK) (x : V) (H1 : Hp) : Prop := ∃ a C dx fs v, x = .ref a ∧ H1 a = some (.ins C dx fs) ∧ Cls K C ∧ NoAttr K C f ∧ fs.lookup f = some v ∧ Q v H1
theorem w_fld (h : ta σ H (FldB K f Q)) : tFld K ta f σ H Q := h
theorem w_FldB {a C dx : Addr} {fs : List (Str × V)} {v : V} (h : H a = some (.ins C dx fs)) (c : Cls K C) (n : NoAttr K C f) (e : fs.lookup f = some v) (q : Q v H) : FldB K f Q (.ref a) H := ⟨a, C, dx, fs, v, rfl, h, c, n, e, q⟩
def SFldB (K : PySem.W.Frag) (f : Str) (D : Ends) (σ : L2.St) (y x : V) (H2 : Hp) : Prop := ∃ a C dx fs, x = .ref a ∧ H2 a = some (.ins C dx fs) ∧ Cls K C ∧ NoAttr K C f ∧ fs.length < 1000 ∧ D.nx σ (upd H2 a (.ins C dx (putF f y fs)))
theorem w_sfld (h : tv σ H fun y H1 => ta σ H1 fun x H2 => SFldB K f D σ y x H2) : sFld K ta tv f D σ H := h
theorem w_SFldB {a C dx : Addr} {fs : List (Str × V)} {y : V} (h : H a = some (.ins C dx fs)) (c : Cls K C) (n : NoAttr K C f) (l : fs.length < 1000) (q : D.nx σ (upd H a (.ins C dx (putF f y fs)))) : SFldB K f D σ y (.ref a) H := ⟨a, C, dx, fs, rfl, h, c, n, l, q⟩
def MethB (C : Addr) (m : Str) (sp : Sp) (dvs : List V) (E : XK) (t : TA) (σ : L2.St) (Q : VK) (x : V) (H1 : Hp) : Prop := ∃ a dx fs, x = .ref a ∧ H1 a = some (.ins C dx fs) ∧ fs.lookup m = none ∧ t σ H1 fun vs H2 => sp (x :: (vs ++ dvs)) H2 Q E
theorem w_meth {C : Addr} {sp : Sp} {dvs : List V} {E : XK} (h : ta σ H (MethB C m sp dvs E t σ Q)) : tMeth C m sp dvs E ta t σ H Q := h
theorem w_MethB {C a dx : Addr} {fs : List (Str × V)} {sp : Sp} {dvs : List V} {E : XK} (h : H a = some (.ins C dx fs)) (e : fs.lookup m = none) (q : t σ H fun vs H2 => sp (.ref a :: (vs ++ dvs)) H2 Q E) : MethB C m sp dvs E t σ Q (.ref a) H := ⟨a, dx, fs, rfl, h, e, q⟩
theorem w_make {C : Addr} {sp : Sp} {dvs : List V} {E : XK} (h : t σ H fun vs H1 => ∀ x dx, H1 x = none → H1 dx = none → dx ≠ x → sp (.ref x :: (vs ++ dvs)) (upd (upd H1 dx (.own x)) x (.ins C dx [])) (fun v H2 => v = .non ∧ Q (.ref x) H2) E) : tMake C sp dvs E t σ H Q := h
end
/-- a sheet, its rows at r -/
def SheetAt (K : PySem.W.Frag) (H : Hp) (s r : Addr) : Prop := ∃ C dx, H s = some (.ins C dx [("rows", .ref r)]) ∧ IsC K "Sheet" C
end Dpr

namespace Dpr
open PySem PySem.Spec PyProof.Rows L2
/-! rows as keys of a dict -/
def rowK : Row → List Key
  | .fix b => [.inr "fix", .inl b]
  | .inn n k => [.inr "in", .inr n, .inl (k : Int)]
  | .inv a => [.inr "not", .inl (a : Int)]
  | .bin o a b => [.inr (bopS o), .inl (a : Int), .inl (b : Int)]
  | .lat a => [.inr "latch", .inl (a : Int)]
theorem rowK_V (r : Row) : rowV r = (rowK r).map kV := by cases r <;> rfl
theorem bopS_inj {o p : Bop} (h : bopS o = bopS p) : o = p := by
  cases o <;> cases p <;> first | rfl | exact absurd h (by decide +kernel)
theorem bopS_odd (o : Bop) : bopS o ≠ "fix" ∧ bopS o ≠ "in" ∧ bopS o ≠ "not" ∧ bopS o ≠ "latch" := by
  cases o <;> decide +kernel
theorem rowK_inj {r t : Row} (h : rowK r = rowK t) : r = t := by
  have f1 : ("fix" : Str) ≠ "not" := by decide +kernel
  have f2 : ("fix" : Str) ≠ "latch" := by decide +kernel
  have f3 : ("not" : Str) ≠ "latch" := by decide +kernel
  have f4 : ("in" : Str) ≠ "fix" := by decide +kernel
  cases r with
  | fix b =>
    cases t with
    | fix c => unfold rowK at h; simp only [List.cons.injEq, Sum.inl.injEq, and_true, true_and] at h; rw [h]
    | inn n k => cases congrArg List.length h
    | inv a => exact absurd (Sum.inr.inj (List.cons.inj h).1) f1
    | bin o a c => cases congrArg List.length h
    | lat a => exact absurd (Sum.inr.inj (List.cons.inj h).1) f2
  | inn n k =>
    cases t with
    | inn m j =>
      unfold rowK at h
      simp only [List.cons.injEq, Sum.inl.injEq, Sum.inr.injEq, and_true, true_and] at h
      obtain ⟨h1, h2⟩ := h
      rw [h1, show k = j by omega]
    | bin o a c => exact absurd (Sum.inr.inj (List.cons.inj h).1).symm (bopS_odd o).2.1
    | _ => cases congrArg List.length h
  | inv a =>
    cases t with
    | fix c => exact absurd (Sum.inr.inj (List.cons.inj h).1).symm f1
    | inv c => unfold rowK at h; simp only [List.cons.injEq, Sum.inl.injEq, and_true, true_and] at h; rw [show a = c by omega]
    | lat c => exact absurd (Sum.inr.inj (List.cons.inj h).1) f3
    | _ => cases congrArg List.length h
  | bin o a b =>
    cases t with
    | inn m j => exact absurd (Sum.inr.inj (List.cons.inj h).1) (bopS_odd o).2.1
    | bin p c d =>
      unfold rowK at h
      simp only [List.cons.injEq, Sum.inl.injEq, Sum.inr.injEq, and_true] at h
      obtain ⟨h1, h2, h3⟩ := h
      rw [bopS_inj h1, show a = c by omega, show b = d by omega]
    | _ => cases congrArg List.length h
  | lat a =>
    cases t with
    | fix c => exact absurd (Sum.inr.inj (List.cons.inj h).1).symm f2
    | inv c => exact absurd (Sum.inr.inj (List.cons.inj h).1).symm f3
    | lat c => unfold rowK at h; simp only [List.cons.injEq, Sum.inl.injEq, and_true, true_and] at h; rw [show a = c by omega]
    | _ => cases congrArg List.length h
def placesFrom (n : Nat) : List Row → List (List Key × V)
  | [] => []
  | r :: rs => (rowK r, .int (n : Int)) :: placesFrom (n + 1) rs
def placesK (ks : List Row) : List (List Key × V) := placesFrom 0 ks
theorem placesFrom_none {r : Row} : ∀ (ks : List Row) (n : Nat), r ∉ ks → valV (placesFrom n ks) (rowK r) = none
  | [], _, _ => rfl
  | k :: ks, n, h => by
    rw [show placesFrom n (k :: ks) = (rowK k, V.int (n : Int)) :: placesFrom (n + 1) ks from rfl, valV_neg (fun z => h (by rw [← rowK_inj z]; exact List.mem_cons_self ..))]
    exact placesFrom_none ks (n + 1) fun z => h (List.mem_cons_of_mem _ z)
theorem placesFrom_some {r : Row} : ∀ (ks : List Row) (n i : Nat), ks.Nodup → ks[i]? = some r → valV (placesFrom n ks) (rowK r) = some (.int ((n + i : Nat) : Int))
  | [], _, _, _, h => by cases h
  | k :: ks, n, 0, _, h => by
    have e : k = r := Option.some.inj h
    rw [show placesFrom n (k :: ks) = (rowK k, V.int (n : Int)) :: placesFrom (n + 1) ks from rfl, valV_pos (by rw [e])]
    rfl
  | k :: ks, n, i + 1, nd, h => by
    have h' : ks[i]? = some r := h
    have ne : ¬ rowK k = rowK r := fun z => (List.nodup_cons.mp nd).1 (by rw [rowK_inj z]; exact List.mem_of_getElem? h')
    rw [show placesFrom n (k :: ks) = (rowK k, V.int (n : Int)) :: placesFrom (n + 1) ks from rfl, valV_neg ne, placesFrom_some ks (n + 1) i (List.nodup_cons.mp nd).2 h', show n + 1 + i = n + (i + 1) by omega]
theorem placesFrom_snoc (r : Row) : ∀ (ks : List Row) (n : Nat), placesFrom n (ks ++ [r]) = placesFrom n ks ++ [(rowK r, .int ((n + ks.length : Nat) : Int))]
  | [], n => rfl
  | k :: ks, n => by
    show (rowK k, V.int (n : Int)) :: placesFrom (n + 1) (ks ++ [r]) = (rowK k, V.int (n : Int)) :: (placesFrom (n + 1) ks ++ _)
    rw [placesFrom_snoc r ks (n + 1), List.length_cons, show n + 1 + ks.length = n + (ks.length + 1) by omega]
theorem placesFrom_len : ∀ (ks : List Row) (n : Nat), (placesFrom n ks).length = ks.length
  | [], _ => rfl
  | _ :: ks, n => by show (placesFrom (n + 1) ks).length + 1 = ks.length + 1; rw [placesFrom_len]
/-! the kept rows -/
def fixAt (ks : List Row) (w : Nat) : Prop := ∃ b, ks[w]? = some (.fix b)
def invAt (ks : List Row) (w : Nat) : Prop := ∃ a, ks[w]? = some (.inv a)
def FormR (ks : List Row) : Row → Prop
  | .inv a => ¬ fixAt ks a ∧ ¬ invAt ks a
  | .bin _ a b => a < b ∧ ¬ fixAt ks a ∧ ¬ fixAt ks b
  | _ => True
structure KOk (N : Str → Prop) (old ks : List Row) : Prop where
  ok : RowsOk N ks
  nl : NoLats ks
  nd : ks.Nodup
  form : ∀ r ∈ ks, FormR ks r
  ins : ∀ n k, Row.inn n k ∈ ks → Row.inn n k ∈ old
def Grow (ks ks' : List Row) : Prop := ∃ t, ks' = ks ++ t ∧ t.length ≤ 1
theorem Grow.refl (ks : List Row) : Grow ks ks := ⟨[], (List.append_nil ks).symm, Nat.zero_le _⟩
theorem Grow.len {ks ks' : List Row} (h : Grow ks ks') : ks.length ≤ ks'.length ∧ ks'.length ≤ ks.length + 1 := by
  obtain ⟨t, rfl, h⟩ := h
  rw [List.length_append]
  omega
theorem Grow.get {ks ks' : List Row} (h : Grow ks ks') {w : Nat} (hw : w < ks.length) : ks'[w]? = ks[w]? := by
  obtain ⟨t, rfl, h⟩ := h
  exact List.getElem?_append_left hw
def Fit (N : Str → Prop) (old ks : List Row) (r : Row) : Prop := RowOk N ks.length r ∧ noLat r ∧ FormR ks r ∧ ∀ n k, r = .inn n k → r ∈ old
theorem form_grow {N : Str → Prop} {ks t : List Row} {r : Row} (ok : RowOk N ks.length r) (h : FormR ks r) : FormR (ks ++ t) r := by
  have g : ∀ a, a < ks.length → (ks ++ t)[a]? = ks[a]? := fun a ha => List.getElem?_append_left ha
  cases r with
  | inv a =>
    have ha : a < ks.length := ok
    exact ⟨fun ⟨b, e⟩ => h.1 ⟨b, by rw [← g a ha]; exact e⟩, fun ⟨b, e⟩ => h.2 ⟨b, by rw [← g a ha]; exact e⟩⟩
  | bin o a b =>
    exact ⟨h.1, fun ⟨c, e⟩ => h.2.1 ⟨c, by rw [← g a ok.1]; exact e⟩, fun ⟨c, e⟩ => h.2.2 ⟨c, by rw [← g b ok.2]; exact e⟩⟩
  | _ => exact True.intro
theorem rowOk_le {N : Str → Prop} {n m : Nat} {r : Row} (h : RowOk N n r) (l : n ≤ m) : RowOk N m r := by
  cases r with
  | fix b => exact h
  | inn n k => exact h
  | inv a => exact Nat.lt_of_lt_of_le h l
  | bin o a b => exact ⟨Nat.lt_of_lt_of_le h.1 l, Nat.lt_of_lt_of_le h.2 l⟩
  | lat a => exact Nat.lt_of_lt_of_le h l
theorem KOk.rowOk {N : Str → Prop} {old ks : List Row} (k : KOk N old ks) {r : Row} (h : r ∈ ks) : RowOk N ks.length r := by
  obtain ⟨i, hi⟩ := List.mem_iff_getElem?.mp h
  exact rowOk_le (k.ok i r hi) (Nat.le_of_lt (List.getElem?_eq_some_iff.mp hi).1)
theorem KOk.put {N : Str → Prop} {old ks : List Row} {r : Row} (k : KOk N old ks) (f : Fit N old ks r) (new : r ∉ ks) : KOk N old (ks ++ [r]) := by
  refine ⟨k.ok.snoc f.1, k.nl.snoc f.2.1, ?_, fun x hx => ?_, fun n j hx => ?_⟩
  · refine List.nodup_append.mpr ⟨k.nd, List.nodup_cons.mpr ⟨(fun z => by cases z), List.nodup_nil⟩, fun x hx y hy e => ?_⟩
    rw [List.mem_singleton.mp hy] at e
    exact new (e ▸ hx)
  · rcases List.mem_append.mp hx with e | e
    · exact form_grow (k.rowOk e) (k.form x e)
    · rw [List.mem_singleton.mp e]
      exact form_grow f.1 f.2.2.1
  · rcases List.mem_append.mp hx with e | e
    · exact k.ins n j e
    · have e' := List.mem_singleton.mp e
      have := f.2.2.2 n j e'.symm
      rw [← e'] at this
      exact this
/-! what a wire tells -/
def bit (ws : List (Str × Int)) (ks : List Row) (w : Nat) : Int := (toldL ws ks).getD w 0
theorem run_grow (f : List Int → Row → Int) {ks t : List Row} {w : Nat} (h : w < ks.length) : (runL f (ks ++ t)).getD w 0 = (runL f ks).getD w 0 := by
  have e := runL_take f (ks ++ t) ks.length
  rw [List.take_left'  rfl] at e
  rw [e, List.getD_eq_getElem?_getD, List.getD_eq_getElem?_getD, List.getElem?_take, if_pos h]
theorem bit_grow {ks ks' : List Row} (g : Grow ks ks') (ws : List (Str × Int)) {w : Nat} (h : w < ks.length) : bit ws ks' w = bit ws ks w := by
  obtain ⟨t, rfl, _⟩ := g
  exact run_grow (gateI ws) h
theorem dep_grow {ks ks' : List Row} (g : Grow ks ks') {w : Nat} (h : w < ks.length) : dep ks' w = dep ks w := by
  obtain ⟨t, rfl, _⟩ := g
  exact run_grow deepI h
theorem run_at (f : List Int → Row → Int) {ks : List Row} {w : Nat} {r : Row} (h : ks[w]? = some r) : (runL f ks).getD w 0 = f ((runL f ks).take w) r := by
  rw [List.getD_eq_getElem?_getD, runL_get f h]
  rfl
theorem take_getD {xs : List Int} {w a : Nat} (h : a < w) : (xs.take w).getD a 0 = xs.getD a 0 := by
  rw [List.getD_eq_getElem?_getD, List.getD_eq_getElem?_getD, List.getElem?_take, if_pos h]
theorem bit_fix {ws : List (Str × Int)} {ks : List Row} {w : Nat} {b : Int} (h : ks[w]? = some (.fix b)) : bit ws ks w = b := run_at (gateI ws) h
theorem bit_inn {ws : List (Str × Int)} {ks : List Row} {w : Nat} {n : Str} {k : Nat} (h : ks[w]? = some (.inn n k)) : bit ws ks w = (lookW ws n).getD 0 / 2 ^ k % 2 := run_at (gateI ws) h
theorem bit_inv {N : Str → Prop} {ws : List (Str × Int)} {ks : List Row} {w a : Nat} (ok : RowsOk N ks) (h : ks[w]? = some (.inv a)) : bit ws ks w = 1 - bit ws ks a := by
  have ha : a < w := ok w _ h
  have e := run_at (gateI ws) h
  unfold bit
  show (runL (gateI ws) ks).getD w 0 = 1 - (runL (gateI ws) ks).getD a 0
  rw [e, ← take_getD ha]
  rfl
theorem bit_bin {N : Str → Prop} {ws : List (Str × Int)} {ks : List Row} {w a b : Nat} {o : Bop} (ok : RowsOk N ks) (h : ks[w]? = some (.bin o a b)) : bit ws ks w = bopI o (bit ws ks a) (bit ws ks b) := by
  have ha := ok w _ h
  have e := run_at (gateI ws) h
  unfold bit
  show (runL (gateI ws) ks).getD w 0 = bopI o ((runL (gateI ws) ks).getD a 0) ((runL (gateI ws) ks).getD b 0)
  rw [e, ← take_getD ha.1, ← take_getD ha.2]
  rfl
theorem bit_01 {N : Str → Prop} {ks : List Row} (ok : RowsOk N ks) (ws : List (Str × Int)) (w : Nat) : is01 (bit ws ks w) := by
  have h := toldL_01 ws ok ks.length
  rw [List.take_of_length_le (Nat.le_refl _)] at h
  exact all01_get h w
end Dpr

namespace Dpr
open PySem PySem.Spec PyProof.Rows L2
/-! heaps of which some places may change -/
def Fr (ms : List Addr) (H H' : Hp) : Prop := ∀ b o, H b = some o → b ∉ ms → H' b = some o
theorem Fr.refl {ms : List Addr} {H : Hp} : Fr ms H H := fun _ _ h _ => h
theorem Fr.trans {ms : List Addr} {H H1 H2 : Hp} (h : Fr ms H H1) (k : Fr ms H1 H2) : Fr ms H H2 := fun b o e n => k b o (h b o e n) n
theorem Fr.of {ms : List Addr} {H H' : Hp} (s : Same H H') : Fr ms H H' := fun b o e _ => s b o e
theorem Fr.put {ms : List Addr} {H : Hp} {a : Addr} {o : HO} (h : a ∈ ms) : Fr ms H (upd H a o) := fun b x e n => by
  rw [upd_ne (fun z => n (by rw [z]; exact h))]
  exact e
theorem Fr.same {ms : List Addr} {H0 H H' : Hp} (f : Fr ms H H') (s : Same H0 H) (n : ∀ m ∈ ms, H0 m = none) : Same H0 H' := fun b o e => f b o (s b o e) (fun z => by
  rw [n b z] at e
  cases e)
theorem Fr.mono {ms ns : List Addr} {H H' : Hp} (f : Fr ms H H') (h : ∀ m ∈ ms, m ∈ ns) : Fr ns H H' := fun b o e n => f b o e (fun z => n (h b z))
theorem seq_fr {K : PySem.W.Frag} {ms : List Addr} {H H' : Hp} {a : Addr} {xs : List V} (f : Fr ms H H') (n : a ∉ ms) (h : SqL K H a xs) : SqL K H' a xs := by
  rcases h with (h | ⟨o, h⟩) | h
  · exact .inl (.inl (f _ _ h n))
  · exact .inl (.inr ⟨o, f _ _ h n⟩)
  · exact .inr h
/-! dicts by rows -/
def NInB (Q : Bool → Hp → Prop) (y x : V) (H2 : Hp) : Prop := ∃ a o, x = .ref a ∧ DGet H2 a y o ∧ ∃ k, V.bl (!o.isSome) = .bl k ∧ Q k H2
def InB (Q : Bool → Hp → Prop) (y x : V) (H2 : Hp) : Prop := ∃ a o, x = .ref a ∧ DGet H2 a y o ∧ ∃ k, V.bl o.isSome = .bl k ∧ Q k H2
section
variable {σ : L2.St} {H : Hp} {Q : VK} {QB : Bool → Hp → Prop} {ty td : TE} {D : Ends}
theorem w_dnin (h : ty σ H fun y H1 => td σ H1 fun x H2 => NInB QB y x H2) : tB (tDNotIn ty td) σ H QB := h
theorem w_din (h : ty σ H fun y H1 => td σ H1 fun x H2 => InB QB y x H2) : tB (tDIn ty td) σ H QB := h
theorem w_NInT1 {a p : Addr} {kvs : List (List Key × V)} {k : List Key} (e : H a = some (.dT kvs)) (ep : H p = some (.tup (k.map kV))) (n : valV kvs k = none) (q : QB true H) : NInB QB (.ref p) (.ref a) H :=
  ⟨a, none, rfl, by rw [← n]; exact DGet.t e ep, true, rfl, q⟩
theorem w_NInT0 {a p : Addr} {kvs : List (List Key × V)} {k : List Key} {v : V} (e : H a = some (.dT kvs)) (ep : H p = some (.tup (k.map kV))) (n : valV kvs k = some v) (q : QB false H) : NInB QB (.ref p) (.ref a) H :=
  ⟨a, some v, rfl, by rw [← n]; exact DGet.t e ep, false, rfl, q⟩
theorem w_DGT {a p : Addr} {kvs : List (List Key × V)} {k : List Key} {v : V} (e : H a = some (.dT kvs)) (ep : H p = some (.tup (k.map kV))) (n : valV kvs k = some v) (q : Q v H) : DG1 (.ref a) (.ref p) H Q :=
  ⟨a, v, rfl, by rw [← n]; exact DGet.t e ep, q⟩
theorem w_DPutT {a p : Addr} {kvs : List (List Key × V)} {k : List Key} {v : V} (e : H a = some (.dT kvs)) (ep : H p = some (.tup (k.map kV))) (hl : kvs.length ≤ 1000000) (q : D.nx σ (upd H a (.dT (putK kvs k v)))) : DPutB D σ v (.ref a) (.ref p) H :=
  ⟨a, _, rfl, .inr ⟨kvs, k, p, e, rfl, ep, Nat.lt_of_le_of_lt hl (by rw [sizeLine_eq]; decide), rfl⟩, q⟩
theorem w_dnewT (h : ∀ p H', H p = none → Same H H' → H' p = some (.dT []) → Q (.ref p) H') : tDNewT σ H Q := fun p hp => h p _ hp (same_upd hp) upd_same
end
theorem w_notNoI {i : Int} {H : Hp} {Q : VK} (h : Q (.bl true) H) : rNotNo (.int i) .non H Q := ⟨rfl, h⟩
/-! objects made -/
section
variable {σ : L2.St} {H H1 : Hp} {Q : VK} {C : Addr} {sp : Sp} {vs dvs : List V} {E : XK} {t : TA}
def MkB (C : Addr) (sp : Sp) (dvs : List V) (E : XK) (Q : VK) (vs : List V) (H1 : Hp) : Prop := ∀ x dx, H1 x = none → H1 dx = none → dx ≠ x → sp (.ref x :: (vs ++ dvs)) (upd (upd H1 dx (.own x)) x (.ins C dx [])) (fun v H2 => v = .non ∧ Q (.ref x) H2) E
theorem w_mk (h : t σ H fun vs H1 => MkB C sp dvs E Q vs H1) : tMake C sp dvs E t σ H Q := h
theorem w_MkB (h : ∀ x dx H2, H1 x = none → H1 dx = none → Same H1 H2 → H2 x = some (.ins C dx []) → sp (.ref x :: (vs ++ dvs)) H2 (fun v H3 => v = .non ∧ Q (.ref x) H3) E) : MkB C sp dvs E Q vs H1 := fun x dx n1 n2 ne =>
  h x dx _ n1 n2 ((same_upd n2).trans (same_upd (by rw [upd_ne ne.symm]; exact n1))) upd_same
end
/-! lists set by places -/
section
variable {σ : L2.St} {H : Hp} {Q : VK} {QS : L2.St → Hp → Prop} {ta ti : TE} {ts : TSet} {v : V}
theorem w_gSub (h : ta σ H fun o H1 => ti σ H1 fun i H2 => ts o i v H2 fun H3 => QS σ H3) : gSub ta ti ts v σ H QS := h
theorem ixN_nat {n k : Nat} (h : k < n) : ixN n (k : Int) = some k := by
  unfold ixN
  rw [if_pos (by omega), if_pos (by omega), Int.toNat_natCast]
theorem w_setL {p : Addr} {xs : List V} {k : Nat} {QH : Hp → Prop} (hp : H p = some (.lst xs)) (hk : k < xs.length) (q : QH (upd H p (.lst (xs.set k v)))) : rSetL (.ref p) (.int (k : Int)) v H QH := ⟨p, xs, k, k, rfl, rfl, hp, ixN_nat hk, q⟩
end
/-! tuples of lists, tuples joined -/
def rTupOf (K : PySem.W.Frag) : List V → Hp → VK → Prop := fun xs H Q => ∃ p ys, xs = [.ref p] ∧ ((SqL K H p ys ∧ ∀ l, H l = none → Q (.ref l) (upd H l (.tup ys))) ∨ (SqT K H p ys ∧ Q (.ref p) H))
theorem c_tupK {X : Cx} (K : PySem.W.Frag) (e : X.K = K := by rfl) : CallR X (.type "tuple") (rTupOf K) := by subst e; exact call_tuple_of
theorem w_tupL {K : PySem.W.Frag} {H : Hp} {Q : VK} {p : Addr} {xs : List V} (h : SqL K H p xs) (q : ∀ l H', H l = none → Same H H' → H' l = some (.tup xs) → Q (.ref l) H') : rTupOf K [.ref p] H Q := ⟨p, xs, rfl, .inl ⟨h, fun l hl => q l _ hl (same_upd hl) upd_same⟩⟩
theorem op_catTK {X : Cx} (K : PySem.W.Frag) (e : X.K = K := by rfl) : OpR X (binaryOp .Add) (rCatT K) := by subst e; exact op_catT
theorem w_catT {K : PySem.W.Frag} {H : Hp} {Q : VK} {a b : Addr} {xs ys : List V} (ha : SqT K H a xs) (hb : SqT K H b ys) (hx : xs ≠ []) (hy : ys ≠ []) (hz : xs.length + ys.length ≤ 1000) (q : ∀ l H', H l = none → Same H H' → H' l = some (.tup (xs ++ ys)) → Q (.ref l) H') : rCatT K (.ref a) (.ref b) H Q :=
  ⟨a, b, xs, ys, rfl, rfl, ha, hb, hx, Nat.le_trans hz (by rw [sizeLine_eq]; decide), fun z => absurd z hy, fun _ l hl => q l _ hl (same_upd hl) upd_same⟩
/-- a comprehension over a tuple -/
theorem lc_t {K : PySem.W.Frag} {σ : L2.St} {H : Hp} {Q : VK} {te : TE} {vs : List Nat} {a : Addr} {j : Nat} (xs ys : List V) (hlen : ys.length = xs.length) (hS : SqT K H a xs) (hz : xs.length ≤ 1000000) (hw : ∀ x, wipe ((wipe σ vs).set j (some x)) vs = wipe σ vs)
    (he : ∀ (i : Nat) x y H' (Q' : VK), xs[i]? = some x → ys[i]? = some y → Same H H' → Q' y H' → te ((wipe σ vs).set j (some x)) H' Q')
    (q : ∀ p H', H p = none → Same H H' → H' p = some (.lst ys) → Q (.ref p) H') : LcB (Itt K a) (gName j) tYes te vs σ Q H := fun p hp =>
  lc_tup (xs := xs) (fun i H' => H' = upd H p (.lst (ys.take i))) rfl (fun i H' _ e => by
    subst e
    exact same_tup (same_upd hp) hS) (fun i x H' hx e => by
    subst e
    have hi := (List.getElem?_eq_some_iff.mp hx).1
    have hy : ys[i]? = some ys[i] := List.getElem?_eq_getElem (by omega)
    show wipe ((wipe σ vs).set j (some x)) vs = wipe σ vs ∧ te ((wipe σ vs).set j (some x)) (upd H p (.lst (ys.take i)))
      (fun y H4 => ∃ acc, H4 p = some (.lst acc) ∧ acc.length < sizeLine ∧ upd H4 p (.lst (acc ++ [y])) = upd H p (.lst (ys.take (i + 1))))
    refine ⟨hw _, he i x _ _ _ hx hy (same_upd hp) ⟨_, upd_same, ?_, ?_⟩⟩
    · rw [List.length_take]
      exact Nat.lt_of_lt_of_le (show min i ys.length < 16777216 by omega) (by rw [sizeLine_eq]; exact Nat.le_refl _)
    · rw [upd_upd, List.take_add_one, hy]
      rfl) fun H' e => by
    subst e
    refine q p _ hp (same_upd hp) ?_
    rw [upd_same, List.take_of_length_le (by omega)]
end Dpr

namespace Dpr
open PySem PySem.Spec PyProof.Rows L2
theorem natI_map (ws : List Nat) : (natI ws).map V.int = ws.map fun (z : Nat) => V.int (z : Int) := by unfold natI; rw [List.map_map]; rfl
theorem ref_at {ps : List Addr} {w : Nat} {p : Addr} (hp : ps[w]? = some p) : atI (ps.map V.ref) (w : Int) = some (.ref p) := atI_nat (by rw [List.getElem?_map, hp]; rfl)
end Dpr

namespace Dpr
open PySem PySem.Spec PyProof.Rows L2
/-! depths, row by row -/
theorem dep_own {N : Str → Prop} {ks : List Row} (ok : RowsOk N ks) {w a : Nat} {r : Row} (h : ks[w]? = some r) (ha : a ∈ ownR r) : dep ks a + 1 ≤ dep ks w := by
  rw [dep_eq ok h]
  exact (fold_top_le (fun z => dep ks z + 1) (ownR r) 0).2 a ha
theorem dep_le_of {N : Str → Prop} {ks : List Row} (ok : RowsOk N ks) {w : Nat} {r : Row} {m : Int} (h : ks[w]? = some r) (hm : 0 ≤ m) (k : ∀ a ∈ ownR r, dep ks a + 1 ≤ m) : dep ks w ≤ m := by
  rw [dep_eq ok h]
  rcases fold_top (fun z => dep ks z + 1) (ownR r) 0 with e | ⟨z, hz, e⟩
  · rw [e]; exact hm
  · rw [e]; exact k z hz
/-! which wires are needed -/
def markL (fs : List Bool) (ws : List Nat) : List Bool := ws.foldl (fun f w => f.set w true) fs
theorem mark_len : ∀ (ws : List Nat) (fs : List Bool), (markL fs ws).length = fs.length
  | [], _ => rfl
  | w :: ws, fs => by
    show (markL (fs.set w true) ws).length = fs.length
    rw [mark_len ws, List.length_set]
theorem mark_get : ∀ (ws : List Nat) (fs : List Bool) (x : Nat), x < fs.length → ((markL fs ws)[x]? = some true ↔ x ∈ ws ∨ fs[x]? = some true)
  | [], fs, x, _ => ⟨.inr, fun h => h.resolve_left (fun z => by cases z)⟩
  | w :: ws, fs, x, hx => by
    show (markL (fs.set w true) ws)[x]? = some true ↔ _
    rw [mark_get ws (fs.set w true) x (by rw [List.length_set]; exact hx), List.getElem?_set]
    by_cases e : w = x
    · subst e
      rw [if_pos rfl, if_pos hx]
      exact ⟨fun _ => .inl (List.mem_cons_self ..), fun _ => .inr rfl⟩
    · rw [if_neg e, List.mem_cons]
      exact ⟨fun h => h.elim (fun a => .inl (.inr a)) .inr, fun h => h.elim (fun a => a.elim (fun z => absurd z.symm e) .inl) .inr⟩
theorem mark_snoc (fs : List Bool) (ws : List Nat) (w : Nat) : markL fs (ws ++ [w]) = (markL fs ws).set w true := by
  unfold markL
  rw [List.foldl_append]
  rfl
def NeedI (rs : List Row) (outs : List Nat) (n i : Nat) (fs : List Bool) : Prop := fs.length = n ∧ ∀ w, w < n → (fs[w]? = some true ↔ w ∈ outs ∨ ∃ j r, n - i ≤ j ∧ rs[j]? = some r ∧ w ∈ ownR r ∧ fs[j]? = some true)
theorem NeedI.start {rs : List Row} {outs : List Nat} (n : Nat) (hn : rs.length = n) : NeedI rs outs n 0 (markL (List.replicate n false) outs) := by
  have hl : (List.replicate n false).length = n := List.length_replicate
  refine ⟨by rw [mark_len, hl], fun w hw => ?_⟩
  rw [mark_get _ _ _ (by rw [hl]; exact hw)]
  constructor
  · rintro (h | h)
    · exact .inl h
    · rw [List.getElem?_replicate, if_pos hw] at h
      cases h
  · rintro (h | ⟨j, r, h1, h2, _⟩)
    · exact .inl h
    · have := (List.getElem?_eq_some_iff.mp h2).1
      omega
theorem NeedI.skip {rs : List Row} {outs : List Nat} {n i : Nat} {fs : List Bool} (h : NeedI rs outs n i fs) (hf : ¬ fs[n - (i + 1)]? = some true) (hi : i < n) : NeedI rs outs n (i + 1) fs := by
  refine ⟨h.1, fun w hw => ?_⟩
  rw [h.2 w hw]
  constructor
  · rintro (k | ⟨j, r, h1, h2⟩)
    · exact .inl k
    · exact .inr ⟨j, r, by omega, h2⟩
  · rintro (k | ⟨j, r, h1, h2, h3, h4⟩)
    · exact .inl k
    · by_cases e : n - i ≤ j
      · exact .inr ⟨j, r, e, h2, h3, h4⟩
      · have e2 : j = n - (i + 1) := by omega
        rw [e2] at h4
        exact absurd h4 hf
theorem NeedI.mark {N : Str → Prop} {rs : List Row} {outs : List Nat} {n i : Nat} {fs : List Bool} {r : Row} (ok : RowsOk N rs) (h : NeedI rs outs n i fs) (hf : fs[n - (i + 1)]? = some true) (hi : i < n) (hr : rs[n - (i + 1)]? = some r) : NeedI rs outs n (i + 1) (markL fs (ownR r)) := by
  have lt := own_lt (ok _ r hr)
  have same : ∀ j, n - (i + 1) ≤ j → j < n → ((markL fs (ownR r))[j]? = some true ↔ fs[j]? = some true) := fun j h1 h2 => by
    rw [mark_get _ _ _ (by rw [h.1]; exact h2)]
    exact ⟨fun k => k.resolve_left (fun z => by have := lt j z; omega), .inr⟩
  have inn : ∀ j, (markL fs (ownR r))[j]? = some true → j < n := fun j z => by
    have := (List.getElem?_eq_some_iff.mp z).1
    rw [mark_len, h.1] at this
    exact this
  have inn2 : ∀ j, fs[j]? = some true → j < n := fun j z => by
    have := (List.getElem?_eq_some_iff.mp z).1
    rw [h.1] at this
    exact this
  refine ⟨by rw [mark_len]; exact h.1, fun w hw => ?_⟩
  rw [mark_get _ _ _ (by rw [h.1]; exact hw), h.2 w hw]
  constructor
  · rintro (k | k | ⟨j, s, h1, h2, h3, h4⟩)
    · exact .inr ⟨n - (i + 1), r, Nat.le_refl _, hr, k, (same _ (Nat.le_refl _) (by omega)).mpr hf⟩
    · exact .inl k
    · exact .inr ⟨j, s, by omega, h2, h3, (same j (by omega) (inn2 j h4)).mpr h4⟩
  · rintro (k | ⟨j, s, h1, h2, h3, h4⟩)
    · exact .inr (.inl k)
    · have h5 := (same j h1 (inn j h4)).mp h4
      by_cases e : n - i ≤ j
      · exact .inr (.inr ⟨j, s, e, h2, h3, h5⟩)
      · have e2 : j = n - (i + 1) := by omega
        rw [e2, hr] at h2
        cases h2
        exact .inl h3
/-! rows numbered anew -/
def cnt (fs : List Bool) (j : Nat) : Nat := (fs.take j).count true
theorem cnt_succ {fs : List Bool} {j : Nat} {b : Bool} (h : fs[j]? = some b) : cnt fs (j + 1) = cnt fs j + (if b = true then 1 else 0) := by
  unfold cnt
  rw [take_snoc h, List.count_append]
  cases b <;> rfl
theorem cnt_mono (fs : List Bool) {i j : Nat} (h : i ≤ j) : cnt fs i ≤ cnt fs j := by
  unfold cnt
  exact List.Sublist.count_le true (List.take_sublist_take_left h)
theorem cnt_lt {fs : List Bool} {i j : Nat} (h : i < j) (hi : fs[i]? = some true) : cnt fs i < cnt fs j := by
  have e := cnt_succ hi
  rw [if_pos rfl] at e
  have := cnt_mono fs (show i + 1 ≤ j from h)
  omega
theorem cnt_le (fs : List Bool) (j : Nat) : cnt fs j ≤ j := by
  unfold cnt
  exact Nat.le_trans List.count_le_length (by rw [List.length_take]; omega)
theorem cnt_inv (fs : List Bool) : ∀ (i k : Nat), i ≤ fs.length → k < cnt fs i → ∃ j, j < i ∧ fs[j]? = some true ∧ cnt fs j = k
  | 0, k, _, h => by unfold cnt at h; rw [List.take_zero] at h; simp at h
  | i + 1, k, hl, h => by
    have hi : i < fs.length := by omega
    have e := cnt_succ (List.getElem?_eq_getElem hi)
    by_cases c : k < cnt fs i
    · obtain ⟨j, h1, h2, h3⟩ := cnt_inv fs i k (by omega) c
      exact ⟨j, by omega, h2, h3⟩
    · cases g : fs[i] with
      | true =>
        rw [g, if_pos rfl] at e
        exact ⟨i, Nat.lt_succ_self _, by rw [List.getElem?_eq_getElem hi, g], by omega⟩
      | false =>
        rw [g, if_neg Bool.false_ne_true] at e
        omega
def renR (f : Nat → Nat) : Row → Row
  | .inv a => .inv (f a)
  | .bin o a b => .bin o (f a) (f b)
  | r => r
theorem own_ren (f : Nat → Nat) (r : Row) (nl : noLat r) : ownR (renR f r) = (ownR r).map f := by
  cases r <;> first | rfl | exact nl.elim
theorem ren_inj {f : Nat → Nat} {r s : Row} (n1 : noLat r) (n2 : noLat s) (i : ∀ x ∈ ownR r, ∀ y ∈ ownR s, f x = f y → x = y) (h : renR f r = renR f s) : r = s := by
  cases r with
  | fix b =>
    cases s with
    | fix c => exact h
    | lat c => exact n2.elim
    | _ => exact Row.noConfusion h
  | inn m k =>
    cases s with
    | inn c d => exact h
    | lat c => exact n2.elim
    | _ => exact Row.noConfusion h
  | lat a => exact n1.elim
  | inv a =>
    cases s with
    | inv b => rw [i a (List.mem_cons_self ..) b (List.mem_cons_self ..) (Row.inv.inj h)]
    | lat c => exact n2.elim
    | _ => exact Row.noConfusion h
  | bin p a b =>
    cases s with
    | bin q c d =>
      obtain ⟨e1, e2, e3⟩ := Row.bin.inj h
      rw [e1, i a (List.mem_cons_self ..) c (List.mem_cons_self ..) e2, i b (List.mem_cons_of_mem _ (List.mem_cons_self ..)) d (List.mem_cons_of_mem _ (List.mem_cons_self ..)) e3]
    | lat c => exact n2.elim
    | _ => exact Row.noConfusion h
def Ren (rs : List Row) (fs : List Bool) (i : Nat) (made : List Row) : Prop := made.length = cnt fs i ∧ ∀ j r, j < i → rs[j]? = some r → fs[j]? = some true → made[cnt fs j]? = some (renR (cnt fs) r)
theorem Ren.start (rs : List Row) (fs : List Bool) : Ren rs fs 0 [] := ⟨rfl, fun j r h => by omega⟩
theorem Ren.skip {rs : List Row} {fs : List Bool} {i : Nat} {made : List Row} (h : Ren rs fs i made) (hi : fs[i]? = some false) : Ren rs fs (i + 1) made := by
  refine ⟨by rw [cnt_succ hi, h.1]; rfl, fun j r hj hr hf => ?_⟩
  by_cases e : j < i
  · exact h.2 j r e hr hf
  · rw [show j = i by omega, hi] at hf
    cases hf
theorem Ren.put {rs : List Row} {fs : List Bool} {i : Nat} {made : List Row} {r : Row} (h : Ren rs fs i made) (hi : fs[i]? = some true) (hr : rs[i]? = some r) : Ren rs fs (i + 1) (made ++ [renR (cnt fs) r]) := by
  refine ⟨by rw [List.length_append, cnt_succ hi, h.1]; rfl, fun j s hj hs hf => ?_⟩
  by_cases e : j < i
  · have := cnt_lt e hf
    rw [List.getElem?_append_left (by rw [h.1]; exact this)]
    exact h.2 j s e hs hf
  · obtain rfl : j = i := by omega
    rw [hr] at hs
    cases hs
    rw [← h.1, List.getElem?_append_right (Nat.le_refl _), Nat.sub_self]
    rfl
/-! rows made fewer -/
structure FewOk (N : Str → Prop) (rs : List Row) (outs : List Nat) (made : List Row) (outs' : List Nat) : Prop where
  kok : KOk N rs made
  len : made.length ≤ rs.length
  olen : outs'.length = outs.length
  olt : ∀ o ∈ outs', o < made.length
  same : ∀ (i o o' : Nat), outs[i]? = some o → outs'[i]? = some o' → (∀ ws, bit ws made o' = bit ws rs o) ∧ dep made o' ≤ dep rs o
  used : ∀ k, k < made.length → k ∈ outs' ∨ ∃ (j : Nat) (r : Row), made[j]? = some r ∧ k ∈ ownR r
section
variable {N : Str → Prop} {old ks made : List Row} {outs : List Nat} {fs : List Bool}
theorem ren_row (kok : KOk N old ks) (hR : Ren ks fs ks.length made) (hl : fs.length = ks.length) {k : Nat} {s : Row} (h : made[k]? = some s) : ∃ j r, ks[j]? = some r ∧ fs[j]? = some true ∧ cnt fs j = k ∧ s = renR (cnt fs) r := by
  have hk := (List.getElem?_eq_some_iff.mp h).1
  rw [hR.1] at hk
  obtain ⟨j, h1, h2, h3⟩ := cnt_inv fs _ k (by rw [hl]; exact Nat.le_refl _) hk
  refine ⟨j, ks[j], List.getElem?_eq_getElem h1, h2, h3, ?_⟩
  have e := hR.2 j _ h1 (List.getElem?_eq_getElem h1) h2
  rw [h3, h] at e
  exact Option.some.inj e
theorem need_own (hN : NeedI ks outs ks.length ks.length fs) (ok : RowsOk N ks) {j a : Nat} {r : Row} (hr : ks[j]? = some r) (hf : fs[j]? = some true) (ha : a ∈ ownR r) : a < j ∧ fs[a]? = some true := by
  have lt := own_lt (ok j r hr) a ha
  have hj := (List.getElem?_eq_some_iff.mp hr).1
  exact ⟨lt, (hN.2 a (by omega)).mpr (.inr ⟨j, r, by omega, hr, ha, hf⟩)⟩
theorem ren_ok (kok : KOk N old ks) (hN : NeedI ks outs ks.length ks.length fs) (hR : Ren ks fs ks.length made) : KOk N old made := by
  have row := fun {k : Nat} {s : Row} (h : made[k]? = some s) => ren_row kok hR hN.1 h
  have inj : ∀ (i j : Nat), fs[i]? = some true → fs[j]? = some true → cnt fs i = cnt fs j → i = j := fun i j hi hj e => by
    rcases Nat.lt_trichotomy i j with q | q | q
    · have := cnt_lt q hi; omega
    · exact q
    · have := cnt_lt q hj; omega
  have own : ∀ {j : Nat} {r : Row}, ks[j]? = some r → fs[j]? = some true → ∀ a ∈ ownR r, cnt fs a < cnt fs j ∧ fs[a]? = some true := fun hr hf a ha => by
    obtain ⟨h1, h2⟩ := need_own hN kok.ok hr hf ha
    exact ⟨cnt_lt h1 h2, h2⟩
  have at' : ∀ {j : Nat} {r : Row}, ks[j]? = some r → fs[j]? = some true → made[cnt fs j]? = some (renR (cnt fs) r) := fun hr hf => hR.2 _ _ (List.getElem?_eq_some_iff.mp hr).1 hr hf
  have back : ∀ {a : Nat} {s : Row}, fs[a]? = some true → made[cnt fs a]? = some s → ∃ r, ks[a]? = some r ∧ s = renR (cnt fs) r := fun {a s} ha hs => by
    obtain ⟨j, r, h1, h2, h3, h4⟩ := row hs
    obtain rfl := inj _ _ h2 ha h3
    exact ⟨r, h1, h4⟩
  have nofix : ∀ {a : Nat}, fs[a]? = some true → ¬ fixAt ks a → ¬ fixAt made (cnt fs a) := fun {a} ha hn ⟨b, hb⟩ => by
    obtain ⟨r, h1, h2⟩ := back ha hb
    cases r with
    | fix c => exact hn ⟨c, h1⟩
    | _ => cases h2
  have noinv : ∀ {a : Nat}, fs[a]? = some true → ¬ invAt ks a → ¬ invAt made (cnt fs a) := fun {a} ha hn ⟨b, hb⟩ => by
    obtain ⟨r, h1, h2⟩ := back ha hb
    cases r with
    | inv c => exact hn ⟨c, h1⟩
    | _ => cases h2
  refine ⟨fun k s hs => ?_, fun s hs => ?_, ?_, fun s hs => ?_, fun n k hs => ?_⟩
  · obtain ⟨j, r, h1, h2, h3, rfl⟩ := row hs
    have o := own h1 h2
    have okr := kok.ok j r h1
    rw [← h3]
    cases r with
    | fix b => exact okr
    | inn m k => exact okr
    | inv a => exact (o a (List.mem_cons_self ..)).1
    | bin p a b => exact ⟨(o a (List.mem_cons_self ..)).1, (o b (List.mem_cons_of_mem _ (List.mem_cons_self ..))).1⟩
    | lat a => exact (kok.nl _ (List.mem_of_getElem? h1)).elim
  · obtain ⟨k, hk⟩ := List.mem_iff_getElem?.mp hs
    obtain ⟨j, r, h1, h2, h3, rfl⟩ := row hk
    have := kok.nl _ (List.mem_of_getElem? h1)
    cases r <;> first | exact True.intro | exact this.elim
  · rw [List.nodup_iff_pairwise_ne, List.pairwise_iff_getElem]
    intro i j hi hj hij e
    obtain ⟨i', r, h1, h2, h3, h4⟩ := row (List.getElem?_eq_getElem hi)
    obtain ⟨j', s, g1, g2, g3, g4⟩ := row (List.getElem?_eq_getElem hj)
    rw [e, g4] at h4
    have o1 := own h1 h2
    have o2 := own g1 g2
    have n1 := kok.nl _ (List.mem_of_getElem? h1)
    have n2 := kok.nl _ (List.mem_of_getElem? g1)
    have e2 : r = s := ren_inj n1 n2 (fun x hx y hy e => inj x y (o1 x hx).2 (o2 y hy).2 e) h4.symm
    subst e2
    have hj' := (List.getElem?_eq_some_iff.mp h1)
    have hi' := (List.getElem?_eq_some_iff.mp g1)
    have : i' = j' := (List.getElem_inj kok.nd).mp (hj'.2.trans hi'.2.symm)
    subst this
    omega
  · obtain ⟨k, hk⟩ := List.mem_iff_getElem?.mp hs
    obtain ⟨j, r, h1, h2, h3, rfl⟩ := row hk
    have o := own h1 h2
    have f := kok.form r (List.mem_of_getElem? h1)
    cases r with
    | inv a =>
      have ha := (o a (List.mem_cons_self ..)).2
      exact ⟨nofix ha f.1, noinv ha f.2⟩
    | bin p a b =>
      have ha := (o a (List.mem_cons_self ..)).2
      have hb := (o b (List.mem_cons_of_mem _ (List.mem_cons_self ..))).2
      exact ⟨cnt_lt f.1 ha, nofix ha f.2.1, nofix hb f.2.2⟩
    | _ => exact True.intro
  · obtain ⟨i, hi⟩ := List.mem_iff_getElem?.mp hs
    obtain ⟨j, r, h1, h2, h3, h4⟩ := row hi
    cases r with
    | inn m l =>
      have e := h4
      unfold renR at e
      rw [e]
      exact kok.ins m l (List.mem_of_getElem? h1)
    | _ => cases h4
theorem ren_same (kok : KOk N old ks) (hN : NeedI ks outs ks.length ks.length fs) (hR : Ren ks fs ks.length made) : ∀ (n j : Nat), j < n → fs[j]? = some true → (∀ ws, bit ws made (cnt fs j) = bit ws ks j) ∧ dep made (cnt fs j) ≤ dep ks j
  | 0, j, h, _ => by omega
  | n + 1, j, h, hf => by
    have ok' := (ren_ok kok hN hR).ok
    have ih := ren_same kok hN hR n
    have hj : j < ks.length := by
      have := (List.getElem?_eq_some_iff.mp hf).1
      rw [hN.1] at this
      exact this
    have hr := List.getElem?_eq_getElem hj
    have hm := hR.2 j _ hj hr hf
    have o := fun a ha => need_own hN kok.ok hr hf (a := a) ha
    refine ⟨fun ws => ?_, ?_⟩
    · generalize ks[j] = r at *
      cases r with
      | fix b => rw [bit_fix hr, bit_fix hm]
      | inn m k => rw [bit_inn hr, bit_inn hm]
      | inv a =>
        obtain ⟨h1, h2⟩ := o a (List.mem_cons_self ..)
        rw [bit_inv kok.ok hr, bit_inv ok' hm, (ih a (by omega) h2).1]
      | bin p a b =>
        obtain ⟨h1, h2⟩ := o a (List.mem_cons_self ..)
        obtain ⟨g1, g2⟩ := o b (List.mem_cons_of_mem _ (List.mem_cons_self ..))
        rw [bit_bin kok.ok hr, bit_bin ok' hm, (ih a (by omega) h2).1, (ih b (by omega) g2).1]
      | lat a => exact (kok.nl _ (List.mem_of_getElem? hr)).elim
    · refine dep_le_of ok' hm (dep_nn kok.ok j) fun a ha => ?_
      rw [own_ren _ _ (kok.nl _ (List.mem_of_getElem? hr))] at ha
      obtain ⟨b, hb, rfl⟩ := List.mem_map.mp ha
      obtain ⟨h1, h2⟩ := o b hb
      have := dep_own kok.ok hr hb
      have := (ih b (by omega) h2).2
      omega
theorem few_of {rs : List Row} {new : List Nat} {os : List Nat} (kok : KOk N rs ks) (hlen : ks.length ≤ rs.length) (hnl : ∀ w ∈ new, w < ks.length) (hol : ∀ o ∈ os, o < new.length)
    (hnew : ∀ (i w : Nat), new[i]? = some w → (∀ ws, bit ws ks w = bit ws rs i) ∧ dep ks w ≤ dep rs i) (ho : outs = os.map fun o => new.getD o 0) (hN : NeedI ks outs ks.length ks.length fs) (hR : Ren ks fs ks.length made) :
    FewOk N rs os made (outs.map (cnt fs)) := by
  have kok' := ren_ok kok hN hR
  have oget : ∀ (i o : Nat), os[i]? = some o → ∃ w, new[o]? = some w ∧ outs[i]? = some w := fun i o h => by
    have h2 := hol o (List.mem_of_getElem? h)
    refine ⟨new[o], List.getElem?_eq_getElem h2, ?_⟩
    rw [ho, List.getElem?_map, h, Option.map_some, List.getD_eq_getElem?_getD, List.getElem?_eq_getElem h2]
    rfl
  have need : ∀ w ∈ outs, w < ks.length ∧ fs[w]? = some true := fun w hw => by
    have hw0 := hw
    rw [ho] at hw
    obtain ⟨o, h1, h2⟩ := List.mem_map.mp hw
    obtain ⟨i, hi⟩ := List.mem_iff_getElem?.mp h1
    obtain ⟨w', g1, g2⟩ := oget i o hi
    rw [List.getD_eq_getElem?_getD, g1] at h2
    have e : w' = w := h2
    rw [e] at g1
    have hlt := hnl w (List.mem_of_getElem? g1)
    exact ⟨hlt, (hN.2 w hlt).mpr (.inl hw0)⟩
  have mlen : made.length ≤ ks.length := by rw [hR.1]; exact cnt_le _ _
  refine ⟨kok', Nat.le_trans mlen hlen, by rw [List.length_map, ho, List.length_map], fun o h => ?_, fun i o o' h1 h2 => ?_, fun k hk => ?_⟩
  · obtain ⟨w, hw, rfl⟩ := List.mem_map.mp h
    obtain ⟨h1, h2⟩ := need w hw
    rw [hR.1]
    exact cnt_lt h1 h2
  · obtain ⟨w, g1, g2⟩ := oget i o h1
    rw [List.getElem?_map, g2] at h2
    cases h2
    have hw := (need w (List.mem_of_getElem? g2)).2
    have r := ren_same kok hN hR (w + 1) w (Nat.lt_succ_self _) hw
    have s := hnew o w g1
    exact ⟨fun ws => (r.1 ws).trans (s.1 ws), Int.le_trans r.2 s.2⟩
  · rw [hR.1] at hk
    obtain ⟨j, h1, h2, h3⟩ := cnt_inv fs _ k (by rw [hN.1]; exact Nat.le_refl _) hk
    rcases (hN.2 j h1).mp h2 with q | ⟨i, r, q1, q2, q3, q4⟩
    · exact .inl (List.mem_map.mpr ⟨j, q, h3⟩)
    · refine .inr ⟨cnt fs i, _, hR.2 i r (List.getElem?_eq_some_iff.mp q2).1 q2 q4, ?_⟩
      rw [own_ren _ _ (kok.nl _ (List.mem_of_getElem? q2))]
      exact List.mem_map.mpr ⟨j, q3, h3⟩
end
end Dpr

namespace Dpr
open PySem PySem.Spec PyProof.Rows L2
/-! lists of lists of wires -/
def NatsAt (H : Hp) (p : Addr) (xs : List Nat) : Prop := H p = some (.lst ((natI xs).map V.int))
def Cols (H : Hp) (c : Addr) (ps : List Addr) (cols : List (List Nat)) : Prop := H c = some (.lst (ps.map V.ref)) ∧ A2 (NatsAt H) ps cols ∧ ps.Nodup
theorem nats_ref {xs : List Nat} {ps : List Addr} (h : ps.map V.ref = (natI xs).map V.int) : ps = [] := by
  cases ps with
  | nil => rfl
  | cons p r =>
    cases xs with
    | nil => cases h
    | cons x s => cases h
theorem Cols.cn {H : Hp} {c : Addr} {ps : List Addr} {cols : List (List Nat)} (h : Cols H c ps cols) : c ∉ ps := fun m => by
  obtain ⟨i, hi⟩ := List.mem_iff_getElem?.mp m
  obtain ⟨xs, _, e⟩ := h.2.1.get hi
  have e2 : H c = some (.lst ((natI xs).map V.int)) := e
  rw [h.1] at e2
  have := nats_ref (HO.lst.inj (Option.some.inj e2))
  rw [this] at m
  cases m
theorem Cols.at {H : Hp} {c : Addr} {ps : List Addr} {cols : List (List Nat)} (h : Cols H c ps cols) {p : Addr} (m : p ∈ ps) : ∃ xs, H p = some (.lst ((natI xs).map V.int)) := by
  obtain ⟨i, hi⟩ := List.mem_iff_getElem?.mp m
  obtain ⟨xs, _, e⟩ := h.2.1.get hi
  exact ⟨xs, e⟩
theorem Cols.fr {ms : List Addr} {H H' : Hp} {c : Addr} {ps : List Addr} {cols : List (List Nat)} (f : Fr ms H H') (nc : c ∉ ms) (np : ∀ p ∈ ps, p ∉ ms) (h : Cols H c ps cols) : Cols H' c ps cols :=
  ⟨f _ _ h.1 nc, h.2.1.mono2 fun p xs m e => f _ _ e (np p m), h.2.2⟩
theorem A2.mono3 {α β : Type} {R S : α → β → Prop} {xs : List α} {ys : List β} (h : A2 R xs ys) (k : ∀ x y, x ∈ xs → R x y → S x y) : A2 S xs ys := ⟨h.1, fun i x y a b => k x y (List.mem_of_getElem? a) (h.2 i x y a b)⟩
theorem Cols.same {H H' : Hp} {c : Addr} {ps : List Addr} {cols : List (List Nat)} (s : Same H H') (h : Cols H c ps cols) : Cols H' c ps cols := ⟨s _ _ h.1, h.2.1.mono fun _ _ e => s _ _ e, h.2.2⟩
theorem Cols.put {H : Hp} {c p : Addr} {ps : List Addr} {cols : List (List Nat)} {k : Nat} {ys : List Nat} (h : Cols H c ps cols) (hp : ps[k]? = some p) : Cols (upd H p (.lst ((natI ys).map V.int))) c ps (cols.set k ys) := by
  have hm := List.mem_of_getElem? hp
  have hk := (List.getElem?_eq_some_iff.mp hp).1
  refine ⟨?_, ⟨by rw [List.length_set]; exact h.2.1.1, fun i x zs hx hz => ?_⟩, h.2.2⟩
  · rw [upd_ne (fun z => h.cn (by rw [z]; exact hm))]
    exact h.1
  · rw [List.getElem?_set] at hz
    by_cases e : k = i
    · subst e
      rw [if_pos rfl] at hz
      rw [hp] at hx
      cases hx
      split at hz
      · cases hz
        exact upd_same
      · cases hz
    · rw [if_neg e] at hz
      have ne : x ≠ p := fun z => by
        rw [z] at hx
        have h1 := List.getElem?_eq_some_iff.mp hx
        have h2 := List.getElem?_eq_some_iff.mp hp
        exact e ((List.getElem_inj h.2.2).mp (h2.2.trans h1.2.symm))
      show upd H p _ x = _
      rw [upd_ne ne]
      exact h.2.1.2 i x zs hx hz
def addC (cols : List (List Nat)) (k w : Nat) : List (List Nat) := match cols[k]? with
  | some xs => cols.set k (xs ++ [w])
  | none => cols
theorem addC_set {cols : List (List Nat)} {k w : Nat} {xs : List Nat} (h : cols[k]? = some xs) : addC cols k w = cols.set k (xs ++ [w]) := by
  unfold addC
  rw [h]
theorem addC_no {cols : List (List Nat)} {k w : Nat} (h : cols.length ≤ k) : addC cols k w = cols := by
  unfold addC
  rw [List.getElem?_eq_none h]
theorem addC_len (cols : List (List Nat)) (k w : Nat) : (addC cols k w).length = cols.length := by
  unfold addC
  cases e : cols[k]? with
  | some xs => exact List.length_set
  | none => rfl
/-- fresh empty lists -/
theorem lc_empties {σ : L2.St} {H : Hp} {Q : VK} {vs : List Nat} {lo : Int} {n j : Nat} (hn : n < 1000000) (hw : ∀ x, wipe ((wipe σ vs).set j (some x)) vs = wipe σ vs)
    (q : ∀ (c : Addr) (ps : List Addr) H', ps.length = n → H c = none → (∀ p ∈ ps, H p = none) → Same H H' → Cols H' c ps (List.replicate n []) → Q (.ref c) H') : LcB (Itr lo n) (gName j) tYes (tLst tNil) vs σ Q H := fun D hD =>
  lc_range (lo := lo) (n := n) (fun i H' => ∃ ps : List Addr, ps.length = i ∧ H' D = some (.lst (ps.map V.ref)) ∧ (∀ p ∈ ps, H' p = some (.lst []) ∧ H p = none) ∧ ps.Nodup ∧ D ∉ ps ∧ Same H H') ⟨[], rfl, upd_same, fun y h => (by cases h), List.nodup_nil, fun h => (by cases h), same_upd hD⟩ (fun i H' hi e => by
    obtain ⟨ps, hl, hd, hp, nd, dn, sm⟩ := e
    show wipe ((wipe σ vs).set j (some (V.int (lo + (i : Int))))) vs = wipe σ vs ∧ (([] : List V).length ≤ sizeLine ∧ ∀ l, H' l = none → ∃ acc, (upd H' l (.lst [])) D = some (.lst acc) ∧ acc.length < sizeLine ∧
      ∃ ps : List Addr, ps.length = i + 1 ∧ (upd (upd H' l (.lst [])) D (.lst (acc ++ [.ref l]))) D = some (.lst (ps.map V.ref)) ∧ (∀ p ∈ ps, (upd (upd H' l (.lst [])) D (.lst (acc ++ [.ref l]))) p = some (.lst []) ∧ H p = none) ∧ ps.Nodup ∧ D ∉ ps ∧ Same H (upd (upd H' l (.lst [])) D (.lst (acc ++ [.ref l]))))
    refine ⟨hw _, Nat.zero_le _, fun l hl0 => ?_⟩
    have ld : l ≠ D := fun z => by rw [z, hd] at hl0; cases hl0
    have lp : l ∉ ps := fun z => by rw [(hp l z).1] at hl0; cases hl0
    have lH : H l = none := sm.free hl0
    refine ⟨ps.map V.ref, by rw [upd_ne ld.symm]; exact hd, ?_, ps ++ [l], ?_, ?_, ?_, ?_, ?_, ?_⟩
    · rw [List.length_map, hl]
      exact Nat.lt_of_lt_of_le (show i < 16777216 by omega) (by rw [sizeLine_eq]; exact Nat.le_refl _)
    · rw [List.length_append, hl]; rfl
    · rw [upd_same, List.map_append]; rfl
    · intro p z
      rcases List.mem_append.mp z with z | z
      · refine ⟨?_, (hp p z).2⟩
        rw [upd_ne (fun w => dn (by rw [← w]; exact z)), upd_ne (fun w => lp (by rw [← w]; exact z))]
        exact (hp p z).1
      · rw [List.mem_singleton.mp z]
        refine ⟨?_, lH⟩
        rw [upd_ne ld, upd_same]
    · refine List.nodup_append.mpr ⟨nd, List.nodup_cons.mpr ⟨(fun z => by cases z), List.nodup_nil⟩, fun x hx y hy e => ?_⟩
      rw [List.mem_singleton.mp hy] at e
      exact lp (e ▸ hx)
    · intro z
      rcases List.mem_append.mp z with z | z
      · exact dn z
      · exact ld (List.mem_singleton.mp z).symm
    · exact same_mut (sm.trans (same_upd hl0)) hD) fun H' e => by
    obtain ⟨ps, hl, hd, hp, nd, dn, sm⟩ := e
    refine q D ps H' hl hD (fun p m => (hp p m).2) sm ⟨hd, ⟨by rw [List.length_replicate, hl], fun i x y hx hy => ?_⟩, nd⟩
    rw [List.getElem?_replicate] at hy
    split at hy
    · cases hy
      exact (hp x (List.mem_of_getElem? hx)).1
    · cases hy
theorem w_clear {H : Hp} {Q : VK} {p : Addr} {xs : List V} (e : H p = some (.lst xs)) (q : Q .non (upd H p (.lst []))) : rClear (.ref p) [] H Q := ⟨p, xs, rfl, rfl, e, q⟩
theorem w_pop0 {H : Hp} {Q : VK} {p : Addr} {x : V} {r : List V} (e : H p = some (.lst (x :: r))) (q : Q x (upd H p (.lst r))) : rPopAt (.ref p) [.int 0] H Q :=
  ⟨p, _, 0, 0, x, rfl, rfl, e, by decide, by decide, by
    unfold seqIndex?
    rw [List.length_cons]
    simp, rfl, q⟩
theorem Cols.refs {H : Hp} {c a p : Addr} {ps : List Addr} {cols : List (List Nat)} {r : List V} (h : Cols H c ps cols) (e : H a = some (.lst (.ref p :: r))) : a ∉ ps := fun m => by
  obtain ⟨xs, e2⟩ := h.at m
  rw [e] at e2
  cases xs with
  | nil => cases e2
  | cons x s => cases e2
def lens (cols : List (List Nat)) : List Nat := cols.map (·.length)
theorem Cols.ix {H : Hp} {c : Addr} {ps : List Addr} {cols : List (List Nat)} (h : Cols H c ps cols) {k : Nat} (hk : k < cols.length) : ∃ (p : Addr) (xs : List Nat), ps[k]? = some p ∧ cols[k]? = some xs ∧ atI (ps.map V.ref) (k : Int) = some (.ref p) ∧ H p = some (.lst ((natI xs).map V.int)) := by
  have hkp : k < ps.length := by rw [h.2.1.1]; exact hk
  have h1 := List.getElem?_eq_getElem hkp
  have h2 := List.getElem?_eq_getElem hk
  exact ⟨_, _, h1, h2, atI_nat (by rw [List.getElem?_map, h1]; rfl), h.2.1.2 k _ _ h1 h2⟩
end Dpr

namespace Dpr
open PySem PySem.Spec PyProof.Rows L2
/-! max and min of a tuple of ints -/
section
variable {prog : Program} {w : World} {A : Around} {E : Value → Shared → Prop} {s : Shared} {l : Addr} {xs : Array (Int × Tok)}
theorem iter_intTup {Q : Value → Shared → Prop} (hl : s.heap.IsTuple l (intItems xs))
    (h : ∀ s₂ : Shared, s₂ = { s with heap := s.heap.push { cls := .type "tuple_iterator", data := .fields #[.ref l, .int 0 0] } } →
      (s₂.heap.IsTupleIter s.heap.objs.size l 0 ∧ s₂.heap.IsTuple l (intItems xs)) → (∀ b ∈ [s.heap.objs.size, l], b < s₂.heap.objs.size) → l ≠ s.heap.objs.size → Q (.ref s.heap.objs.size) s₂) :
    wpAny (model prog w) A (pyIter (.ref l)) Q E s := by
  have hlt : l < s.heap.objs.size := by obtain ⟨_, e, _⟩ := hl; exact Heap.lt_size e
  refine wpAny_pyIter_tuple hl (h _ rfl ⟨⟨_, Heap.get?_push_size _ rfl, rfl, rfl⟩, hl.push _⟩ (fun b hb => ?_) (Nat.ne_of_lt hlt))
  show b < (s.heap.push _).objs.size
  rw [Heap.size_push]
  rcases List.mem_cons.mp hb with rfl | hb
  · exact Nat.lt_succ_self _
  · rcases List.mem_cons.mp hb with rfl | hb
    · exact Nat.lt_succ_of_lt hlt
    · cases hb
theorem old_keptT {h' : Heap} (hk : ∀ b o, b ∉ [s.heap.objs.size] → (s.heap.push { cls := .type "tuple_iterator", data := .fields #[.ref l, .int 0 0] }).get? b = some o → h'.get? b = some o) :
    ∀ b o, s.heap.get? b = some o → h'.get? b = some o := fun b o e => by
  refine hk b o (fun hm => ?_) (Heap.get?_push_of_some _ e)
  rcases List.mem_cons.mp hm with e1 | hm
  · exact absurd (e1 ▸ Heap.lt_size e) (Nat.lt_irrefl _)
  · cases hm
theorem max_intTup {Q : Value → Shared → Prop} (hh : A.handled = none) (hl : s.heap.IsTuple l (intItems xs)) (hne : 0 < xs.size)
    (h : ∀ v h' tk, (intItems xs)[argBest (fun i j => decide (numAt xs i > numAt xs j)) (xs.size - 1)]? = some v → (∀ b o, s.heap.get? b = some o → h'.get? b = some o) → Q v { s with heap := h', toks := tk }) :
    wpAny (model prog w) A (call (.builtin "max") [.ref l]) Q E s := by
  refine call_max_walk (iter_intTup hl fun s₂ e st hfp hlI => ?_)
  subst e
  refine ⟨_, _, _, _, _, _, _, rfl, Walks.tuple (A := A.in1) hh _ l hlI (intItems xs), st, hfp, by simpa [intItems] using hne, CmpOf.ints_gt (numAt xs) (fun _ _ => intItems_at), fun v h' tk hP hk => ?_⟩
  exact h v h' tk (by simpa [intItems] using hP) (old_keptT hk)
theorem min_intTup {Q : Value → Shared → Prop} (hh : A.handled = none) (hl : s.heap.IsTuple l (intItems xs)) (hne : 0 < xs.size)
    (h : ∀ v h' tk, (intItems xs)[argBest (fun i j => decide (numAt xs i < numAt xs j)) (xs.size - 1)]? = some v → (∀ b o, s.heap.get? b = some o → h'.get? b = some o) → Q v { s with heap := h', toks := tk }) :
    wpAny (model prog w) A (call (.builtin "min") [.ref l]) Q E s := by
  refine call_min_walk (iter_intTup hl fun s₂ e st hfp hlI => ?_)
  subst e
  refine ⟨_, _, _, _, _, _, _, rfl, Walks.tuple (A := A.in1) hh _ l hlI (intItems xs), st, hfp, by simpa [intItems] using hne, CmpOf.ints_lt (numAt xs) (fun _ _ => intItems_at), fun v h' tk hP hk => ?_⟩
  exact h v h' tk (by simpa [intItems] using hP) (old_keptT hk)
variable {its : List Value} {ns : List Int}
theorem max_rawT {Q : Value → Shared → Prop} (hh : A.handled = none) (hl : s.heap.IsTuple l its.toArray) (hi : IntsAre its ns) (hne : 0 < ns.length)
    (h : ∀ h' tk M t', (∀ b o, s.heap.get? b = some o → h'.get? b = some o) → M ∈ ns → (∀ a, a ∈ ns → a ≤ M) → Q (.int M t') { s with heap := h', toks := tk }) : wpAny (model prog w) A (call (.builtin "max") [.ref l]) Q E s := by
  obtain ⟨xs, e⟩ := hi.allInts.items
  have hn : numsOf (intItems xs).toList = ns := by rw [← e]; exact hi.numsOf
  rw [nums_intItems] at hn
  subst hn
  rw [e] at hl
  have hsz : 0 < xs.size := by simpa using hne
  refine max_intTup hh hl hsz fun v h' tk hv hk => ?_
  obtain ⟨t, rfl⟩ := intItems_at hv
  obtain ⟨h1, h2⟩ := argBest_gt (numAt xs) (xs.size - 1)
  refine h h' tk _ t hk ?_ fun a ha => ?_
  · rw [numAt_eq]; exact PySem.getD_mem (by rw [List.length_map, Array.length_toList]; omega)
  · obtain ⟨j, hj, rfl⟩ := mem_getD ha
    rw [List.length_map, Array.length_toList] at hj
    rw [← numAt_eq]; exact h2 j (by omega)
theorem min_rawT {Q : Value → Shared → Prop} (hh : A.handled = none) (hl : s.heap.IsTuple l its.toArray) (hi : IntsAre its ns) (hne : 0 < ns.length)
    (h : ∀ h' tk M t', (∀ b o, s.heap.get? b = some o → h'.get? b = some o) → M ∈ ns → (∀ a, a ∈ ns → M ≤ a) → Q (.int M t') { s with heap := h', toks := tk }) : wpAny (model prog w) A (call (.builtin "min") [.ref l]) Q E s := by
  obtain ⟨xs, e⟩ := hi.allInts.items
  have hn : numsOf (intItems xs).toList = ns := by rw [← e]; exact hi.numsOf
  rw [nums_intItems] at hn
  subst hn
  rw [e] at hl
  have hsz : 0 < xs.size := by simpa using hne
  refine min_intTup hh hl hsz fun v h' tk hv hk => ?_
  obtain ⟨t, rfl⟩ := intItems_at hv
  obtain ⟨h1, h2⟩ := argBest_lt (numAt xs) (xs.size - 1)
  refine h h' tk _ t hk ?_ fun a ha => ?_
  · rw [numAt_eq]; exact PySem.getD_mem (by rw [List.length_map, Array.length_toList]; omega)
  · obtain ⟨j, hj, rfl⟩ := mem_getD ha
    rw [List.length_map, Array.length_toList] at hj
    rw [← numAt_eq]; exact h2 j (by omega)
end
def rMaxT (K : PySem.W.Frag) : List V → Hp → VK → Prop := fun vs H Q => ∃ (a : Addr) (ns : List Int), vs = [V.ref a] ∧ SqT K H a (ns.map V.int) ∧ 0 < ns.length ∧ ∀ m, m ∈ ns → (∀ y, y ∈ ns → y ≤ m) → Q (.int m) H
def rMinT (K : PySem.W.Frag) : List V → Hp → VK → Prop := fun vs H Q => ∃ (a : Addr) (ns : List Int), vs = [V.ref a] ∧ SqT K H a (ns.map V.int) ∧ 0 < ns.length ∧ ∀ m, m ∈ ns → (∀ y, y ∈ ns → m ≤ y) → Q (.int m) H
theorem cr_maxT {X : Cx} (K : PySem.W.Frag) (ek : X.K = K := by rfl) (hc : X.calm = true := by rfl) : CallR X (.builtin "max") (rMaxT K) := by
  subst ek
  intro pins s σ H vs us Q I r h
  obtain ⟨a, ns, rfl, hs, hne, q⟩ := h
  obtain ⟨its, rv, hl, _⟩ := I.tuple hs
  rw [Vals.ref1 r]
  exact max_rawT (I.ok.hd hc) hl rv.ints hne fun h' tk m t' hk h1 h2 => ⟨.int _, H, I.kept hk, ⟨_, rfl⟩, q m h1 h2⟩
theorem cr_minT {X : Cx} (K : PySem.W.Frag) (ek : X.K = K := by rfl) (hc : X.calm = true := by rfl) : CallR X (.builtin "min") (rMinT K) := by
  subst ek
  intro pins s σ H vs us Q I r h
  obtain ⟨a, ns, rfl, hs, hne, q⟩ := h
  obtain ⟨its, rv, hl, _⟩ := I.tuple hs
  rw [Vals.ref1 r]
  exact min_rawT (I.ok.hd hc) hl rv.ints hne fun h' tk m t' hk h1 h2 => ⟨.int _, H, I.kept hk, ⟨_, rfl⟩, q m h1 h2⟩
theorem w_maxT {K : PySem.W.Frag} {H : Hp} {Q : VK} {p : Addr} {ns : List Int} (h : SqT K H p (ns.map V.int)) (hn : 0 < ns.length) (q : ∀ m, m ∈ ns → (∀ y ∈ ns, y ≤ m) → Q (.int m) H) : rMaxT K [.ref p] H Q := ⟨p, ns, rfl, h, hn, q⟩
theorem w_minT {K : PySem.W.Frag} {H : Hp} {Q : VK} {p : Addr} {ns : List Int} (h : SqT K H p (ns.map V.int)) (hn : 0 < ns.length) (q : ∀ m, m ∈ ns → (∀ y ∈ ns, m ≤ y) → Q (.int m) H) : rMinT K [.ref p] H Q := ⟨p, ns, rfl, h, hn, q⟩
end Dpr

namespace Dpr
open PySem PySem.Spec PyProof.Rows L2
def topS (i : Nat) : Stmt := PySem.Challenge.pw_dotpress_k51_stages_tell_late.main.body.getD i (.Pass ⟨0, 0, 0, 0⟩)
abbrev s_own_wires : Stmt := topS 1
theorem sc_own_wires : FnScope ["row"] ["row"] (defScope s_own_wires) := ⟨rfl, rfl, rfl, by decide +kernel, rfl, by decide +kernel, by decide +kernel⟩
abbrev s_depths : Stmt := topS 2
theorem sc_depths : FnScope ["rows", "found", "row", "deep", "wire"] ["rows"] (defScope s_depths) := ⟨rfl, rfl, rfl, by decide +kernel, rfl, by decide +kernel, by decide +kernel⟩
abbrev s_needed : Stmt := topS 4
theorem sc_needed : FnScope ["rows", "outs", "found", "wire", "ahead", "row"] ["rows", "outs"] (defScope s_needed) := ⟨rfl, rfl, rfl, by decide +kernel, rfl, by decide +kernel, by decide +kernel⟩
abbrev s_Sheet__init : Stmt := inClass (topS 6) 0
theorem sc_Sheet__init : FnScope ["self"] ["self"] (defScope s_Sheet__init) := ⟨rfl, rfl, rfl, by decide +kernel, rfl, by decide +kernel, by decide +kernel⟩
abbrev s_Sheet_add : Stmt := inClass (topS 6) 1
theorem sc_Sheet_add : FnScope ["self", "row"] ["self", "row"] (defScope s_Sheet_add) := ⟨rfl, rfl, rfl, by decide +kernel, rfl, by decide +kernel, by decide +kernel⟩
abbrev s_Sheet_rows_now : Stmt := inClass (topS 6) 2
theorem sc_Sheet_rows_now : FnScope ["self"] ["self"] (defScope s_Sheet_rows_now) := ⟨rfl, rfl, rfl, by decide +kernel, rfl, by decide +kernel, by decide +kernel⟩
abbrev s_Stages__init : Stmt := inClass (topS 8) 0
theorem sc_Stages__init : FnScope ["self"] ["self"] (defScope s_Stages__init) := ⟨rfl, rfl, rfl, by decide +kernel, rfl, by decide +kernel, by decide +kernel⟩
abbrev s_Stages_late : Stmt := inClass (topS 8) 1
theorem sc_Stages_late : FnScope ["self", "wire", "stage", "first", "k"] ["self", "wire", "stage"] (defScope s_Stages_late) := ⟨rfl, rfl, rfl, by decide +kernel, rfl, by decide +kernel, by decide +kernel⟩
abbrev s_Stages_put : Stmt := inClass (topS 8) 2
theorem sc_Stages_put : FnScope ["self", "wire", "row", "stage", "ahead"] ["self", "wire", "row", "stage"] (defScope s_Stages_put) := ⟨rfl, rfl, rfl, by decide +kernel, rfl, by decide +kernel, by decide +kernel⟩
abbrev s_stage_of : Stmt := topS 9
theorem sc_stage_of : FnScope ["deep", "most"] ["deep", "most"] (defScope s_stage_of) := ⟨rfl, rfl, rfl, by decide +kernel, rfl, by decide +kernel, by decide +kernel⟩
abbrev s_staged : Stmt := topS 10
theorem sc_staged : FnScope ["rows", "outs", "most", "deep", "wanted", "stages", "wire", "row", "late", "new"] ["rows", "outs", "most"] (defScope s_staged) := ⟨rfl, rfl, rfl, by decide +kernel, rfl, by decide +kernel, by decide +kernel⟩
abbrev s_law_whole : Stmt := topS 12
theorem sc_law_whole : FnScope ["_law_found"] ["_law_found"] (defScope s_law_whole) := ⟨rfl, rfl, rfl, by decide +kernel, rfl, by decide +kernel, by decide +kernel⟩
abbrev s_law_at : Stmt := topS 13
theorem sc_law_at : FnScope ["_law_script", "_law_k"] ["_law_script", "_law_k"] (defScope s_law_at) := ⟨rfl, rfl, rfl, by decide +kernel, rfl, by decide +kernel, by decide +kernel⟩
abbrev s_law_mixed : Stmt := topS 14
theorem sc_law_mixed : FnScope ["_law_cell", "_law_k", "_law_number"] ["_law_cell", "_law_k"] (defScope s_law_mixed) := ⟨rfl, rfl, rfl, by decide +kernel, rfl, by decide +kernel, by decide +kernel⟩
abbrev s_law_numbers : Stmt := topS 15
theorem sc_law_numbers : FnScope ["_law_script", "_law_start", "_law_some_here", "_law_k"] ["_law_script", "_law_start"] (defScope s_law_numbers) := ⟨rfl, rfl, rfl, by decide +kernel, rfl, by decide +kernel, by decide +kernel⟩
abbrev s_law_names : Stmt := topS 16
theorem sc_law_names : FnScope ["_law_number", "_law_letters", "_law_some_here", "_law_at_here", "_law_names_here", "_law_j", "_law_spots", "_law_word", "_law_k", "_law_spot"] ["_law_number"] (defScope s_law_names) := ⟨rfl, rfl, rfl, by decide +kernel, rfl, by decide +kernel, by decide +kernel⟩
abbrev s_law_great : Stmt := topS 17
theorem sc_law_great : FnScope ["_law_cell", "_law_k", "_law_number"] ["_law_cell", "_law_k"] (defScope s_law_great) := ⟨rfl, rfl, rfl, by decide +kernel, rfl, by decide +kernel, by decide +kernel⟩
abbrev s_law_ins : Stmt := topS 18
theorem sc_law_ins : FnScope ["_law_names_here", "_law_number", "_law_many", "_law_found", "_law_k"] ["_law_names_here", "_law_number", "_law_many"] (defScope s_law_ins) := ⟨rfl, rfl, rfl, by decide +kernel, rfl, by decide +kernel, by decide +kernel⟩
abbrev s_law_rows : Stmt := topS 19
theorem sc_law_rows : FnScope ["_law_numbers_here", "_law_ins_here", "_law_near", "_law_late_here", "_law_rows_here", "_law_number", "_law_at_here", "_law_mixed_here", "_law_reach"] ["_law_numbers_here", "_law_ins_here", "_law_near", "_law_late_here"] (defScope s_law_rows) := ⟨rfl, rfl, rfl, by decide +kernel, rfl, by decide +kernel, by decide +kernel⟩
abbrev s_law_turned : Stmt := topS 20
theorem sc_law_turned : FnScope ["_law_row"] ["_law_row"] (defScope s_law_turned) := ⟨rfl, rfl, rfl, by decide +kernel, rfl, by decide +kernel, by decide +kernel⟩
abbrev s_law_gate : Stmt := topS 21
theorem sc_law_gate : FnScope ["_law_number", "_law_one", "_law_two"] ["_law_number", "_law_one", "_law_two"] (defScope s_law_gate) := ⟨rfl, rfl, rfl, by decide +kernel, rfl, by decide +kernel, by decide +kernel⟩
abbrev s_law_bit : Stmt := topS 22
theorem sc_law_bit : FnScope ["_law_row", "_law_bits_here", "_law_words", "_law_total"] ["_law_row", "_law_bits_here", "_law_words"] (defScope s_law_bit) := ⟨rfl, rfl, rfl, by decide +kernel, rfl, by decide +kernel, by decide +kernel⟩
abbrev s_law_bits : Stmt := topS 23
theorem sc_law_bits : FnScope ["_law_rows_here", "_law_words", "_law_bits_here", "_law_row"] ["_law_rows_here", "_law_words"] (defScope s_law_bits) := ⟨rfl, rfl, rfl, by decide +kernel, rfl, by decide +kernel, by decide +kernel⟩
abbrev s_law_wire : Stmt := topS 24
theorem sc_law_wire : FnScope ["_law_found", "_law_at_here"] ["_law_found", "_law_at_here"] (defScope s_law_wire) := ⟨rfl, rfl, rfl, by decide +kernel, rfl, by decide +kernel, by decide +kernel⟩
abbrev s_law_fine_row : Stmt := topS 25
theorem sc_law_fine_row : FnScope ["_law_row", "_law_at_here", "_law_ins_here"] ["_law_row", "_law_at_here", "_law_ins_here"] (defScope s_law_fine_row) := ⟨rfl, rfl, rfl, by decide +kernel, rfl, by decide +kernel, by decide +kernel⟩
abbrev s_law_fine : Stmt := topS 26
theorem sc_law_fine : FnScope ["_law_found", "_law_ins_here", "_law_many", "_law_at_here", "_law_wire_here"] ["_law_found", "_law_ins_here", "_law_many"] (defScope s_law_fine) := ⟨rfl, rfl, rfl, by decide +kernel, rfl, by decide +kernel, by decide +kernel⟩
abbrev s_law_outs : Stmt := topS 27
theorem sc_law_outs : FnScope ["_law_rows_here", "_law_cell", "_law_outs_here", "_law_k"] ["_law_rows_here", "_law_cell"] (defScope s_law_outs) := ⟨rfl, rfl, rfl, by decide +kernel, rfl, by decide +kernel, by decide +kernel⟩
abbrev s_law_beats : Stmt := topS 28
theorem sc_law_beats : FnScope ["_law_rows_here", "_law_some_here", "_law_found", "_law_t", "_law_bits_here", "_law_row"] ["_law_rows_here", "_law_some_here"] (defScope s_law_beats) := ⟨rfl, rfl, rfl, by decide +kernel, rfl, by decide +kernel, by decide +kernel⟩
abbrev s_law_some : Stmt := topS 29
theorem sc_law_some : FnScope ["_law_names_here", "_law_cell", "_law_many", "_law_some_here", "_law_t", "_law_j"] ["_law_names_here", "_law_cell", "_law_many"] (defScope s_law_some) := ⟨rfl, rfl, rfl, by decide +kernel, rfl, by decide +kernel, by decide +kernel⟩
abbrev s_law_late : Stmt := topS 30
theorem sc_law_late : FnScope ["_law_found", "_law_rows_here", "_law_outs_here", "_law_some_here", "_law_told_now", "_law_t", "_law_old", "_law_wire_here"] ["_law_found", "_law_rows_here", "_law_outs_here", "_law_some_here"] (defScope s_law_late) := ⟨rfl, rfl, rfl, by decide +kernel, rfl, by decide +kernel, by decide +kernel⟩
abbrev s_law : Stmt := topS 31
theorem sc_law : FnScope ["_law_script", "_law_names_here", "_law_ins_here", "_law_rows_here", "_law_outs_here", "_law_found", "_law_many"] ["_law_script"] (defScope s_law) := ⟨rfl, rfl, rfl, by decide +kernel, rfl, by decide +kernel, by decide +kernel⟩

structure Top (K : PySem.W.Frag) (mg : Str → Option Value) where
  a_own_wires : Addr
  d_own_wires : FuncData
  f_own_wires : Fun K "own_wires" "own_wires" s_own_wires a_own_wires d_own_wires
  b_own_wires : Binds K d_own_wires ["row"] []
  g_own_wires : mg "own_wires" = some (.ref a_own_wires)
  a_depths : Addr
  d_depths : FuncData
  f_depths : Fun K "depths" "depths" s_depths a_depths d_depths
  b_depths : Binds K d_depths ["rows"] []
  g_depths : mg "depths" = some (.ref a_depths)
  a_needed : Addr
  d_needed : FuncData
  f_needed : Fun K "needed" "needed" s_needed a_needed d_needed
  b_needed : Binds K d_needed ["rows", "outs"] []
  g_needed : mg "needed" = some (.ref a_needed)
  a_Sheet__init : Addr
  d_Sheet__init : FuncData
  f_Sheet__init : Fun K "__init__" "Sheet.__init__" s_Sheet__init a_Sheet__init d_Sheet__init
  b_Sheet__init : Binds K d_Sheet__init ["self"] []
  a_Sheet_add : Addr
  d_Sheet_add : FuncData
  f_Sheet_add : Fun K "add" "Sheet.add" s_Sheet_add a_Sheet_add d_Sheet_add
  b_Sheet_add : Binds K d_Sheet_add ["self", "row"] []
  a_Sheet_rows_now : Addr
  d_Sheet_rows_now : FuncData
  f_Sheet_rows_now : Fun K "rows_now" "Sheet.rows_now" s_Sheet_rows_now a_Sheet_rows_now d_Sheet_rows_now
  b_Sheet_rows_now : Binds K d_Sheet_rows_now ["self"] []
  a_Stages__init : Addr
  d_Stages__init : FuncData
  f_Stages__init : Fun K "__init__" "Stages.__init__" s_Stages__init a_Stages__init d_Stages__init
  b_Stages__init : Binds K d_Stages__init ["self"] []
  a_Stages_late : Addr
  d_Stages_late : FuncData
  f_Stages_late : Fun K "late" "Stages.late" s_Stages_late a_Stages_late d_Stages_late
  b_Stages_late : Binds K d_Stages_late ["self", "wire", "stage"] []
  a_Stages_put : Addr
  d_Stages_put : FuncData
  f_Stages_put : Fun K "put" "Stages.put" s_Stages_put a_Stages_put d_Stages_put
  b_Stages_put : Binds K d_Stages_put ["self", "wire", "row", "stage"] []
  a_stage_of : Addr
  d_stage_of : FuncData
  f_stage_of : Fun K "stage_of" "stage_of" s_stage_of a_stage_of d_stage_of
  b_stage_of : Binds K d_stage_of ["deep", "most"] []
  g_stage_of : mg "stage_of" = some (.ref a_stage_of)
  a_staged : Addr
  d_staged : FuncData
  f_staged : Fun K "staged" "staged" s_staged a_staged d_staged
  b_staged : Binds K d_staged ["rows", "outs", "most"] []
  g_staged : mg "staged" = some (.ref a_staged)
  a_law_whole : Addr
  d_law_whole : FuncData
  f_law_whole : Fun K "_law_whole" "_law_whole" s_law_whole a_law_whole d_law_whole
  b_law_whole : Binds K d_law_whole ["_law_found"] []
  g_law_whole : mg "_law_whole" = some (.ref a_law_whole)
  a_law_at : Addr
  d_law_at : FuncData
  f_law_at : Fun K "_law_at" "_law_at" s_law_at a_law_at d_law_at
  b_law_at : Binds K d_law_at ["_law_script", "_law_k"] []
  g_law_at : mg "_law_at" = some (.ref a_law_at)
  a_law_mixed : Addr
  d_law_mixed : FuncData
  f_law_mixed : Fun K "_law_mixed" "_law_mixed" s_law_mixed a_law_mixed d_law_mixed
  b_law_mixed : Binds K d_law_mixed ["_law_cell", "_law_k"] []
  g_law_mixed : mg "_law_mixed" = some (.ref a_law_mixed)
  a_law_numbers : Addr
  d_law_numbers : FuncData
  f_law_numbers : Fun K "_law_numbers" "_law_numbers" s_law_numbers a_law_numbers d_law_numbers
  b_law_numbers : Binds K d_law_numbers ["_law_script", "_law_start"] []
  g_law_numbers : mg "_law_numbers" = some (.ref a_law_numbers)
  a_law_names : Addr
  d_law_names : FuncData
  f_law_names : Fun K "_law_names" "_law_names" s_law_names a_law_names d_law_names
  b_law_names : Binds K d_law_names ["_law_number"] []
  g_law_names : mg "_law_names" = some (.ref a_law_names)
  a_law_great : Addr
  d_law_great : FuncData
  f_law_great : Fun K "_law_great" "_law_great" s_law_great a_law_great d_law_great
  b_law_great : Binds K d_law_great ["_law_cell", "_law_k"] []
  g_law_great : mg "_law_great" = some (.ref a_law_great)
  a_law_ins : Addr
  d_law_ins : FuncData
  f_law_ins : Fun K "_law_ins" "_law_ins" s_law_ins a_law_ins d_law_ins
  b_law_ins : Binds K d_law_ins ["_law_names_here", "_law_number", "_law_many"] []
  g_law_ins : mg "_law_ins" = some (.ref a_law_ins)
  a_law_rows : Addr
  d_law_rows : FuncData
  f_law_rows : Fun K "_law_rows" "_law_rows" s_law_rows a_law_rows d_law_rows
  b_law_rows : Binds K d_law_rows ["_law_numbers_here", "_law_ins_here", "_law_near", "_law_late_here"] []
  g_law_rows : mg "_law_rows" = some (.ref a_law_rows)
  a_law_turned : Addr
  d_law_turned : FuncData
  f_law_turned : Fun K "_law_turned" "_law_turned" s_law_turned a_law_turned d_law_turned
  b_law_turned : Binds K d_law_turned ["_law_row"] []
  g_law_turned : mg "_law_turned" = some (.ref a_law_turned)
  a_law_gate : Addr
  d_law_gate : FuncData
  f_law_gate : Fun K "_law_gate" "_law_gate" s_law_gate a_law_gate d_law_gate
  b_law_gate : Binds K d_law_gate ["_law_number", "_law_one", "_law_two"] []
  g_law_gate : mg "_law_gate" = some (.ref a_law_gate)
  a_law_bit : Addr
  d_law_bit : FuncData
  f_law_bit : Fun K "_law_bit" "_law_bit" s_law_bit a_law_bit d_law_bit
  b_law_bit : Binds K d_law_bit ["_law_row", "_law_bits_here", "_law_words"] []
  g_law_bit : mg "_law_bit" = some (.ref a_law_bit)
  a_law_bits : Addr
  d_law_bits : FuncData
  f_law_bits : Fun K "_law_bits" "_law_bits" s_law_bits a_law_bits d_law_bits
  b_law_bits : Binds K d_law_bits ["_law_rows_here", "_law_words"] []
  g_law_bits : mg "_law_bits" = some (.ref a_law_bits)
  a_law_wire : Addr
  d_law_wire : FuncData
  f_law_wire : Fun K "_law_wire" "_law_wire" s_law_wire a_law_wire d_law_wire
  b_law_wire : Binds K d_law_wire ["_law_found", "_law_at_here"] []
  g_law_wire : mg "_law_wire" = some (.ref a_law_wire)
  a_law_fine_row : Addr
  d_law_fine_row : FuncData
  f_law_fine_row : Fun K "_law_fine_row" "_law_fine_row" s_law_fine_row a_law_fine_row d_law_fine_row
  b_law_fine_row : Binds K d_law_fine_row ["_law_row", "_law_at_here", "_law_ins_here"] []
  g_law_fine_row : mg "_law_fine_row" = some (.ref a_law_fine_row)
  a_law_fine : Addr
  d_law_fine : FuncData
  f_law_fine : Fun K "_law_fine" "_law_fine" s_law_fine a_law_fine d_law_fine
  b_law_fine : Binds K d_law_fine ["_law_found", "_law_ins_here", "_law_many"] []
  g_law_fine : mg "_law_fine" = some (.ref a_law_fine)
  a_law_outs : Addr
  d_law_outs : FuncData
  f_law_outs : Fun K "_law_outs" "_law_outs" s_law_outs a_law_outs d_law_outs
  b_law_outs : Binds K d_law_outs ["_law_rows_here", "_law_cell"] []
  g_law_outs : mg "_law_outs" = some (.ref a_law_outs)
  a_law_beats : Addr
  d_law_beats : FuncData
  f_law_beats : Fun K "_law_beats" "_law_beats" s_law_beats a_law_beats d_law_beats
  b_law_beats : Binds K d_law_beats ["_law_rows_here", "_law_some_here"] []
  g_law_beats : mg "_law_beats" = some (.ref a_law_beats)
  a_law_some : Addr
  d_law_some : FuncData
  f_law_some : Fun K "_law_some" "_law_some" s_law_some a_law_some d_law_some
  b_law_some : Binds K d_law_some ["_law_names_here", "_law_cell", "_law_many"] []
  g_law_some : mg "_law_some" = some (.ref a_law_some)
  a_law_late : Addr
  d_law_late : FuncData
  f_law_late : Fun K "_law_late" "_law_late" s_law_late a_law_late d_law_late
  b_law_late : Binds K d_law_late ["_law_found", "_law_rows_here", "_law_outs_here", "_law_some_here"] []
  g_law_late : mg "_law_late" = some (.ref a_law_late)
  a_law : Addr
  d_law : FuncData
  f_law : Fun K "law" "law" s_law a_law d_law
  b_law : Binds K d_law ["_law_script"] []
  g_law : mg "law" = some (.ref a_law)
  c_Sheet : Addr
  gc_Sheet : mg "Sheet" = some (.ref c_Sheet)
  nc_Sheet : IsC K "Sheet" c_Sheet
  kc_Sheet : PySem.W.keepIn K (.ref c_Sheet) = true
  cl_Sheet : Cls K c_Sheet
  mk_Sheet : Mk K c_Sheet a_Sheet__init
  m_Sheet_add : Meth K c_Sheet "add" a_Sheet_add
  m_Sheet_rows_now : Meth K c_Sheet "rows_now" a_Sheet_rows_now
  n_Sheet_rows : NoAttr K c_Sheet "rows"
  c_Stages : Addr
  gc_Stages : mg "Stages" = some (.ref c_Stages)
  nc_Stages : IsC K "Stages" c_Stages
  kc_Stages : PySem.W.keepIn K (.ref c_Stages) = true
  cl_Stages : Cls K c_Stages
  mk_Stages : Mk K c_Stages a_Stages__init
  m_Stages_late : Meth K c_Stages "late" a_Stages_late
  m_Stages_put : Meth K c_Stages "put" a_Stages_put
  n_Stages_sheet : NoAttr K c_Stages "sheet"
  n_Stages_places : NoAttr K c_Stages "places"
  z_bool : mg "bool" = none
  z_enumerate : mg "enumerate" = none
  z_int : mg "int" = none
  z_isinstance : mg "isinstance" = none
  z_len : mg "len" = none
  z_list : mg "list" = none
  z_max : mg "max" = none
  z_min : mg "min" = none
  z_range : mg "range" = none
  z_reversed : mg "reversed" = none
  z_str : mg "str" = none
  z_tuple : mg "tuple" = none

section
variable {P : Program} {w : World} {K : PySem.W.Frag} {mg : Str → Option Value} {base : Heap}


/-! the walk: one step a construct -/
open PySem PySem.Spec PyProof.Rows L2 Dpr
local macro_rules | `(tactic| walk_at "hp") => `(tactic| first
  | assumption
  | exact upd_same
  | (apply hp_upd; assumption; walk_at "hp")
  | (apply hp_upd2; assumption; walk_at "hp")
  | (apply same_at; assumption; walk_at "hp"))
local macro_rules | `(tactic| walk_at "sq") => `(tactic| first
  | assumption
  | exact SqL.of (by assumption)
  | exact SqL.of upd_same
  | exact SqT.of (by assumption)
  | (apply SqL.of; walk_at "hp")
  | (apply SqT.of; walk_at "hp")
  | (apply Same.seq; assumption; walk_at "sq")
  | (apply same_tup; assumption; walk_at "sq"))
local macro_rules | `(tactic| walk_at "sz") => `(tactic| first
  | omega
  | (simp only [List.length_map, List.length_append, List.length_cons, List.length_nil, List.length_range, List.length_replicate, List.length_take]; omega))
local macro_rules | `(tactic| walk_at "w1") => `(tactic| first
  | with_reducible refine w_seq ?_
  | with_reducible refine w_asg ?_
  | ((with_reducible apply w_var); rfl)
  | with_reducible refine w_c ?_
  | with_reducible refine w_op ?_
  | with_reducible refine w_un ?_
  | with_reducible refine w_I0 ?_
  | with_reducible refine w_U ?_
  | with_reducible refine w_bl ?_
  | with_reducible refine w_test ?_
  | with_reducible refine w_tB ?_
  | ((with_reducible refine w_eq ?_ ?_); rfl)
  | ((with_reducible refine w_ne ?_ ?_); rfl)
  | with_reducible refine w_if ?_
  | with_reducible refine w_cons ?_
  | with_reducible refine w_nil ?_
  | with_reducible refine w_itT ?_
  | with_reducible refine w_itF ?_
  | ((with_reducible refine w_itS1 ?_ ?_); decide +kernel)
  | ((with_reducible refine w_itS0 ?_ ?_); decide +kernel)
  | ((with_reducible refine w_itN1 ?_ ?_); decide +kernel)
  | ((with_reducible refine w_itN0 ?_ ?_); decide +kernel)
  | with_reducible refine w_dget ?_
  | ((with_reducible apply w_DG1); (walk_at "hp"); assumption)
  | ((with_reducible refine w_itC ?_ ?_); (first | decide +kernel | (simp only [List.length_cons, List.length_nil]; decide +kernel)))
  | ((with_reducible refine w_itD ?_ ?_); (first | decide +kernel | (simp only [List.length_cons, List.length_nil]; decide +kernel)))
  | with_reducible refine w_asgG ?_
  | with_reducible refine w_drop ?_
  | with_reducible refine w_ret ?_
  | with_reducible refine w_retN ?_
  | with_reducible refine w_next ?_
  | with_reducible refine w_cont ?_
  | with_reducible refine w_brk ?_
  | ((with_reducible apply w_aug); rfl)
  | with_reducible refine w_ipI ?_
  | with_reducible refine w_chain ?_
  | with_reducible refine w_and ?_
  | with_reducible refine w_or ?_
  | with_reducible refine w_not ?_
  | with_reducible refine w_andV ?_
  | with_reducible refine w_orV ?_
  | with_reducible refine w_notV ?_
  | with_reducible refine w_ifx ?_
  | with_reducible refine w_call ?_
  | with_reducible refine w_cb ?_
  | ((with_reducible refine w_for ?_); (try simp only [List.set_cons_zero, List.set_cons_succ]))
  | ((with_reducible refine w_lc ?_); (try simp only [List.set_cons_zero, List.set_cons_succ]))
  | with_reducible refine w_bm ?_
  | with_reducible refine w_bm0 ?_
  | ((with_reducible apply w_BML); (walk_at "hp"))
  | ((with_reducible apply w_BM0L); (walk_at "hp"))
  | ((with_reducible apply w_append); (walk_at "hp"); (try (walk_at "sz")))
  | ((with_reducible apply w_gTup); (walk_at "sq"); rfl)
  | with_reducible refine w_gCons ?_
  | with_reducible refine w_gNil ?_
  | with_reducible refine w_gName ?_
  | with_reducible refine w_iE ?_
  | ((with_reducible apply w_IE1); (walk_at "sq"))
  | with_reducible refine w_intB ?_
  | with_reducible refine w_tm1 ?_
  | with_reducible refine w_M11 ?_
  | ((with_reducible apply w_inL); (walk_at "sq"); rfl; rfl)
  | ((with_reducible apply w_inT); (walk_at "sq"); rfl; rfl)
  | ((with_reducible apply w_niL); (walk_at "sq"); rfl; rfl)
  | ((with_reducible apply w_niT); (walk_at "sq"); rfl; rfl)
  | with_reducible refine w_bit1 ?_
  | with_reducible refine w_shrN ?_
  | ((with_reducible refine w_shlN ?_ ?_); omega)
  | ((with_reducible refine w_divP ?_ ?_); omega)
  | with_reducible refine w_iL ?_
  | with_reducible refine w_iT ?_
  | with_reducible refine w_iR1 ?_
  | with_reducible refine w_iR2 ?_
  | ((with_reducible apply w_IL1); (walk_at "sq"))
  | ((with_reducible apply w_IT1); (walk_at "sq"))
  | ((with_reducible refine w_IR1 ?_ ?_); (walk_at "sz"))
  | ((with_reducible refine w_IR2 ?_ ?_); (walk_at "sz"))
  | ((with_reducible apply w_sl); (walk_at "sq"); intro _ _ _ _ _)
  | with_reducible refine w_tsl ?_
  | with_reducible refine w_tnp ?_
  | with_reducible refine w_tpt ?_
  | with_reducible refine w_pt ?_
  | ((with_reducible apply w_cat); (walk_at "hp"); (walk_at "hp"); (try (walk_at "sz")))
  | ((with_reducible apply w_listL); (walk_at "sq"); intro _ _ _ _ _)
  | ((with_reducible apply w_listT); (walk_at "sq"); intro _ _ _ _ _)
  | with_reducible refine w_tbits ?_
  | with_reducible refine w_bits ?_
  | with_reducible refine w_tup ?_
  | with_reducible refine w_lst ?_
  | ((with_reducible refine w_alT ?_ ?_); (exact sz_le rfl); intro _ _ _ _ _)
  | ((with_reducible refine w_alL ?_ ?_); (exact sz_le rfl); intro _ _ _ _ _)
  | with_reducible refine w_abs ?_
  | with_reducible refine w_max2 ?_
  | with_reducible refine w_min2 ?_
  | ((with_reducible refine w_I ?_ ?_); (first | exact ⟨by decide, by decide⟩ | (show (_ : Int) < _; decide) | exact p2pos _ | exact ⟨by omega, by omega, by decide⟩ | exact ⟨by omega, by omega⟩ | (show (_ : Int) < _; omega) | (show (_ : Int) ≤ _; omega) | exact .of_left (by decide) | exact .of_right (by decide) | exact mul_sm (by omega) | exact mul_sm2 (by omega) | exact mul_cc (by assumption) (by assumption) | exact mul_ok2 (n := 250) (by assumption) (by decide) (by decide)))
  | ((with_reducible apply w_ixL); (walk_at "sq"); rfl)
  | ((with_reducible apply w_ixT); (walk_at "sq"); rfl)
  | ((with_reducible apply w_lenL); (walk_at "sq"))
  | ((with_reducible apply w_lenT); (walk_at "sq"))
  | (with_reducible refine w_isi (TyX.base (TyOf.int _)) (kit_ii _) ?_)
  | (with_reducible refine w_isi (TyX.base (TyOf.int _)) (kit_ib _) ?_)
  | (with_reducible refine w_isi (TyX.base (TyOf.bl _)) (kit_bi _) ?_)
  | (with_reducible refine w_isi (TyX.base (TyOf.bl _)) (kit_bb _) ?_)
  | (with_reducible refine w_isi (TyX.base (TyOf.str _)) (kit_ss _) ?_)
  | ((with_reducible apply w_isiT); (walk_at "hp"))
  | ((with_reducible apply w_isiL); (walk_at "hp")))
local macro_rules | `(tactic| walk_at "split") => `(tactic| first
  | ((with_reducible refine w_itS ?_ ?_) <;> intro _)
  | ((with_reducible refine w_itSN ?_ ?_) <;> intro _)
  | ((with_reducible refine w_itI ?_ ?_) <;> intro _)
  | ((with_reducible refine w_itN ?_ ?_) <;> intro _)
  | ((with_reducible refine w_itn ?_ ?_) <;> intro _)
  | ((with_reducible refine w_itd ?_ ?_) <;> intro _)
  | ((with_reducible refine w_itb ?_ ?_) <;> intro _))
local macro_rules | `(tactic| walk_at "wk") => `(tactic| repeat' (walk_at "w1"))
local macro_rules | `(tactic| walk_at "ws") => `(tactic| repeat' (first | (walk_at "w1") | ((walk_at "split") <;> (try (exfalso; omega)))))

local macro_rules | `(tactic| walk_at "w1") => `(tactic| first
  | ((with_reducible refine w_disp ?_); intro _ _ _ _ _)
  | with_reducible refine w_pairs ?_
  | with_reducible refine w_pairs0 ?_
  | ((with_reducible apply w_dictD); (walk_at "hp"); intro _ _ _ _ _))

local macro_rules | `(tactic| walk_at "w1") => `(tactic| first
  | with_reducible refine w_dput ?_
  | ((with_reducible apply w_DPutB); (walk_at "hp"); (walk_at "sz"))
  | ((with_reducible apply w_insert); (walk_at "hp"); (walk_at "sz"); omega)
  | ((with_reducible refine w_dnewK ?_); intro _ _ _ _ _)
  | with_reducible refine w_revR ?_
  | with_reducible refine w_rg1 ?_
  | with_reducible refine w_RG1 ?_
  | ((with_reducible refine w_RevB ?_ ?_); omega))

local macro_rules | `(tactic| walk_at "w1") => `(tactic| first
  | ((with_reducible apply w_slT1); (walk_at "sq"); intro _ _ _ _ _))

local macro_rules | `(tactic| walk_at "w1") => `(tactic| first
  | with_reducible refine w_isNo1 ?_
  | with_reducible refine w_isNo0 ?_
  | with_reducible refine w_notNo1 ?_
  | with_reducible refine w_notNo0 ?_)

local macro_rules | `(tactic| walk_at "lk") => `(tactic| first
  | exact lookup_hd
  | exact lookup_no
  | ((refine lookup_tl ?_ ?_); decide +kernel; (walk_at "lk")))
local macro_rules | `(tactic| walk_at "w1") => `(tactic| first
  | with_reducible refine w_fld ?_
  | ((with_reducible apply w_FldB); (walk_at "hp"); assumption; assumption; (walk_at "lk"))
  | with_reducible refine w_sfld ?_
  | ((with_reducible apply w_SFldB); (walk_at "hp"); assumption; assumption; exact Nat.le_of_ble_eq_true rfl)
  | with_reducible refine w_meth ?_
  | ((with_reducible apply w_MethB); (walk_at "hp"); (walk_at "lk")))

local macro_rules | `(tactic| walk_at "w1") => `(tactic| first
  | with_reducible refine w_dnin ?_
  | with_reducible refine w_mk ?_
  | ((with_reducible refine w_MkB ?_); intro _ _ _ _ _ _ _)
  | with_reducible refine w_notNoI ?_
  | with_reducible refine w_din ?_
  | ((with_reducible refine w_dnewT ?_); intro _ _ _ _ _)
  | with_reducible refine w_gSub ?_
  | ((with_reducible apply w_tupL); (walk_at "sq"); intro _ _ _ _ _))

def sp_law_whole (K : PySem.W.Frag) : Sp := fun vs H Q _ => ∃ i : Int, vs = [.int i] ∧ Q (.bl true) H
theorem ok_law_whole (T : Top K mg) : FnOk P w K mg base CX0 1 T.a_law_whole T.d_law_whole ["_law_found"] (sp_law_whole K) := by
  refine T.f_law_whole.ok sc_law_whole (fun vs H Q E h => ?_) (fun cdv A outer s H vs Q E hr h => ?_)
  · obtain ⟨i, rfl, _⟩ := h
    rfl
  obtain ⟨i, rfl, h⟩ := h
  refine ⟨_, (pss_one (ps_ret (pe_and (pe_callB (c_isiK K) (by rfl) T.z_isinstance (by decide +kernel) (pa_cons (pv 0) (pa_cons (pe_bltn (v := .ty "int") (by rfl) T.z_int (by decide +kernel) rfl) pa_nil))) (pe_one (pe_not (pe_callB (c_isiK K) (by rfl) T.z_isinstance (by decide +kernel) (pa_cons (pv 0) (pa_cons (pe_bltn (v := .ty "bool") (by rfl) T.z_bool (by decide +kernel) rfl) pa_nil)))))))), ?_⟩
  try dsimp only [cxOf, Cx.nox, Cx.wish]
  simp only [L2.start, List.map_cons, List.map_nil, List.length_cons, List.length_nil, Nat.reduceAdd, Nat.reduceSub, List.replicate_succ, List.replicate_zero, List.cons_append, List.nil_append]
  walk_at "wk"
  exact h
theorem use_whole {i : Int} {H : Hp} {Q : VK} {E : XK} (h : Q (.bl true) H) : sp_law_whole K ([.int i] ++ []) H Q E := ⟨i, rfl, h⟩
local macro_rules | `(tactic| walk_at "w1") => `(tactic| with_reducible refine use_whole ?_)

/-! lengths of short lists and tuples -/
theorem w_lenT2 {K : PySem.W.Frag} {H : Hp} {Q : VK} {p : Addr} {x y : V} (h : SqT K H p [x, y]) (q : Q (.int 2) H) : rLen K [.ref p] H Q := ⟨p, _, rfl, .inr h, q⟩
theorem w_lenT3 {K : PySem.W.Frag} {H : Hp} {Q : VK} {p : Addr} {x y z : V} (h : SqT K H p [x, y, z]) (q : Q (.int 3) H) : rLen K [.ref p] H Q := ⟨p, _, rfl, .inr h, q⟩
local macro_rules | `(tactic| walk_at "w1") => `(tactic| first
  | ((with_reducible apply w_lenT2); (walk_at "sq"))
  | ((with_reducible apply w_lenT3); (walk_at "sq")))
theorem w_lenL0 {K : PySem.W.Frag} {H : Hp} {Q : VK} {p : Addr} (h : SqL K H p []) (q : Q (.int 0) H) : rLen K [.ref p] H Q := ⟨p, _, rfl, .inl h, q⟩
theorem w_lenL1 {K : PySem.W.Frag} {H : Hp} {Q : VK} {p : Addr} {x : V} (h : SqL K H p [x]) (q : Q (.int 1) H) : rLen K [.ref p] H Q := ⟨p, _, rfl, .inl h, q⟩
theorem w_lenL2 {K : PySem.W.Frag} {H : Hp} {Q : VK} {p : Addr} {x y : V} (h : SqL K H p [x, y]) (q : Q (.int 2) H) : rLen K [.ref p] H Q := ⟨p, _, rfl, .inl h, q⟩
local macro_rules | `(tactic| walk_at "w1") => `(tactic| first
  | ((with_reducible apply w_lenL0); (walk_at "sq"))
  | ((with_reducible apply w_lenL1); (walk_at "sq"))
  | ((with_reducible apply w_lenL2); (walk_at "sq")))

def sp_own_wires (K : PySem.W.Frag) : Sp := fun vs H Q _ => ∃ (p : Addr) (r : Row), vs = [.ref p] ∧ RowAt H p r ∧ ∀ q H', H q = none → Same H H' → H' q = some (.lst ((natI (ownR r)).map V.int)) → Q (.ref q) H'
theorem ok_own_wires (T : Top K mg) : FnOk P w K mg base CX0 1 T.a_own_wires T.d_own_wires ["row"] (sp_own_wires K) := by
  refine T.f_own_wires.ok sc_own_wires (fun vs H Q E h => ?_) (fun cdv A outer s H vs Q E hr h => ?_)
  · obtain ⟨p, r, rfl, _⟩ := h
    rfl
  obtain ⟨p, r, rfl, h⟩ := h
  refine ⟨_, (pss_cons (ps_if (pt_cmpR (op_inK K) (pe_ix (ix_tupK K) (pv 0) pe_int (fun _ _ => rfl)) (pe_tup (pa_cons pe_str (pa_cons pe_str (pa_cons pe_str (pa_cons pe_str pa_nil))))) (by rfl)) (pss_one (ps_ret (pe_callTy (c_listK K) (by rfl) T.z_list (by decide +kernel) (pa_cons (pe_slice sl_tup (pv 0) (po_some pe_int) po_none) pa_nil)))) pss_nil)
      (pss_one (ps_ret (pe_lst pa_nil)))), ?_⟩
  try dsimp only [cxOf, Cx.nox, Cx.wish]
  simp only [L2.start, List.map_cons, List.map_nil, List.length_cons, List.length_nil, Nat.reduceAdd, Nat.reduceSub, List.replicate_succ, List.replicate_zero, List.cons_append, List.nil_append]
  obtain ⟨hp, h⟩ := h
  unfold RowAt at hp
  cases r with
  | bin o a b => cases o <;> (walk_at "ws"; exact h _ _ (Same.free (Same.trans (by assumption) (by assumption)) (by assumption)) (Same.trans (Same.trans (by assumption) (by assumption)) (by assumption)) (by assumption))
  | inv a => walk_at "ws"; exact h _ _ (Same.free (Same.trans (by assumption) (by assumption)) (by assumption)) (Same.trans (Same.trans (by assumption) (by assumption)) (by assumption)) (by assumption)
  | _ => walk_at "ws"; exact h _ _ (Same.free (by assumption) (by assumption)) (Same.trans (by assumption) (by assumption)) (by assumption)
theorem depth_get {rs : List Row} {a : Nat} (h : a < rs.length) : ∀ ds : List Int, ds.length = rs.length → atI (ds.map V.int) (a : Int) = some (.int (ds.getD a 0)) := fun ds e => bit_get (by omega)
def sp_depths (K : PySem.W.Frag) : Sp := fun vs H Q _ => ∃ (a : Addr) (rs : List Row) (N : Str → Prop), vs = [.ref a] ∧ RowsL K H a rs ∧ RowsOk N rs ∧ rs.length ≤ 60000 ∧
  ∀ p H', H p = none → Same H H' → H' p = some (.lst ((depthL rs).map V.int)) → Q (.ref p) H'
theorem ok_depths (T : Top K mg) : FnOk P w K mg base CX0 2 T.a_depths T.d_depths ["rows"] (sp_depths K) := by
  refine T.f_depths.ok sc_depths (fun vs H Q E h => ?_) (fun cdv A outer s H vs Q E hr h => ?_)
  · obtain ⟨a, rs, N, rfl, _⟩ := h
    rfl
  obtain ⟨a, rs, N, rfl, h⟩ := h
  refine ⟨_, (pss_cons (ps_set (i := 1) sc_depths.nd rfl (.inl rfl) (pe_lst pa_nil))
      (pss_cons (ps_for PassesOwn.never rfl (pi_list (pv 0)) (pg_name (i := 2) sc_depths.nd rfl (.inl rfl))
      (pss_cons (ps_set (i := 3) sc_depths.nd rfl (.inl rfl) pe_int)
      (pss_cons (ps_for PassesOwn.never rfl (pi_list (pe_call (ok_own_wires T) (hr.mono (by decide)) (by rfl) T.g_own_wires T.f_own_wires.kp T.b_own_wires .nil pass0 (pa_cons (pv 2) pa_nil))) (pg_name (i := 4) sc_depths.nd rfl (.inl rfl))
      (pss_one (ps_set (i := 3) sc_depths.nd rfl (.inl rfl) (pe_callB (c_max2 rfl) (by rfl) T.z_max (by decide +kernel) (pa_cons (pv 3) (pa_cons (pe_op op_add (pe_ix (ix_listK K) (pv 1) (pv 4) (fun _ _ => rfl)) pe_int) pa_nil))))))
      (pss_one (ps_expr (pe_bm PySem.F.plainAttrs_list PySem.F.slot_list_append PySem.F.type_list_append mt_append (pv 1) (pa_cons (pv 3) pa_nil)))))))
      (pss_one (ps_ret (pv 1))))), ?_⟩
  try dsimp only [cxOf, Cx.nox, Cx.wish]
  simp only [L2.start, List.map_cons, List.map_nil, List.length_cons, List.length_nil, Nat.reduceAdd, Nat.reduceSub, List.replicate_succ, List.replicate_zero, List.cons_append, List.nil_append]
  obtain ⟨⟨ps, hS, hA⟩, ok, hlen, h⟩ := h
  walk_at "ws"
  rename_i o H1 n1 s1 e1
  refine for_l (ps.map V.ref) (fun i σ' H' => ∃ y3 y4 y5, σ' = [some (.ref a), some (.ref o), y3, y4, y5] ∧ Same H H' ∧ H' o = some (.lst ((depthL (rs.take i)).map V.int))) ⟨_, _, _, rfl, s1, e1⟩ (fun i σ' H' _ q => ?_) (fun i x σ' H' hx q => ?_) (fun σ' H' q => ?_)
  · obtain ⟨y3, y4, y5, rfl, sm, e⟩ := q
    exact sm.seq hS
  · obtain ⟨y3, y4, y5, rfl, sm, e⟩ := q
    obtain ⟨p, hp, rfl⟩ := get_map hx
    obtain ⟨r, hr', hpr⟩ := hA.get hp
    have hi := (List.getElem?_eq_some_iff.mp hr').1
    have hl : (depthL (rs.take i)).length = i := by unfold depthL; rw [runL_len, List.length_take]; omega
    have okr := own_lt (ok i r hr')
    walk_at "ws"
    refine ⟨p, r, rfl, sm _ _ hpr, fun q G nq sq eq => ?_⟩
    walk_at "ws"
    generalize hds : depthL (rs.take i) = ds at *
    refine for_l ((natI (ownR r)).map V.int) (fun j σ2 G2 => ∃ y5, σ2 = [some (.ref a), some (.ref o), some (.ref p), some (.int (((ownR r).take j).foldl (fun d w => top2 d (ds.getD w 0 + 1)) 0)), y5] ∧ G2 = G) ⟨_, rfl, rfl⟩ (fun j σ2 G2 _ k => ?_) (fun j x σ2 G2 hx2 k => ?_) (fun σ2 G2 k => ?_)
    · obtain ⟨z5, rfl, rfl⟩ := k
      exact SqL.of eq
    · obtain ⟨z5, rfl, rfl⟩ := k
      obtain ⟨z, hz, rfl⟩ := get_map hx2
      obtain ⟨u, hu, rfl⟩ := natI_get hz
      have hui := okr u (List.mem_of_getElem? hu)
      walk_at "ws"
      refine w_ixL (SqL.of (sq _ _ e)) (bit_get (by omega)) ?_
      walk_at "ws"
      rw [take_snoc hu, List.foldl_append]
      exact ⟨_, rfl, rfl⟩
    · obtain ⟨z5, rfl, rfl⟩ := k
      walk_at "ws"
      refine ⟨_, _, _, rfl, same_mut (sm.trans sq) n1, ?_⟩
      rw [upd_same, take_snoc hr', show depthL (rs.take i ++ [r]) = depthL (rs.take i) ++ [deepI (depthL (rs.take i)) r] from runL_snoc .., hds, List.map_append]
      rw [List.length_map, natI_len, List.take_of_length_le (Nat.le_refl _)]
      rfl
  · obtain ⟨y3, y4, y5, rfl, sm, e⟩ := q
    rw [List.length_map, hA.1, List.take_of_length_le (Nat.le_refl _)] at e
    walk_at "ws"
    exact h o H' n1 sm e

/-! numbers drawn from a cell -/
def sp_law_mixed (K : PySem.W.Frag) : Sp := fun vs H Q _ => ∃ c k : Int, vs = [.int c, .int k] ∧ Builtin.Int.intBits c ≤ 1048577 ∧ (0 ≤ k ∧ k ≤ 1000000) ∧ ∀ v : Int, 0 ≤ v → v < 2147483648 → Q (.int v) H
theorem ok_law_mixed (T : Top K mg) : FnOk P w K mg base CX0 1 T.a_law_mixed T.d_law_mixed ["_law_cell", "_law_k"] (sp_law_mixed K) := by
  refine T.f_law_mixed.ok sc_law_mixed (fun vs H Q E h => ?_) (fun cdv A outer s H vs Q E hr h => ?_)
  · obtain ⟨c, k, rfl, _⟩ := h
    rfl
  obtain ⟨c, k, rfl, h⟩ := h
  refine ⟨_, (pss_cons (ps_if (pt_cmpR op_ge (pv 0) (pe_op op_pow pe_int pe_int) (nomark _)) (pss_one (ps_ret (pe_op op_mod (pe_op op_fdivW (pe_op op_sub (pv 0) (pe_op op_pow pe_int pe_int)) (pe_op op_shl pe_int (pe_op op_mulI pe_int (pe_op op_mod (pv 1) pe_int)))) (pe_op op_shl pe_int pe_int)))) pss_nil)
      (pss_cons (ps_set (i := 2) sc_law_mixed.nd rfl (.inl rfl) (pe_op op_mod (pe_op op_add (pe_op op_add (pe_op op_mulI (pv 0) pe_int) (pe_op op_mulI (pe_op op_mulI pe_int (pv 1)) (pv 1))) (pv 1)) pe_int))
      (pss_cons (ps_set (i := 2) sc_law_mixed.nd rfl (.inl rfl) (pe_op op_mod (pe_op op_mulI (pv 2) (pv 2)) pe_int))
      (pss_one (ps_ret (pe_op op_mod (pe_op op_mulI (pv 2) pe_int) pe_int)))))), ?_⟩
  try dsimp only [cxOf, Cx.nox, Cx.wish]
  simp only [L2.start, List.map_cons, List.map_nil, List.length_cons, List.length_nil, Nat.reduceAdd, Nat.reduceSub, List.replicate_succ, List.replicate_zero, List.cons_append, List.nil_append]
  obtain ⟨hc, hk, h⟩ := h
  walk_at "ws"
  · have hp : (0 : Int) < 1 * 2 ^ (31 * (k % 60)).toNat := by
      rw [Int.one_mul]
      exact p2pos _
    refine w_I (wide_div hp (b := 2001) (by rw [abs_pow]; exact Nat.pow_lt_pow_right (by decide) (by omega)) (by decide) (by decide)) ?_
    walk_at "ws"
    have e : (1 : Int) * 2 ^ Int.toNat 31 = 2147483648 := by decide
    rw [e]
    exact h _ (Int.emod_nonneg _ (by decide)) (Int.emod_lt_of_pos _ (by decide))
  · refine h _ (Int.emod_nonneg _ (by decide)) ?_
    exact Int.lt_trans (Int.emod_lt_of_pos _ (by decide)) (by decide)
theorem use_mixed {c k : Int} {H : Hp} {Q : VK} {E : XK} (hc : Builtin.Int.intBits c ≤ 1048577) (hk : 0 ≤ k ∧ k ≤ 1000000) (h : ∀ v : Int, 0 ≤ v → v < 2147483648 → Q (.int v) H) : sp_law_mixed K ([.int c, .int k] ++ []) H Q E :=
  ⟨c, k, rfl, hc, hk, h⟩
local macro_rules | `(tactic| walk_at "w1") => `(tactic| ((with_reducible refine use_mixed ?_ ?_ ?_); (first | assumption | exact Nat.le_succ_of_le (by assumption)); omega; intro _ _ _))

def sp_law_great (K : PySem.W.Frag) : Sp := fun vs H Q _ => ∃ c k : Int, vs = [.int c, .int k] ∧ Builtin.Int.intBits c ≤ 1048577 ∧ (0 ≤ k ∧ k ≤ 100000) ∧ ∀ v : Int, Q (.int v) H
theorem ok_law_great (T : Top K mg) : FnOk P w K mg base CX0 2 T.a_law_great T.d_law_great ["_law_cell", "_law_k"] (sp_law_great K) := by
  refine T.f_law_great.ok sc_law_great (fun vs H Q E h => ?_) (fun cdv A outer s H vs Q E hr h => ?_)
  · obtain ⟨c, k, rfl, _⟩ := h
    rfl
  obtain ⟨c, k, rfl, h⟩ := h
  refine ⟨_, (pss_cons (ps_set (i := 2) sc_law_great.nd rfl (.inl rfl) (pe_op op_add (pe_op op_mulI (pv 0) pe_int) (pe_op op_mulI (pe_call (ok_law_mixed T) (hr.mono (by decide)) (by rfl) T.g_law_mixed T.f_law_mixed.kp T.b_law_mixed .nil pass0 (pa_cons (pv 0) (pa_cons (pv 1) pa_nil))) (pe_op op_pow pe_int pe_int))))
      (pss_cons (ps_set (i := 2) sc_law_great.nd rfl (.inl rfl) (pe_op op_add (pv 2) (pe_op op_mulI (pe_call (ok_law_mixed T) (hr.mono (by decide)) (by rfl) T.g_law_mixed T.f_law_mixed.kp T.b_law_mixed .nil pass0 (pa_cons (pv 0) (pa_cons (pe_op op_add (pv 1) pe_int) pa_nil))) (pe_op op_pow pe_int pe_int))))
      (pss_one (ps_ret (pe_op op_sub (pe_op op_mod (pv 2) (pe_op op_mulI pe_int (pe_op op_pow pe_int pe_int))) (pe_op op_pow pe_int pe_int)))))), ?_⟩
  try dsimp only [cxOf, Cx.nox, Cx.wish]
  simp only [L2.start, List.map_cons, List.map_nil, List.length_cons, List.length_nil, Nat.reduceAdd, Nat.reduceSub, List.replicate_succ, List.replicate_zero, List.cons_append, List.nil_append]
  obtain ⟨hc, hk, h⟩ := h
  walk_at "ws"
  exact h _
theorem use_great {c k : Int} {H : Hp} {Q : VK} {E : XK} (hc : Builtin.Int.intBits c ≤ 1048577) (hk : 0 ≤ k ∧ k ≤ 100000) (h : ∀ v : Int, Q (.int v) H) : sp_law_great K ([.int c, .int k] ++ []) H Q E :=
  ⟨c, k, rfl, hc, hk, h⟩
local macro_rules | `(tactic| walk_at "w1") => `(tactic| ((with_reducible refine use_great ?_ ?_ ?_); (first | assumption | exact Nat.le_succ_of_le (by assumption)); omega; intro _))

/-! names: one to six small letters -/
def letter (c : Nat) : Prop := 97 ≤ c ∧ c ≤ 122
def NameOk (s : Str) : Prop := (1 ≤ s.length ∧ s.length ≤ 6) ∧ ∀ c ∈ s.cps.toList, letter c
theorem letters_at (i : Int) (h : 0 ≤ i ∧ i < 26) : ∃ c, atI (Str.ofString "abcdefghijklmnopqrstuvwxyz").cps.toList i = some c ∧ letter c := by
  have e : (Str.ofString "abcdefghijklmnopqrstuvwxyz").cps.toList = (List.range 26).map (· + 97) := by decide +kernel
  rw [e]
  obtain ⟨n, rfl⟩ := Int.eq_ofNat_of_zero_le h.1
  have hn : n < 26 := by omega
  refine ⟨n + 97, atI_nat ?_, by unfold letter; omega⟩
  rw [List.getElem?_map, List.getElem?_range hn]
  rfl
theorem tl_concat : ∀ ss : List Str, (Txt.join "" ss).cps.toList = (ss.map fun s => s.cps.toList).flatten := by
  intro ss
  have h : TL.tl (Txt.join "" ss) = TL.joinL (TL.tl "") (ss.map TL.tl) := by rw [TL.join_eq, TL.tl_join]
  have e : TL.tl "" = [] := by decide +kernel
  rw [e] at h
  have key : ∀ l : List (List Nat), TL.joinL [] l = l.flatten := by
    intro l
    induction l with
    | nil => rfl
    | cons p r ih =>
      cases r with
      | nil => exact (List.append_nil p).symm
      | cons q r => show p ++ ([] ++ TL.joinL [] (q :: r)) = p ++ (q :: r).flatten; rw [List.nil_append, ih]
  rw [key] at h
  exact h
/-- signs that are one letter each -/
def oneL (s : Str) : Prop := ∃ c, s = ⟨#[c]⟩ ∧ letter c
theorem ones_join {ss : List Str} (h : ∀ s ∈ ss, oneL s) : (Txt.join "" ss).length = ss.length ∧ ∀ c ∈ (Txt.join "" ss).cps.toList, letter c := by
  have e := tl_concat ss
  have key : ∀ ss : List Str, (∀ s ∈ ss, oneL s) → (ss.map fun s => s.cps.toList).flatten.length = ss.length ∧ ∀ c ∈ (ss.map fun s => s.cps.toList).flatten, letter c := by
    intro ss
    induction ss with
    | nil => intro _; exact ⟨rfl, fun c hc => by cases hc⟩
    | cons s r ih =>
      intro h
      obtain ⟨c, rfl, hc⟩ := h s (List.mem_cons_self ..)
      obtain ⟨h1, h2⟩ := ih fun z hz => h z (List.mem_cons_of_mem _ hz)
      refine ⟨?_, fun d hd => ?_⟩
      · show (c :: (r.map fun s => s.cps.toList).flatten).length = (r.length + 1)
        rw [List.length_cons, h1]
      · rcases List.mem_cons.mp (show d ∈ c :: (r.map fun s => s.cps.toList).flatten from hd) with q | q
        · rw [q]; exact hc
        · exact h2 d q
  obtain ⟨k1, k2⟩ := key ss h
  refine ⟨?_, fun c hc => k2 c (by rw [← e]; exact hc)⟩
  rw [← k1, ← e]
  exact (Array.length_toList).symm
theorem ones_sum : ∀ {ss : List Str}, (∀ s ∈ ss, oneL s) → (ss.map (·.length)).sum = ss.length
  | [], _ => rfl
  | s :: r, h => by
    obtain ⟨c, rfl, hc⟩ := h s (List.mem_cons_self ..)
    have ih := ones_sum fun z hz => h z (List.mem_cons_of_mem _ hz)
    rw [List.map_cons, List.sum_cons, ih, List.length_cons]
    show 1 + r.length = r.length + 1
    omega
theorem cut_name {z : Str} {n : Nat} (hz : n ≤ z.length) (h : ∀ c ∈ z.cps.toList, letter c) (hn : 1 ≤ n ∧ n ≤ 6) : NameOk (cutS z none (some (n : Int))) := by
  have e : (cutS z none (some (n : Int))).cps.toList = z.cps.toList.take n := by
    unfold cutS
    rw [HT.sIx_none, HT.sIx_nat, Nat.min_eq_left hz, List.drop_zero, Nat.sub_zero, List.toList_toArray]
  have hl : (cutS z none (some (n : Int))).length = n := by
    have : (cutS z none (some (n : Int))).length = (cutS z none (some (n : Int))).cps.toList.length := (Array.length_toList).symm
    rw [this, e, List.length_take]
    have : z.cps.toList.length = z.length := Array.length_toList
    omega
  refine ⟨by rw [hl]; exact hn, fun c hc => ?_⟩
  rw [e] at hc
  exact h c (List.mem_of_mem_take hc)
theorem name_strOk {s : Str} (h : NameOk s) : PyData.strOk s = true := by
  unfold PyData.strOk
  rw [Array.all_eq_true_iff_forall_mem]
  intro c hc
  have := h.2 c (Array.mem_toList_iff.mpr hc)
  unfold letter at this
  exact decide_eq_true (by omega)
def sp_law_names (K : PySem.W.Frag) : Sp := fun vs H Q _ => ∃ n : Int, vs = [.int n] ∧ (0 ≤ n ∧ n < 2147483648) ∧
  ∀ (nm : List Str) p H', nm.length = 4 → (∀ x ∈ nm, NameOk x) → H p = none → Same H H' → H' p = some (.lst (nm.map V.str)) → Q (.ref p) H'
theorem ok_law_names (T : Top K mg) : FnOk P w K mg base CX0 1 T.a_law_names T.d_law_names ["_law_number"] (sp_law_names K) := by
  refine T.f_law_names.ok sc_law_names (fun vs H Q E h => ?_) (fun cdv A outer s H vs Q E hr h => ?_)
  · obtain ⟨n, rfl, _⟩ := h
    rfl
  obtain ⟨n, rfl, h⟩ := h
  refine ⟨_, (pss_cons (ps_set (i := 1) sc_law_names.nd rfl (.inr rfl) pe_str)
      (pss_cons (ps_set (i := 2) sc_law_names.nd rfl (.inr rfl) (pe_lc (own := [("_law_k", 8)]) (g := gName 8) (tt := tYes) (by rfl) sc_law_names.nd (pi_range1 (by rfl) T.z_range (pa_cons (pe_op op_add pe_int (pe_op op_mod (pv 0) pe_int)) pa_nil)) (blkOk_by (N := ["_law_number", "_law_letters", "_law_some_here", "_law_at_here", "_law_names_here", "_law_j", "_law_spots", "_law_word", "_law_k", "_law_spot"]) (sc := defScope s_law_names) (by decide +kernel)) (fun _ _ _ _ _ => (pg_name (i := 8) sc_law_names.nd rfl (.inl rfl))) (fun _ _ _ _ _ => pts_nil) (fun _ _ _ _ _ => (pe_op op_mod (pe_op op_fdiv (pv 0) (pe_op op_add (pv 8) pe_int)) pe_int))))
      (pss_cons (ps_set (i := 3) sc_law_names.nd rfl (.inr rfl) (pe_op op_mod (pe_op op_fdiv (pv 0) pe_int) (pe_callB (c_lenK K) (by rfl) T.z_len PySem.boot_len (pa_cons (pv 2) pa_nil))))
      (pss_cons (ps_set (i := 4) sc_law_names.nd rfl (.inl rfl) (pe_lst pa_nil))
      (pss_cons (ps_for PassesOwn.never rfl (pi_range1 (by rfl) T.z_range (pa_cons pe_int pa_nil)) (pg_name (i := 5) sc_law_names.nd rfl (.inr rfl))
      (pss_cons (ps_setLc (i := 6) (own := [("_law_k", 8)]) (g := gName 8) (tt := tYes) (by rfl) sc_law_names.nd rfl rfl (sw_true rfl rfl rfl (by decide +kernel)) (pi_range1 (by rfl) T.z_range (pa_cons (pe_callB (c_lenK K) (by rfl) T.z_len PySem.boot_len (pa_cons (pv 2) pa_nil)) pa_nil)) (blkOk_by (N := ["_law_number", "_law_letters", "_law_some_here", "_law_at_here", "_law_names_here", "_law_j", "_law_spots", "_law_word", "_law_k", "_law_spot"]) (sc := defScope s_law_names) (by decide +kernel)) (fun _ _ _ _ _ => (pg_name (i := 8) sc_law_names.nd rfl (.inl rfl))) (fun _ _ _ _ _ => pts_nil) (fun _ _ _ _ _ => (pe_op op_add (pe_ix (ix_listK K) (pv 2) (pv 8) (fun _ _ => rfl)) (pe_op op_mulI (pv 5) (pe_callTy c_intB (by rfl) T.z_int (by decide +kernel) (pa_cons (pe_cmpR op_eq (pv 8) (pv 3) (nomark _)) pa_nil))))))
      (pss_one (ps_expr (pe_bm PySem.F.plainAttrs_list PySem.F.slot_list_append PySem.F.type_list_append mt_append (pv 4) (pa_cons (p_join K pe_str (pe_lc (own := [("_law_spot", 9)]) (g := gName 9) (tt := tYes) (by rfl) sc_law_names.nd (pi_list (pv 6)) (blkOk_by (N := ["_law_number", "_law_letters", "_law_some_here", "_law_at_here", "_law_names_here", "_law_j", "_law_spots", "_law_word", "_law_k", "_law_spot"]) (sc := defScope s_law_names) (by decide +kernel)) (fun _ _ _ _ _ => (pg_name (i := 9) sc_law_names.nd rfl (.inl rfl))) (fun _ _ _ _ _ => pts_nil) (fun _ _ _ _ _ => (pe_ix ix_str (pv 1) (pe_op op_mod (pv 9) pe_int) (fun _ _ => rfl))))) pa_nil))))))
      (Evl.pss_cut (ps_if (pt_cmpR op_eq (pe_op op_mod (pe_op op_fdiv (pv 0) pe_int) pe_int) pe_int (nomark _)) (pss_cons (ps_set (i := 7) sc_law_names.nd rfl (.inr rfl) (p_join K pe_str (pe_lc (own := [("_law_k", 8)]) (g := gName 8) (tt := tYes) (by rfl) sc_law_names.nd (pi_range1 (by rfl) T.z_range (pa_cons pe_int pa_nil)) (blkOk_by (N := ["_law_number", "_law_letters", "_law_some_here", "_law_at_here", "_law_names_here", "_law_j", "_law_spots", "_law_word", "_law_k", "_law_spot"]) (sc := defScope s_law_names) (by decide +kernel)) (fun _ _ _ _ _ => (pg_name (i := 8) sc_law_names.nd rfl (.inl rfl))) (fun _ _ _ _ _ => pts_nil) (fun _ _ _ _ _ => (pe_ix ix_str (pv 1) (pe_op op_mod (pe_op op_fdiv (pv 0) (pe_op op_add (pv 8) pe_int)) pe_int) (fun _ _ => rfl))))))
      (pss_one (ps_setLc (i := 4) (own := [("_law_k", 8)]) (g := gName 8) (tt := tYes) (by rfl) sc_law_names.nd rfl rfl (sw_true rfl rfl rfl (by decide +kernel)) (pi_range1 (by rfl) T.z_range (pa_cons pe_int pa_nil)) (blkOk_by (N := ["_law_number", "_law_letters", "_law_some_here", "_law_at_here", "_law_names_here", "_law_j", "_law_spots", "_law_word", "_law_k", "_law_spot"]) (sc := defScope s_law_names) (by decide +kernel)) (fun _ _ _ _ _ => (pg_name (i := 8) sc_law_names.nd rfl (.inl rfl))) (fun _ _ _ _ _ => pts_nil) (fun _ _ _ _ _ => (pe_slice sl_str (pv 7) po_none (po_some (pe_op op_add (pv 8) pe_int))))))) pss_nil)
      (pss_one (ps_ret (pv 4))))))))), ?_⟩
  try dsimp only [cxOf, Cx.nox, Cx.wish]
  simp only [L2.start, List.map_cons, List.map_nil, List.length_cons, List.length_nil, Nat.reduceAdd, Nat.reduceSub, List.replicate_succ, List.replicate_zero, List.cons_append, List.nil_append]
  obtain ⟨hn, h⟩ := h
  walk_at "ws"
  refine lc_rx (lo := 0) (fun y => ∃ i : Int, y = .int i ∧ True) (by omega) (fun x => rfl) (fun i H' Q' hi _ q => ?_) (fun ys p H1 hl hP n1 s1 e1 => ?_)
  · rw [Int.zero_add]
    walk_at "ws"
    exact q _ ⟨_, rfl, True.intro⟩
  obtain ⟨xs, rfl, _⟩ := all_map (f := V.int) (R := fun _ => True) hP
  have hlx : xs.length = (1 + n % 6).toNat := by rw [← hl, List.length_map]
  have hlm : (xs.map V.int).length = xs.length := List.length_map ..
  walk_at "ws"
  rename_i p2 H2 n2 s2 e2
  have hat0 : 0 ≤ n / 64 % ((xs.map V.int).length : Int) := Int.emod_nonneg _ (by omega)
  generalize n / 64 % ((xs.map V.int).length : Int) = at0 at *
  refine for_r (fun i σ' G => ∃ (nm : List Str) (y5 y6 : Option V), σ' = [some (.int n), some (.str "abcdefghijklmnopqrstuvwxyz"), some (.ref p), some (.int at0), some (.ref p2), y5, y6, none, none, none] ∧ Same H1 G ∧ G p2 = some (.lst (nm.map V.str)) ∧ nm.length = i ∧ ∀ x ∈ nm, NameOk x) ⟨[], _, _, rfl, s2, e2, rfl, fun x h => (by cases h)⟩ (fun i σ' G hi q => ?_) (fun σ' G q => ?_)
  · obtain ⟨nm, y5, y6, rfl, sG, eG, hnm, hok⟩ := q
    walk_at "ws"
    refine lc_rx (lo := 0) (fun y => ∃ i : Int, y = .int i ∧ True) (by omega) (fun x => rfl) (fun k H' Q' hk sm q => ?_) (fun ys p3 G1 hl3 hP3 n3 s3 e3 => ?_)
    · rw [Int.zero_add]
      have hk2 : k < xs.length := by omega
      walk_at "ws"
      refine w_ixL ((sG.trans sm).seq (SqL.of e1)) (get_int hk2) ?_
      walk_at "ws"
      exact q _ ⟨_, rfl, True.intro⟩
    obtain ⟨zs, rfl, _⟩ := all_map (f := V.int) (R := fun _ => True) hP3
    have hlz : zs.length = xs.length := by
      rw [List.length_map] at hl3
      omega
    walk_at "ws"
    refine lc_lx (zs.map V.int) (fun y => ∃ s : Str, y = .str s ∧ oneL s) (SqL.of e3) (by rw [List.length_map]; omega) (fun x => rfl) (fun k x H' Q' hx sm q => ?_) (fun ys p4 G2 hl4 hP4 n4 s4 e4 => ?_)
    · obtain ⟨z, _, rfl⟩ := get_map hx
      walk_at "ws"
      obtain ⟨c, hc, lc⟩ := letters_at (z % 26) (by omega)
      refine w_ixS (by decide +kernel) hc ?_
      exact q _ ⟨_, rfl, c, rfl, lc⟩
    obtain ⟨ss, rfl, hss⟩ := all_map (f := V.str) (R := oneL) hP4
    have hls : ss.length = xs.length := by
      rw [List.length_map, List.length_map] at hl4
      omega
    have e0 : (Str.ofString "").length = 0 := by decide +kernel
    refine w_join (SqL.of e4) (by rw [ones_sum hss, e0]; omega) ?_
    obtain ⟨j1, j2⟩ := ones_join hss
    have eG2 : G2 p2 = some (.lst (nm.map V.str)) := s4 _ _ (s3 _ _ eG)
    walk_at "ws"
    refine ⟨nm ++ [Txt.join "" ss], _, _, rfl, same_mut ((sG.trans s3).trans s4) n2, ?_, by rw [List.length_append, hnm]; rfl, fun x hx => ?_⟩
    · rw [upd_same, List.map_append]
      rfl
    · rcases List.mem_append.mp hx with k | k
      · exact hok x k
      · rw [List.mem_singleton.mp k]
        exact ⟨by rw [j1]; omega, j2⟩
  obtain ⟨nm, y5, y6, rfl, sG, eG, hnm, hok⟩ := q
  walk_at "ws"
  have hnp : H p2 = none := s1.free n2
  refine w_cut (fun σ' G' => ∃ (nm : List Str) (q : Addr) (y7 : Option V), σ' = [some (.int n), some (.str "abcdefghijklmnopqrstuvwxyz"), some (.ref p), some (.int at0), some (.ref q), y5, y6, y7, none, none] ∧ Same H G' ∧ H q = none ∧ G' q = some (.lst (nm.map V.str)) ∧ nm.length = 4 ∧ ∀ x ∈ nm, NameOk x) ?_ ?_
  · walk_at "ws"
    · refine lc_rx (lo := 0) (fun y => ∃ s : Str, y = .str s ∧ oneL s) (by decide) (fun x => rfl) (fun k H' Q' hk sm q => ?_) (fun ys p4 G2 hl4 hP4 n4 s4 e4 => ?_)
      · have hk5 : k < 5 := hk
        rw [Int.zero_add]
        walk_at "ws"
        obtain ⟨c, hc, lc⟩ := letters_at (n / ((k : Int) + 3) % 26) (by omega)
        refine w_ixS (by decide +kernel) hc ?_
        exact q _ ⟨_, rfl, c, rfl, lc⟩
      obtain ⟨ss, rfl, hss⟩ := all_map (f := V.str) (R := oneL) hP4
      have hls : ss.length = 5 := by
        rw [List.length_map] at hl4
        exact hl4
      have e0 : (Str.ofString "").length = 0 := by decide +kernel
      refine w_join (SqL.of e4) (by rw [ones_sum hss, e0]; omega) ?_
      obtain ⟨j1, j2⟩ := ones_join hss
      walk_at "ws"
      refine lc_rx (lo := 0) (fun y => ∃ s : Str, y = .str s ∧ NameOk s) (by decide) (fun x => rfl) (fun k H' Q' hk sm q => ?_) (fun ys p5 G3 hl5 hP5 n5 s5 e5 => ?_)
      · have hk4 : k < 4 := hk
        rw [Int.zero_add]
        walk_at "ws"
        refine w_slS (by omega) ?_
        refine q _ ⟨_, rfl, ?_⟩
        exact cut_name (n := k + 1) (by omega) j2 (by omega)
      obtain ⟨ns, rfl, hns⟩ := all_map (f := V.str) (R := NameOk) hP5
      have hln : ns.length = 4 := by
        rw [List.length_map] at hl5
        exact hl5
      walk_at "ws"
      exact ⟨ns, p5, _, rfl, ((s1.trans sG).trans s4).trans s5, ((s1.trans sG).trans s4).free n5, e5, hln, hns⟩
    · exact ⟨nm, p2, _, rfl, s1.trans sG, hnp, eG, hnm, hok⟩
  rintro σ1 G1 ⟨nm, q, y7, rfl, sG1, nq, eq, hl, hok⟩
  walk_at "ws"
  exact h nm q G1 hl hok nq sG1 eq

def Bits (ns : List Int) : Prop := ∀ z ∈ ns, Builtin.Int.intBits z ≤ 1048576
def sp_law_at (K : PySem.W.Frag) : Sp := fun vs H Q _ => ∃ (a : Addr) (ns : List Int) (k : Int), vs = [.ref a, .int k] ∧ SqL K H a (ns.map V.int) ∧ Bits ns ∧ (0 ≤ k ∧ k ≤ 1000000) ∧ ∀ v : Int, Builtin.Int.intBits v ≤ 1048576 → Q (.int v) H
theorem ok_law_at (T : Top K mg) : FnOk P w K mg base CX0 1 T.a_law_at T.d_law_at ["_law_script", "_law_k"] (sp_law_at K) := by
  refine T.f_law_at.ok sc_law_at (fun vs H Q E h => ?_) (fun cdv A outer s H vs Q E hr h => ?_)
  · obtain ⟨a, ns, k, rfl, _⟩ := h
    rfl
  obtain ⟨a, ns, k, rfl, h⟩ := h
  refine ⟨_, (pss_cons (ps_if (pt_cmpR op_lt (pv 1) (pe_callB (c_lenK K) (by rfl) T.z_len PySem.boot_len (pa_cons (pv 0) pa_nil)) (nomark _)) (pss_one (ps_ret (pe_ix (ix_listK K) (pv 0) (pv 1) (fun _ _ => rfl)))) pss_nil)
      (pss_one (ps_ret pe_int))), ?_⟩
  try dsimp only [cxOf, Cx.nox, Cx.wish]
  simp only [L2.start, List.map_cons, List.map_nil, List.length_cons, List.length_nil, Nat.reduceAdd, Nat.reduceSub, List.replicate_succ, List.replicate_zero, List.cons_append, List.nil_append]
  obtain ⟨hS, hb, hk, h⟩ := h
  walk_at "ws"
  · rename_i hlt
    rw [List.length_map] at hlt
    obtain ⟨n, rfl⟩ := Int.eq_ofNat_of_zero_le hk.1
    have hn : n < ns.length := by omega
    refine w_ixL hS (get_int hn) ?_
    walk_at "ws"
    exact h _ (hb _ (List.getElem_mem hn))
  · exact h _ (by decide)
theorem use_at {a : Addr} {ns : List Int} {k : Int} {H : Hp} {Q : VK} {E : XK} (hS : SqL K H a (ns.map V.int)) (hb : Bits ns) (hk : 0 ≤ k ∧ k ≤ 1000000) (h : ∀ v : Int, Builtin.Int.intBits v ≤ 1048576 → Q (.int v) H) : sp_law_at K ([.ref a, .int k] ++ []) H Q E := ⟨a, ns, k, rfl, hS, hb, hk, h⟩
local macro_rules | `(tactic| walk_at "w1") => `(tactic| ((with_reducible apply use_at); (walk_at "sq"); assumption; omega; intro _ _))
/-- a drawn number -/
def Drawn (x : Int) : Prop := 0 ≤ x ∧ x < 2147483648
def sp_law_numbers (K : PySem.W.Frag) : Sp := fun vs H Q _ => ∃ (a : Addr) (ns : List Int) (k : Int), vs = [.ref a, .int k] ∧ SqL K H a (ns.map V.int) ∧ Bits ns ∧ (0 ≤ k ∧ k ≤ 100) ∧
  ∀ (xs : List Int) p H', xs.length ≤ 63 → (∀ x ∈ xs, Drawn x) → H p = none → Same H H' → H' p = some (.lst (xs.map V.int)) → Q (.ref p) H'
theorem ok_law_numbers (T : Top K mg) : FnOk P w K mg base CX0 2 T.a_law_numbers T.d_law_numbers ["_law_script", "_law_start"] (sp_law_numbers K) := by
  refine T.f_law_numbers.ok sc_law_numbers (fun vs H Q E h => ?_) (fun cdv A outer s H vs Q E hr h => ?_)
  · obtain ⟨a, ns, k, rfl, _⟩ := h
    rfl
  obtain ⟨a, ns, k, rfl, h⟩ := h
  refine ⟨_, (pss_cons (ps_set (i := 2) sc_law_numbers.nd rfl (.inr rfl) (pe_slice sl_list (pv 0) po_none (po_some pe_int)))
      (pss_one (ps_ret (pe_lc (own := [("_law_k", 3)]) (g := gName 3) (tt := tYes) (by rfl) sc_law_numbers.nd (pi_range2 (by rfl) T.z_range (pa_cons (pv 1) (pa_cons (pe_callB (c_lenK K) (by rfl) T.z_len PySem.boot_len (pa_cons (pv 2) pa_nil)) pa_nil))) (blkOk_by (N := ["_law_script", "_law_start", "_law_some_here", "_law_k"]) (sc := defScope s_law_numbers) (by decide +kernel)) (fun _ _ _ _ _ => (pg_name (i := 3) sc_law_numbers.nd rfl (.inl rfl))) (fun _ _ _ _ _ => pts_nil) (fun _ _ _ _ _ => (pe_call (ok_law_mixed T) (hr.mono (by decide)) (by rfl) T.g_law_mixed T.f_law_mixed.kp T.b_law_mixed .nil pass0 (pa_cons (pe_ix (ix_listK K) (pv 2) (pv 3) (fun _ _ => rfl)) (pa_cons (pv 3) pa_nil)))))))), ?_⟩
  try dsimp only [cxOf, Cx.nox, Cx.wish]
  simp only [L2.start, List.map_cons, List.map_nil, List.length_cons, List.length_nil, Nat.reduceAdd, Nat.reduceSub, List.replicate_succ, List.replicate_zero, List.cons_append, List.nil_append]
  obtain ⟨hS, hb, hk, h⟩ := h
  have hlm : (ns.map V.int).length = ns.length := List.length_map ..
  walk_at "ws"
  rename_i p1 H1 n1 s1 e1
  have e0 : cutV (ns.map V.int) none (some 63) = (ns.take 63).map V.int := by
    rw [show (63 : Int) = ((63 : Nat) : Int) from rfl, cut_upto, ← List.map_take]
  rw [e0] at e1
  rw [e0]
  have hl2 : (ns.take 63).length ≤ 63 := by rw [List.length_take]; omega
  have hlm2 : ((ns.take 63).map V.int).length = (ns.take 63).length := List.length_map ..
  have hb2 : Bits (ns.take 63) := fun z hz => hb z (List.mem_of_mem_take hz)
  generalize ns.take 63 = ms at *
  walk_at "ws"
  refine lc_rx (lo := k) (fun y => ∃ i : Int, y = .int i ∧ Drawn i) (by omega) (fun x => rfl) (fun i H' Q' hi sm q => ?_) (fun ys p H2 hl hP n2 s2 e2 => ?_)
  · obtain ⟨n, rfl⟩ := Int.eq_ofNat_of_zero_le hk.1
    have hn : n + i < ms.length := by omega
    have ek : ((n : Int) + (i : Int)) = ((n + i : Nat) : Int) := by omega
    rw [ek]
    have hbn := hb2 _ (List.getElem_mem hn)
    walk_at "ws"
    refine w_ixL (sm.seq (SqL.of e1)) (get_int hn) ?_
    walk_at "ws"
    rename_i v v0 v1
    exact q _ ⟨v, rfl, v0, v1⟩
  obtain ⟨xs, rfl, hx⟩ := all_map (f := V.int) (R := Drawn) hP
  have hlx : xs.length = ((ms.map V.int).length - k).toNat := by
    rw [← hl, List.length_map]
  exact h xs p H2 (by omega) hx (s1.free n2) (s1.trans s2) e2
/-- an in row of some names -/
def inRow (nm : List Str) (r : Row) : Prop := ∃ x k, r = .inn x k ∧ x ∈ nm ∧ k < 64
theorem get_str {ns : List Str} {i : Int} (h : 0 ≤ i ∧ i < ns.length) : ∃ x, atI (ns.map V.str) i = some (.str x) ∧ x ∈ ns := by
  obtain ⟨n, rfl⟩ := Int.eq_ofNat_of_zero_le h.1
  have hn : n < ns.length := by omega
  exact ⟨ns[n], atI_nat (by rw [List.getElem?_map, List.getElem?_eq_getElem hn]; rfl), List.getElem_mem hn⟩
def sp_law_ins (K : PySem.W.Frag) : Sp := fun vs H Q _ => ∃ (a : Addr) (nm : List Str) (n m : Int), vs = [.ref a, .int n, .int m] ∧ SqL K H a (nm.map V.str) ∧ nm.length = 4 ∧ (0 ≤ n ∧ n < 2147483648) ∧ (0 ≤ m ∧ m ≤ 1000) ∧
  ∀ (rs : List Row) p H', rs.length = m.toNat → (∀ r ∈ rs, inRow nm r) → H p = none → Same H H' → RowsM H' p rs → Q (.ref p) H'
theorem ok_law_ins (T : Top K mg) : FnOk P w K mg base CX0 1 T.a_law_ins T.d_law_ins ["_law_names_here", "_law_number", "_law_many"] (sp_law_ins K) := by
  refine T.f_law_ins.ok sc_law_ins (fun vs H Q E h => ?_) (fun cdv A outer s H vs Q E hr h => ?_)
  · obtain ⟨a, nm, n, m, rfl, _⟩ := h
    rfl
  obtain ⟨a, nm, n, m, rfl, h⟩ := h
  refine ⟨_, (pss_cons (ps_set (i := 3) sc_law_ins.nd rfl (.inl rfl) (pe_lst pa_nil))
      (pss_cons (ps_for PassesOwn.never rfl (pi_range1 (by rfl) T.z_range (pa_cons (pv 2) pa_nil)) (pg_name (i := 4) sc_law_ins.nd rfl (.inl rfl))
      (pss_one (ps_expr (pe_bm PySem.F.plainAttrs_list PySem.F.slot_list_append PySem.F.type_list_append mt_append (pv 3) (pa_cons (pe_tup (pa_cons pe_str (pa_cons (pe_ix (ix_listK K) (pv 0) (pe_op op_mod (pe_op op_fdiv (pv 1) (pe_op op_add (pv 4) pe_int)) pe_int) (fun _ _ => rfl)) (pa_cons (pe_op op_mod (pe_op op_fdiv (pv 1) (pe_op op_add (pe_op op_mulI (pv 4) (pv 4)) pe_int)) pe_int) pa_nil)))) pa_nil)))))
      (pss_one (ps_ret (pv 3))))), ?_⟩
  try dsimp only [cxOf, Cx.nox, Cx.wish]
  simp only [L2.start, List.map_cons, List.map_nil, List.length_cons, List.length_nil, Nat.reduceAdd, Nat.reduceSub, List.replicate_succ, List.replicate_zero, List.cons_append, List.nil_append]
  obtain ⟨hS, h4, hn, hm, h⟩ := h
  walk_at "ws"
  rename_i o H1 n1 s1 e1
  refine for_r (fun i σ' G => ∃ (rs : List Row) (y : Option V), σ' = [some (.ref a), some (.int n), some (.int m), some (.ref o), y] ∧ Same H G ∧ RowsM G o rs ∧ rs.length = i ∧ ∀ r ∈ rs, inRow nm r) ⟨[], _, rfl, s1, ⟨[], e1, A2.nil⟩, rfl, fun r hr => (by cases hr)⟩ (fun i σ' G hi q => ?_) (fun σ' G q => ?_)
  · obtain ⟨rs, y, rfl, sG, ⟨ps, e, hA⟩, hl, hr'⟩ := q
    have hpl := hA.1
    have kk : (0 : Int) ≤ (i : Int) * (i : Int) := Int.mul_nonneg (Int.natCast_nonneg i) (Int.natCast_nonneg i)
    have kk2 : (i : Int) * (i : Int) ≤ 1000 * 1000 := Int.mul_le_mul (by omega) (by omega) (Int.natCast_nonneg i) (by decide)
    walk_at "ws"
    obtain ⟨x, hx, mx⟩ := get_str (ns := nm) (i := n / ((i : Int) + 1) % 4) (by omega)
    refine w_ixL (sG.seq hS) hx ?_
    walk_at "ws"
    rename_i p2 H2 n2 s2 e2
    have d0 : 0 ≤ n / ((i : Int) * (i : Int) + 5) % 64 := by omega
    have d1 : n / ((i : Int) * (i : Int) + 5) % 64 < 64 := by omega
    generalize n / ((i : Int) * (i : Int) + 5) % 64 = z at *
    obtain ⟨zn, rfl⟩ := Int.eq_ofNat_of_zero_le d0
    refine ⟨rs ++ [.inn x zn], _, rfl, same_mut (sG.trans s2) n1, RowsM.push (s2 _ _ e) (hA.mono fun _ _ e => s2 _ _ e) (r := .inn x zn) e2, by rw [List.length_append, hl]; rfl, fun r hr => ?_⟩
    rcases List.mem_append.mp hr with k | k
    · exact hr' r k
    · rw [List.mem_singleton.mp k]
      exact ⟨x, zn, rfl, mx, by omega⟩
  · obtain ⟨rs, y, rfl, sG, hM, hl, hr'⟩ := q
    walk_at "ws"
    exact h rs o G hl hr' n1 sG hM
/-- a row with its wires turned -/
def turnR : Row → Row
  | .bin o a b => .bin o b a
  | r => r
def sp_law_turned (K : PySem.W.Frag) : Sp := fun vs H Q _ => ∃ (p : Addr) (r : Row), vs = [.ref p] ∧ RowAt H p r ∧ ∀ q H', Same H H' → RowAt H' q (turnR r) → Q (.ref q) H'
theorem ok_law_turned (T : Top K mg) : FnOk P w K mg base CX0 1 T.a_law_turned T.d_law_turned ["_law_row"] (sp_law_turned K) := by
  refine T.f_law_turned.ok sc_law_turned (fun vs H Q E h => ?_) (fun cdv A outer s H vs Q E hr h => ?_)
  · obtain ⟨p, r, rfl, _⟩ := h
    rfl
  obtain ⟨p, r, rfl, h⟩ := h
  refine ⟨_, (pss_cons (ps_if (pt_cmpR (op_inK K) (pe_ix (ix_tupK K) (pv 0) pe_int (fun _ _ => rfl)) (pe_lst (pa_cons pe_str (pa_cons pe_str (pa_cons pe_str pa_nil)))) (by rfl)) (pss_one (ps_ret (pe_tup (pa_cons (pe_ix (ix_tupK K) (pv 0) pe_int (fun _ _ => rfl)) (pa_cons (pe_ix (ix_tupK K) (pv 0) pe_int (fun _ _ => rfl)) (pa_cons (pe_ix (ix_tupK K) (pv 0) pe_int (fun _ _ => rfl)) pa_nil)))))) pss_nil)
      (pss_one (ps_ret (pv 0)))), ?_⟩
  try dsimp only [cxOf, Cx.nox, Cx.wish]
  simp only [L2.start, List.map_cons, List.map_nil, List.length_cons, List.length_nil, Nat.reduceAdd, Nat.reduceSub, List.replicate_succ, List.replicate_zero, List.cons_append, List.nil_append]
  obtain ⟨hp, h⟩ := h
  unfold RowAt at hp
  have hs : H p = some (.tup (rowV r)) := hp
  cases r with
  | bin o a b =>
    cases o <;> (walk_at "ws"; rename_i p1 H1 n1 s1 e1 p2 H2 n2 s2 e2; exact h p2 H2 (s1.trans s2) e2)
  | fix b => walk_at "ws"; rename_i p1 H1 n1 s1 e1; exact h p H1 s1 (s1 _ _ hs)
  | inn n k => walk_at "ws"; rename_i p1 H1 n1 s1 e1; exact h p H1 s1 (s1 _ _ hs)
  | inv a => walk_at "ws"; rename_i p1 H1 n1 s1 e1; exact h p H1 s1 (s1 _ _ hs)
  | lat a => walk_at "ws"; rename_i p1 H1 n1 s1 e1; exact h p H1 s1 (s1 _ _ hs)
theorem bop_at (i : Int) (h : 0 ≤ i ∧ i < 3) : ∃ o, atI [V.str "and", V.str "or", V.str "xor"] i = some (.str (bopS o)) := by
  rcases (show i = 0 ∨ i = 1 ∨ i = 2 by omega) with e | e | e <;> rw [e]
  · exact ⟨.and, rfl⟩
  · exact ⟨.or, rfl⟩
  · exact ⟨.xor, rfl⟩
def sp_law_gate (K : PySem.W.Frag) : Sp := fun vs H Q _ => ∃ n x y : Int, vs = [.int n, .int x, .int y] ∧ 0 ≤ x ∧ 0 ≤ y ∧
  ∀ r p H', (r = .inv x.toNat ∨ ∃ o, r = .bin o x.toNat y.toNat) → Same H H' → RowAt H' p r → Q (.ref p) H'
theorem ok_law_gate (T : Top K mg) : FnOk P w K mg base CX0 1 T.a_law_gate T.d_law_gate ["_law_number", "_law_one", "_law_two"] (sp_law_gate K) := by
  refine T.f_law_gate.ok sc_law_gate (fun vs H Q E h => ?_) (fun cdv A outer s H vs Q E hr h => ?_)
  · obtain ⟨n, x, y, rfl, _⟩ := h
    rfl
  obtain ⟨n, x, y, rfl, h⟩ := h
  refine ⟨_, (pss_cons (ps_if (pt_cmpR op_lt (pe_op op_mod (pv 0) pe_int) pe_int (nomark _)) (pss_one (ps_ret (pe_tup (pa_cons pe_str (pa_cons (pv 1) pa_nil))))) pss_nil)
      (pss_one (ps_ret (pe_tup (pa_cons (pe_ix (ix_listK K) (pe_lst (pa_cons pe_str (pa_cons pe_str (pa_cons pe_str pa_nil)))) (pe_op op_mod (pe_op op_mod (pv 0) pe_int) pe_int) (fun _ _ => rfl)) (pa_cons (pv 1) (pa_cons (pv 2) pa_nil))))))), ?_⟩
  try dsimp only [cxOf, Cx.nox, Cx.wish]
  simp only [L2.start, List.map_cons, List.map_nil, List.length_cons, List.length_nil, Nat.reduceAdd, Nat.reduceSub, List.replicate_succ, List.replicate_zero, List.cons_append, List.nil_append]
  obtain ⟨hx, hy, h⟩ := h
  obtain ⟨a, rfl⟩ := Int.eq_ofNat_of_zero_le hx
  obtain ⟨b, rfl⟩ := Int.eq_ofNat_of_zero_le hy
  walk_at "ws"
  · rename_i hlt p1 H1 n1 s1 e1
    exact h (.inv a) p1 H1 (.inl rfl) s1 e1
  · rename_i hlt p1 H1 n1 s1 e1
    obtain ⟨o, ho⟩ := bop_at (n % 9 % 3) (by omega)
    refine w_ixL (SqL.of e1) ho ?_
    walk_at "ws"
    rename_i p2 H2 n2 s2 e2
    exact h (.bin o a b) p2 H2 (.inr ⟨o, rfl⟩) (s1.trans s2) e2

theorem RowOk.le {N : Str → Prop} {i j : Nat} {r : Row} (h : RowOk N i r) (le : i ≤ j) : RowOk N j r := by
  cases r with
  | fix b => exact h
  | inn n k => exact h
  | inv a => exact Nat.lt_of_lt_of_le (show a < i from h) le
  | bin o a b => exact ⟨Nat.lt_of_lt_of_le h.1 le, Nat.lt_of_lt_of_le h.2 le⟩
  | lat a => exact Nat.lt_of_lt_of_le (show a < i from h) le
theorem RowOk.turn {N : Str → Prop} {i : Nat} {r : Row} (h : RowOk N i r) : RowOk N i (turnR r) := by
  cases r with
  | bin o a b => exact ⟨h.2, h.1⟩
  | _ => exact h
theorem noLat_turn {r : Row} (h : noLat r) : noLat (turnR r) := by
  cases r with
  | _ => exact h
theorem row_at {ps : List Addr} {i : Nat} (h : i < ps.length) : atI (ps.map V.ref) (i : Int) = some (.ref ps[i]) := atI_nat (by rw [List.getElem?_map, List.getElem?_eq_getElem h]; rfl)
def sp_law_rows (K : PySem.W.Frag) : Sp := fun vs H Q _ => ∃ (a c : Addr) (xs : List Int) (is : List Row) (near : Int) (late : Bool) (nm : List Str), vs = [.ref a, .ref c, .int near, .bl late] ∧ SqL K H a (xs.map V.int) ∧ (∀ x ∈ xs, Drawn x) ∧ xs.length ≤ 100 ∧
  RowsL K H c is ∧ (∀ r ∈ is, inRow nm r) ∧ (1 ≤ is.length ∧ is.length ≤ 1000) ∧ (near = 0 ∨ near = 1) ∧
  ∀ (rs : List Row) p H', rs.length = xs.length → RowsOk (· ∈ nm) rs → (late = false → NoLats rs) → H p = none → Same H H' → RowsM H' p rs → Q (.ref p) H'
theorem ok_law_rows (T : Top K mg) : FnOk P w K mg base CX0 2 T.a_law_rows T.d_law_rows ["_law_numbers_here", "_law_ins_here", "_law_near", "_law_late_here"] (sp_law_rows K) := by
  refine T.f_law_rows.ok sc_law_rows (fun vs H Q E h => ?_) (fun cdv A outer s H vs Q E hr h => ?_)
  · obtain ⟨a, c, xs, is, near, late, nm, rfl, _⟩ := h
    rfl
  obtain ⟨a, c, xs, is, near, late, nm, rfl, h⟩ := h
  refine ⟨_, (pss_cons (ps_set (i := 4) sc_law_rows.nd rfl (.inl rfl) (pe_lst pa_nil))
      (pss_cons (ps_for PassesOwn.never rfl (pi_list (pv 0)) (pg_name (i := 5) sc_law_rows.nd rfl (.inl rfl))
      (pss_cons (ps_set (i := 6) sc_law_rows.nd rfl (.inl rfl) (pe_callB (c_lenK K) (by rfl) T.z_len PySem.boot_len (pa_cons (pv 4) pa_nil)))
      (pss_cons (ps_set (i := 7) sc_law_rows.nd rfl (.inl rfl) (pe_op op_fdiv (pv 5) pe_int))
      (pss_one (ps_if (PW.pt (pw_or (pt_cmpR op_lt (pv 6) pe_int (nomark _)) (pw_or1 (pt_cmpR op_eq (pe_op op_mod (pv 5) pe_int) pe_int (nomark _))))) (pss_one (ps_expr (pe_bm PySem.F.plainAttrs_list PySem.F.slot_list_append PySem.F.type_list_append mt_append (pv 4) (pa_cons (pe_ix (ix_listK K) (pv 1) (pe_op op_mod (pv 7) (pe_callB (c_lenK K) (by rfl) T.z_len PySem.boot_len (pa_cons (pv 1) pa_nil))) (fun _ _ => rfl)) pa_nil)))) (pss_one (ps_if (PW.pt (pw_and (pt_cmpR op_eq (pe_op op_mod (pv 5) pe_int) pe_int (nomark _)) (pw_and1 (pt_cmpR op_gt (pe_op op_mod (pv 7) pe_int) pe_int (nomark _))))) (pss_one (ps_expr (pe_bm PySem.F.plainAttrs_list PySem.F.slot_list_append PySem.F.type_list_append mt_append (pv 4) (pa_cons (pe_tup (pa_cons pe_str (pa_cons (pe_op op_mod (pe_op op_fdiv (pv 7) pe_int) pe_int) pa_nil))) pa_nil)))) (pss_one (ps_if (PW.pt (pw_and (pt_cmpR op_eq (pe_op op_mod (pv 5) pe_int) pe_int (nomark _)) (pw_and1 (pt_val (pv 3))))) (pss_one (ps_expr (pe_bm PySem.F.plainAttrs_list PySem.F.slot_list_append PySem.F.type_list_append mt_append (pv 4) (pa_cons (pe_tup (pa_cons pe_str (pa_cons (pe_op op_mod (pe_op op_fdiv (pv 7) pe_int) (pv 6)) pa_nil))) pa_nil)))) (pss_one (ps_if (pt_cmpR op_eq (pe_op op_mod (pv 5) pe_int) pe_int (nomark _)) (pss_one (ps_expr (pe_bm PySem.F.plainAttrs_list PySem.F.slot_list_append PySem.F.type_list_append mt_append (pv 4) (pa_cons (pe_call (ok_law_turned T) (hr.mono (by decide)) (by rfl) T.g_law_turned T.f_law_turned.kp T.b_law_turned .nil pass0 (pa_cons (pe_ix (ix_listK K) (pv 4) (pe_op op_mod (pe_op op_fdiv (pv 7) pe_int) (pv 6)) (fun _ _ => rfl)) pa_nil)) pa_nil)))) (pss_cons (ps_set (i := 8) sc_law_rows.nd rfl (.inl rfl) (pe_ix (ix_listK K) (pe_lst (pa_cons (pv 6) (pa_cons (pe_callB (c_min2 rfl) (by rfl) T.z_min (by decide +kernel) (pa_cons (pv 6) (pa_cons pe_int pa_nil))) pa_nil))) (pv 2) (fun _ _ => rfl)))
      (pss_one (ps_expr (pe_bm PySem.F.plainAttrs_list PySem.F.slot_list_append PySem.F.type_list_append mt_append (pv 4) (pa_cons (pe_call (ok_law_gate T) (hr.mono (by decide)) (by rfl) T.g_law_gate T.f_law_gate.kp T.b_law_gate .nil pass0 (pa_cons (pv 5) (pa_cons (pe_op op_sub (pe_op op_sub (pv 6) pe_int) (pe_op op_mod (pe_op op_fdiv (pv 5) pe_int) (pv 8))) (pa_cons (pe_op op_sub (pe_op op_sub (pv 6) pe_int) (pe_op op_mod (pv 7) (pv 8))) pa_nil)))) pa_nil))))))))))))))))
      (pss_one (ps_ret (pv 4))))), ?_⟩
  try dsimp only [cxOf, Cx.nox, Cx.wish]
  simp only [L2.start, List.map_cons, List.map_nil, List.length_cons, List.length_nil, Nat.reduceAdd, Nat.reduceSub, List.replicate_succ, List.replicate_zero, List.cons_append, List.nil_append]
  obtain ⟨hS, hx, hxl, ⟨qs, hI, hIA⟩, hin, hil, hnear, h⟩ := h
  walk_at "ws"
  rename_i o H1 n1 s1 e1
  refine for_l (xs.map V.int) (fun i σ' G => ∃ (rs : List Row) (y5 y6 y7 y8 : Option V), σ' = [some (.ref a), some (.ref c), some (.int near), some (.bl late), some (.ref o), y5, y6, y7, y8] ∧ Same H G ∧ RowsM G o rs ∧ rs.length = i ∧ RowsOk (· ∈ nm) rs ∧ (late = false → NoLats rs))
    ⟨[], _, _, _, _, rfl, s1, ⟨[], e1, A2.nil⟩, rfl, fun i r hr => (by cases hr), fun _ r hr => (by cases hr)⟩ (fun i σ' G _ q => ?_) (fun i x σ' G hxi q => ?_) (fun σ' G q => ?_)
  · obtain ⟨rs, y5, y6, y7, y8, rfl, sG, _⟩ := q
    exact sG.seq hS
  · obtain ⟨rs, y5, y6, y7, y8, rfl, sG, ⟨ps, e, hA⟩, hl, hok, hnl⟩ := q
    obtain ⟨x, hx', rfl⟩ := get_map hxi
    have hi := (List.getElem?_eq_some_iff.mp hx').1
    have hd : Drawn x := hx x (List.mem_of_getElem? hx')
    unfold Drawn at hd
    have hpl := hA.1
    have hql := hIA.1
    have hpm : (ps.map V.ref).length = i := by rw [List.length_map]; omega
    have hqm : (qs.map V.ref).length = is.length := by rw [List.length_map]; omega
    have hput : ∀ (r : Row) (p : Addr) (G' : Hp), Same G G' → RowAt G' p r → RowOk (· ∈ nm) i r → (late = false → noLat r) → ∀ z5 z6 z7 z8 : Option V,
        ∃ (rs : List Row) (y5 y6 y7 y8 : Option V), [some (V.ref a), some (.ref c), some (.int near), some (.bl late), some (.ref o), z5, z6, z7, z8] = [some (.ref a), some (.ref c), some (.int near), some (.bl late), some (.ref o), y5, y6, y7, y8] ∧ Same H (upd G' o (.lst (ps.map V.ref ++ [.ref p]))) ∧ RowsM (upd G' o (.lst (ps.map V.ref ++ [.ref p]))) o rs ∧ rs.length = i + 1 ∧ RowsOk (· ∈ nm) rs ∧ (late = false → NoLats rs) := fun r p G' sm hp ho hn z5 z6 z7 z8 =>
      ⟨rs ++ [r], _, _, _, _, rfl, same_mut (sG.trans sm) n1, RowsM.push (sm _ _ e) (hA.mono fun _ _ e => sm _ _ e) hp, by rw [List.length_append, hl]; rfl, hok.snoc (by rw [hl]; exact ho), fun z => (hnl z).snoc (hn z)⟩
    have hfetch : ∀ z : Int, 0 ≤ z ∧ z < is.length → ∃ (q : Addr) (r : Row), atI (qs.map V.ref) z = some (.ref q) ∧ RowAt G q r ∧ inRow nm r := fun z hz => by
      obtain ⟨n, rfl⟩ := Int.eq_ofNat_of_zero_le hz.1
      have hn : n < qs.length := by omega
      obtain ⟨r, hr1, hr2⟩ := hIA.get (List.getElem?_eq_getElem hn)
      exact ⟨qs[n], r, row_at hn, sG _ _ hr2, hin r (List.mem_of_getElem? hr1)⟩
    have hinok : ∀ r, inRow nm r → RowOk (· ∈ nm) i r ∧ noLat r := fun r hr => by
      obtain ⟨x, k, rfl, h1, h2⟩ := hr
      exact ⟨⟨h1, h2⟩, True.intro⟩
    walk_at "ws"
    · obtain ⟨q, r, f1, f2, f3⟩ := hfetch (x / 576 % ((qs.map V.ref).length : Int)) (by rw [hqm]; exact ⟨Int.emod_nonneg _ (by omega), Int.emod_lt_of_pos _ (by omega)⟩)
      refine w_ixL (sG.seq hI) f1 ?_
      walk_at "ws"
      exact hput r q G (Same.refl _) f2 (hinok r f3).1 (fun _ => (hinok r f3).2) _ _ _ _
    · obtain ⟨q, r, f1, f2, f3⟩ := hfetch (x / 576 % ((qs.map V.ref).length : Int)) (by rw [hqm]; exact ⟨Int.emod_nonneg _ (by omega), Int.emod_lt_of_pos _ (by omega)⟩)
      refine w_ixL (sG.seq hI) f1 ?_
      walk_at "ws"
      exact hput r q G (Same.refl _) f2 (hinok r f3).1 (fun _ => (hinok r f3).2) _ _ _ _
    · rename_i p2 H2 n2 s2 e2
      exact hput (.fix (x / 576 / 3 % 2)) p2 H2 s2 e2 (by show _ ∨ _; omega) (fun _ => True.intro) _ _ _ _
    · rename_i hlate hx9 p2 H2 n2 s2 e2
      have w0 : 0 ≤ x / 576 / 3 % ((ps.map V.ref).length : Int) := Int.emod_nonneg _ (by omega)
      have w1 : x / 576 / 3 % ((ps.map V.ref).length : Int) < ((ps.map V.ref).length : Int) := Int.emod_lt_of_pos _ (by omega)
      generalize x / 576 / 3 % ((ps.map V.ref).length : Int) = z at *
      obtain ⟨zn, rfl⟩ := Int.eq_ofNat_of_zero_le w0
      refine hput (.lat zn) p2 H2 s2 e2 (show zn < i by omega) (fun z => ?_) _ _ _ _
      simp_all
    · have w0 : 0 ≤ x / 576 / 3 % ((ps.map V.ref).length : Int) := Int.emod_nonneg _ (by omega)
      have w1 : x / 576 / 3 % ((ps.map V.ref).length : Int) < ((ps.map V.ref).length : Int) := Int.emod_lt_of_pos _ (by omega)
      generalize x / 576 / 3 % ((ps.map V.ref).length : Int) = z at *
      obtain ⟨zn, rfl⟩ := Int.eq_ofNat_of_zero_le w0
      have hzn : zn < ps.length := by omega
      obtain ⟨r, hr1, hr2⟩ := hA.get (List.getElem?_eq_getElem hzn)
      refine w_ixL (SqL.of e) (row_at hzn) ?_
      walk_at "ws"
      refine ⟨_, r, rfl, hr2, fun q G2 s2 e2 => ?_⟩
      walk_at "ws"
      have hr3 := hok zn r hr1
      exact hput (turnR r) q G2 s2 e2 (hr3.le (by omega)).turn (fun z => noLat_turn (hnl z r (List.mem_of_getElem? hr1))) _ _ _ _
    · rename_i p2 H2 n2 s2 e2
      have hr0 : ∃ rc : Int, atI [V.int ((ps.map V.ref).length : Int), V.int (if 3 < ((ps.map V.ref).length : Int) then 3 else ((ps.map V.ref).length : Int))] near = some (.int rc) ∧ 1 ≤ rc ∧ rc ≤ i := by
        rcases hnear with rfl | rfl
        · exact ⟨_, rfl, by omega, by omega⟩
        · refine ⟨_, rfl, ?_, ?_⟩ <;> split <;> omega
      obtain ⟨rc, g1, g2, g3⟩ := hr0
      refine w_ixL (SqL.of e2) g1 ?_
      walk_at "ws"
      have m1 : 0 ≤ x / 9 % rc := Int.emod_nonneg _ (by omega)
      have m2 : x / 9 % rc < rc := Int.emod_lt_of_pos _ (by omega)
      have m3 : 0 ≤ x / 576 % rc := Int.emod_nonneg _ (by omega)
      have m4 : x / 576 % rc < rc := Int.emod_lt_of_pos _ (by omega)
      refine ⟨_, _, _, rfl, by omega, by omega, fun r q G2 hr3 s3 e3 => ?_⟩
      walk_at "ws"
      refine hput r q G2 (s2.trans s3) e3 ?_ (fun _ => ?_) _ _ _ _
      · rcases hr3 with rfl | ⟨o', rfl⟩
        · show (_ : Nat) < _
          omega
        · exact ⟨by omega, by omega⟩
      · rcases hr3 with rfl | ⟨o', rfl⟩ <;> exact True.intro
  · obtain ⟨rs, y5, y6, y7, y8, rfl, sG, hM, hl, hok, hnl⟩ := q
    walk_at "ws"
    exact h rs o G (by rw [hl, List.length_map]) hok hnl n1 sG hM

def sp_Sheet__init (K : PySem.W.Frag) : Sp := fun vs H Q _ => ∃ (s C dx : Addr), vs = [.ref s] ∧ H s = some (.ins C dx []) ∧ IsC K "Sheet" C ∧ ∀ (r : Addr) (H1 : Hp), H r = none → Same H H1 → H1 r = some (.lst []) → Q .non (upd H1 s (.ins C dx [("rows", .ref r)]))
theorem ok_Sheet__init (T : Top K mg) : FnOk P w K mg base CX0 1 T.a_Sheet__init T.d_Sheet__init ["self"] (sp_Sheet__init K) := by
  refine T.f_Sheet__init.ok sc_Sheet__init (fun vs H Q E h => ?_) (fun cdv A outer s H vs Q E hr h => ?_)
  · obtain ⟨s, C, dx, rfl, _⟩ := h
    rfl
  obtain ⟨s, C, dx, rfl, h⟩ := h
  refine ⟨_, (pss_one (ps_fld (pv 0) (pe_lst pa_nil) rfl)), ?_⟩
  try dsimp only [cxOf, Cx.nox, Cx.wish]
  simp only [L2.start, List.map_cons, List.map_nil, List.length_cons, List.length_nil, Nat.reduceAdd, Nat.reduceSub, List.replicate_succ, List.replicate_zero, List.cons_append, List.nil_append]
  obtain ⟨hs, hC, h⟩ := h
  obtain rfl := hC.one T.nc_Sheet
  have c1 := T.cl_Sheet
  have c2 := T.n_Sheet_rows
  walk_at "ws"
  rename_i r H1 n1 s1 e1
  exact h r H1 n1 s1 e1
def sp_Sheet_add (K : PySem.W.Frag) : Sp := fun vs H Q _ => ∃ (s r : Addr) (xs : List V) (y : V), vs = [.ref s, y] ∧ SheetAt K H s r ∧ H r = some (.lst xs) ∧ xs.length ≤ 1000000 ∧ Q (.int (xs.length : Int)) (upd H r (.lst (xs ++ [y])))
theorem ok_Sheet_add (T : Top K mg) : FnOk P w K mg base CX0 1 T.a_Sheet_add T.d_Sheet_add ["self", "row"] (sp_Sheet_add K) := by
  refine T.f_Sheet_add.ok sc_Sheet_add (fun vs H Q E h => ?_) (fun cdv A outer s H vs Q E hr h => ?_)
  · obtain ⟨s, r, xs, y, rfl, _⟩ := h
    rfl
  obtain ⟨s, r, xs, y, rfl, h⟩ := h
  refine ⟨_, (pss_cons (ps_expr (pe_bm PySem.F.plainAttrs_list PySem.F.slot_list_append PySem.F.type_list_append mt_append (pe_fld (pv 0) rfl) (pa_cons (pv 1) pa_nil)))
      (pss_one (ps_ret (pe_op op_sub (pe_callB (c_lenK K) (by rfl) T.z_len PySem.boot_len (pa_cons (pe_fld (pv 0) rfl) pa_nil)) pe_int)))), ?_⟩
  try dsimp only [cxOf, Cx.nox, Cx.wish]
  simp only [L2.start, List.map_cons, List.map_nil, List.length_cons, List.length_nil, Nat.reduceAdd, Nat.reduceSub, List.replicate_succ, List.replicate_zero, List.cons_append, List.nil_append]
  obtain ⟨⟨C, dx, hs, hC⟩, hr, hl, h⟩ := h
  obtain rfl := hC.one T.nc_Sheet
  have c1 := T.cl_Sheet
  have c2 := T.n_Sheet_rows
  have ne : s ≠ r := fun z => by
    rw [z, hr] at hs
    cases hs
  walk_at "ws"
  have e : (((xs ++ [y]).length : Nat) : Int) - 1 = (xs.length : Int) := by
    rw [List.length_append, List.length_singleton]
    omega
  rw [e]
  exact h
def sp_Sheet_rows_now (K : PySem.W.Frag) : Sp := fun vs H Q _ => ∃ (s r : Addr) (xs : List V), vs = [.ref s] ∧ SheetAt K H s r ∧ H r = some (.lst xs) ∧ xs.length ≤ 1000000 ∧ ∀ p H', H p = none → Same H H' → H' p = some (.lst xs) → Q (.ref p) H'
theorem ok_Sheet_rows_now (T : Top K mg) : FnOk P w K mg base CX0 1 T.a_Sheet_rows_now T.d_Sheet_rows_now ["self"] (sp_Sheet_rows_now K) := by
  refine T.f_Sheet_rows_now.ok sc_Sheet_rows_now (fun vs H Q E h => ?_) (fun cdv A outer s H vs Q E hr h => ?_)
  · obtain ⟨s, r, xs, rfl, _⟩ := h
    rfl
  obtain ⟨s, r, xs, rfl, h⟩ := h
  refine ⟨_, (pss_one (ps_ret (pe_callTy (c_listK K) (by rfl) T.z_list (by decide +kernel) (pa_cons (pe_fld (pv 0) rfl) pa_nil)))), ?_⟩
  try dsimp only [cxOf, Cx.nox, Cx.wish]
  simp only [L2.start, List.map_cons, List.map_nil, List.length_cons, List.length_nil, Nat.reduceAdd, Nat.reduceSub, List.replicate_succ, List.replicate_zero, List.cons_append, List.nil_append]
  obtain ⟨⟨C, dx, hs, hC⟩, hr, hl, h⟩ := h
  obtain rfl := hC.one T.nc_Sheet
  have c1 := T.cl_Sheet
  have c2 := T.n_Sheet_rows
  walk_at "ws"
  rename_i p H1 n1 s1 e1
  exact h p H1 n1 s1 e1

theorem tot_and {x y : Int} (hx : is01 x) (hy : is01 y) : (x + y) / 2 = bopI .and x y := by
  rcases hx with rfl | rfl <;> rcases hy with rfl | rfl <;> decide
theorem tot_or {x y : Int} (hx : is01 x) (hy : is01 y) : (if 1 < x + y then 1 else x + y) = bopI .or x y := by
  rcases hx with rfl | rfl <;> rcases hy with rfl | rfl <;> decide
def sp_law_bit (K : PySem.W.Frag) : Sp := fun vs H Q _ => ∃ (p b d : Addr) (r : Row) (bs : List Int) (ws : List (Str × Int)) (N : Str → Prop), vs = [.ref p, .ref b, .ref d] ∧ RowAt H p r ∧ SqL K H b (bs.map V.int) ∧ H d = some (.dK (wkv ws)) ∧
  RowOk N bs.length r ∧ noLat r ∧ Has N ws ∧ All01 bs ∧ Q (.int (gateI ws bs r)) H
theorem ok_law_bit (T : Top K mg) : FnOk P w K mg base CX0 1 T.a_law_bit T.d_law_bit ["_law_row", "_law_bits_here", "_law_words"] (sp_law_bit K) := by
  refine T.f_law_bit.ok sc_law_bit (fun vs H Q E h => ?_) (fun cdv A outer s H vs Q E hr h => ?_)
  · obtain ⟨p, b, d, r, bs, ws, N, rfl, _⟩ := h
    rfl
  obtain ⟨p, b, d, r, bs, ws, N, rfl, h⟩ := h
  refine ⟨_, (pss_cons (ps_if (pt_cmpR op_eq (pe_ix (ix_tupK K) (pv 0) pe_int (fun _ _ => rfl)) pe_str (nomark _)) (pss_one (ps_ret (pe_ix (ix_tupK K) (pv 0) pe_int (fun _ _ => rfl)))) pss_nil)
      (pss_cons (ps_if (pt_cmpR op_eq (pe_ix (ix_tupK K) (pv 0) pe_int (fun _ _ => rfl)) pe_str (nomark _)) (pss_one (ps_ret (pe_op op_mod (pe_op op_divP (pe_dget (hu_of hr) (pv 2) (pe_ix (ix_tupK K) (pv 0) pe_int (fun _ _ => rfl)) (fun _ _ => rfl)) (pe_op op_shlK pe_int (pe_ix (ix_tupK K) (pv 0) pe_int (fun _ _ => rfl)))) pe_int))) pss_nil)
      (pss_cons (ps_if (pt_cmpR op_eq (pe_ix (ix_tupK K) (pv 0) pe_int (fun _ _ => rfl)) pe_str (nomark _)) (pss_one (ps_ret (pe_op op_sub pe_int (pe_ix (ix_listK K) (pv 1) (pe_ix (ix_tupK K) (pv 0) pe_int (fun _ _ => rfl)) (fun _ _ => rfl))))) pss_nil)
      (pss_cons (ps_set (i := 3) sc_law_bit.nd rfl (.inl rfl) (pe_op op_add (pe_ix (ix_listK K) (pv 1) (pe_ix (ix_tupK K) (pv 0) pe_int (fun _ _ => rfl)) (fun _ _ => rfl)) (pe_ix (ix_listK K) (pv 1) (pe_ix (ix_tupK K) (pv 0) pe_int (fun _ _ => rfl)) (fun _ _ => rfl))))
      (pss_cons (ps_if (pt_cmpR op_eq (pe_ix (ix_tupK K) (pv 0) pe_int (fun _ _ => rfl)) pe_str (nomark _)) (pss_one (ps_ret (pe_op op_fdiv (pv 3) pe_int))) pss_nil)
      (pss_cons (ps_if (pt_cmpR op_eq (pe_ix (ix_tupK K) (pv 0) pe_int (fun _ _ => rfl)) pe_str (nomark _)) (pss_one (ps_ret (pe_callB (c_min2 rfl) (by rfl) T.z_min (by decide +kernel) (pa_cons (pv 3) (pa_cons pe_int pa_nil))))) pss_nil)
      (pss_one (ps_ret (pe_op op_mod (pv 3) pe_int))))))))), ?_⟩
  try dsimp only [cxOf, Cx.nox, Cx.wish]
  simp only [L2.start, List.map_cons, List.map_nil, List.length_cons, List.length_nil, Nat.reduceAdd, Nat.reduceSub, List.replicate_succ, List.replicate_zero, List.cons_append, List.nil_append]
  obtain ⟨hp, hb, hd, ok, nl, has, h01, h⟩ := h
  unfold RowAt at hp
  cases r with
  | fix x =>
    walk_at "ws"
    exact h
  | inn n k =>
    obtain ⟨v, hv⟩ := has n ok.1
    have hk : k < 64 := ok.2
    have hv2 : valV (wkv ws) (Sum.inr n) = some (.int v) := by rw [valV_wkv, hv]; rfl
    have e : gateI ws bs (.inn n k) = v / 2 ^ k % 2 := by
      show (lookW ws n).getD 0 / 2 ^ k % 2 = v / 2 ^ k % 2
      rw [hv]
      rfl
    rw [e] at h
    walk_at "ws"
    exact h
  | inv a =>
    walk_at "ws"
    refine w_ixL hb (bit_get ok) ?_
    walk_at "ws"
    exact h
  | bin o x y =>
    have e1 := bit_get ok.1
    have e2 := bit_get ok.2
    have h1 := all01_get h01 x
    have h2 := all01_get h01 y
    cases o with
    | and =>
      walk_at "ws"
      refine w_ixL hb e1 ?_
      walk_at "ws"
      refine w_ixL hb e2 ?_
      walk_at "ws"
      rw [tot_and h1 h2]
      exact h
    | or =>
      walk_at "ws"
      refine w_ixL hb e1 ?_
      walk_at "ws"
      refine w_ixL hb e2 ?_
      walk_at "ws"
      have e := tot_or h1 h2
      rw [e]
      exact h
    | xor =>
      walk_at "ws"
      refine w_ixL hb e1 ?_
      walk_at "ws"
      refine w_ixL hb e2 ?_
      walk_at "ws"
      exact h
  | lat a => exact nl.elim

def sp_law_bits (K : PySem.W.Frag) : Sp := fun vs H Q _ => ∃ (a d : Addr) (rs : List Row) (ws : List (Str × Int)) (N : Str → Prop), vs = [.ref a, .ref d] ∧ RowsL K H a rs ∧ H d = some (.dK (wkv ws)) ∧
  RowsOk N rs ∧ NoLats rs ∧ Has N ws ∧ rs.length ≤ 60000 ∧ ∀ p H', H p = none → Same H H' → H' p = some (.lst ((toldL ws rs).map V.int)) → Q (.ref p) H'
theorem ok_law_bits (T : Top K mg) : FnOk P w K mg base CX0 2 T.a_law_bits T.d_law_bits ["_law_rows_here", "_law_words"] (sp_law_bits K) := by
  refine T.f_law_bits.ok sc_law_bits (fun vs H Q E h => ?_) (fun cdv A outer s H vs Q E hr h => ?_)
  · obtain ⟨a, d, rs, ws, N, rfl, _⟩ := h
    rfl
  obtain ⟨a, d, rs, ws, N, rfl, h⟩ := h
  refine ⟨_, (pss_cons (ps_set (i := 2) sc_law_bits.nd rfl (.inl rfl) (pe_lst pa_nil))
      (pss_cons (ps_for PassesOwn.never rfl (pi_list (pv 0)) (pg_name (i := 3) sc_law_bits.nd rfl (.inl rfl))
      (pss_one (ps_expr (pe_bm PySem.F.plainAttrs_list PySem.F.slot_list_append PySem.F.type_list_append mt_append (pv 2) (pa_cons (pe_call (ok_law_bit T) (hr.mono (by decide)) (by rfl) T.g_law_bit T.f_law_bit.kp T.b_law_bit .nil pass0 (pa_cons (pv 3) (pa_cons (pv 2) (pa_cons (pv 1) pa_nil)))) pa_nil)))))
      (pss_one (ps_ret (pv 2))))), ?_⟩
  try dsimp only [cxOf, Cx.nox, Cx.wish]
  simp only [L2.start, List.map_cons, List.map_nil, List.length_cons, List.length_nil, Nat.reduceAdd, Nat.reduceSub, List.replicate_succ, List.replicate_zero, List.cons_append, List.nil_append]
  obtain ⟨⟨ps, hS, hA⟩, hd, ok, nl, has, hlen, h⟩ := h
  walk_at "ws"
  rename_i o H1 n1 s1 e1
  refine for_l (ps.map V.ref) (fun i σ' H' => ∃ y, σ' = [some (.ref a), some (.ref d), some (.ref o), y] ∧ Same H H' ∧ H' o = some (.lst ((toldL ws (rs.take i)).map V.int))) ⟨_, rfl, s1, e1⟩ (fun i σ' H' _ q => ?_) (fun i x σ' H' hx q => ?_) (fun σ' H' q => ?_)
  · obtain ⟨y, rfl, sm, e⟩ := q
    exact sm.seq hS
  · obtain ⟨y, rfl, sm, e⟩ := q
    obtain ⟨p, hp, rfl⟩ := get_map hx
    obtain ⟨r, hr', hpr⟩ := hA.get hp
    have hi := (List.getElem?_eq_some_iff.mp hr').1
    have hl : (toldL ws (rs.take i)).length = i := by rw [toldL_len, List.length_take]; omega
    walk_at "ws"
    refine ⟨p, o, d, r, _, ws, N, rfl, sm _ _ hpr, SqL.of e, sm _ _ hd, (by rw [hl]; exact ok i r hr'), nl r (List.mem_of_getElem? hr'), has, toldL_01 ws ok i, ?_⟩
    walk_at "ws"
    refine ⟨_, rfl, same_mut sm n1, ?_⟩
    rw [upd_same, take_snoc hr', toldL_snoc, List.map_append]
    rfl
  · obtain ⟨y, rfl, sm, e⟩ := q
    rw [List.length_map, hA.1, List.take_of_length_le (Nat.le_refl _)] at e
    walk_at "ws"
    exact h o H' n1 sm e

theorem bl_set (fs : List Bool) (w : Nat) : (fs.map V.bl).set w (.bl true) = (fs.set w true).map V.bl := by rw [List.map_set]
theorem bl_at {fs : List Bool} {w : Nat} (h : w < fs.length) : atI (fs.map V.bl) (w : Int) = some (.bl fs[w]) := atI_nat (by rw [List.getElem?_map, List.getElem?_eq_getElem h]; rfl)
def sp_needed (K : PySem.W.Frag) : Sp := fun vs H Q _ => ∃ (a b : Addr) (rs : List Row) (os : List Nat) (N : Str → Prop), vs = [.ref a, .ref b] ∧ RowsL K H a rs ∧ SqL K H b ((natI os).map V.int) ∧ RowsOk N rs ∧ rs.length ≤ 60000 ∧ (∀ o ∈ os, o < rs.length) ∧
  ∀ (fs : List Bool) p H', NeedI rs os rs.length rs.length fs → H p = none → Same H H' → H' p = some (.lst (fs.map V.bl)) → Q (.ref p) H'
theorem ok_needed (T : Top K mg) : FnOk P w K mg base CX0 2 T.a_needed T.d_needed ["rows", "outs"] (sp_needed K) := by
  refine T.f_needed.ok sc_needed (fun vs H Q E h => ?_) (fun cdv A outer s H vs Q E hr h => ?_)
  · obtain ⟨a, b, rs, os, N, rfl, _⟩ := h
    rfl
  obtain ⟨a, b, rs, os, N, rfl, h⟩ := h
  refine ⟨_, (pss_cons (ps_setLc (i := 2) (own := [("row", 5)]) (g := gName 5) (tt := tYes) (by rfl) sc_needed.nd rfl rfl (sw_true rfl rfl rfl (by decide +kernel)) (pi_list (pv 0)) (blkOk_by (N := ["rows", "outs", "found", "wire", "ahead", "row"]) (sc := defScope s_needed) (by decide +kernel)) (fun _ _ _ _ _ => (pg_name (i := 5) sc_needed.nd rfl (.inl rfl))) (fun _ _ _ _ _ => pts_nil) (fun _ _ _ _ _ => pe_bl))
      (pss_cons (ps_for PassesOwn.never rfl (pi_list (pv 1)) (pg_name (i := 3) sc_needed.nd rfl (.inl rfl))
      (pss_one (ps_asg pe_bl (pg_sub (pv 2) (pv 3) set_list))))
      (pss_cons (ps_for PassesOwn.never rfl (pi_revR (by rfl) T.z_reversed (prg_1 (by rfl) T.z_range (pe_callB (c_lenK K) (by rfl) T.z_len PySem.boot_len (pa_cons (pv 0) pa_nil)))) (pg_name (i := 3) sc_needed.nd rfl (.inl rfl))
      (pss_one (ps_if (pt_val (pe_ix (ix_listK K) (pv 2) (pv 3) (fun _ _ => rfl))) (pss_one (ps_for PassesOwn.never rfl (pi_list (pe_call (ok_own_wires T) (hr.mono (by decide)) (by rfl) T.g_own_wires T.f_own_wires.kp T.b_own_wires .nil pass0 (pa_cons (pe_ix (ix_listK K) (pv 0) (pv 3) (fun _ _ => rfl)) pa_nil))) (pg_name (i := 4) sc_needed.nd rfl (.inl rfl))
      (pss_one (ps_asg pe_bl (pg_sub (pv 2) (pv 4) set_list))))) pss_nil)))
      (pss_one (ps_ret (pv 2)))))), ?_⟩
  try dsimp only [cxOf, Cx.nox, Cx.wish]
  simp only [L2.start, List.map_cons, List.map_nil, List.length_cons, List.length_nil, Nat.reduceAdd, Nat.reduceSub, List.replicate_succ, List.replicate_zero, List.cons_append, List.nil_append]
  obtain ⟨⟨ps, hS, hA⟩, hO, ok, hlen, ho, h⟩ := h
  have hpl : ps.length = rs.length := hA.1
  have hpm : (ps.map V.ref).length = rs.length := by rw [List.length_map, hpl]
  walk_at "ws"
  refine lc_l (ps.map V.ref) ((List.replicate rs.length false).map V.bl) (by rw [hpm, List.length_map, List.length_replicate]) hS (by omega) (fun x => rfl) (fun i x y G' Q' hx hy s1 k => ?_) (fun p H1 n1 s1 e1 => ?_)
  · rw [List.getElem?_map, List.getElem?_replicate] at hy
    split at hy
    · cases hy
      walk_at "ws"
      exact k
    · cases hy
  walk_at "ws"
  refine for_l ((natI os).map V.int) (fun i σ' G => ∃ y3, σ' = [some (.ref a), some (.ref b), some (.ref p), y3, none, none] ∧ Same H G ∧ G p = some (.lst ((markL (List.replicate rs.length false) (os.take i)).map V.bl))) ⟨_, rfl, s1, e1⟩ (fun i σ' G _ q => ?_) (fun i x σ' G hx q => ?_) (fun σ' G q => ?_)
  · obtain ⟨y3, rfl, sm, e⟩ := q
    exact sm.seq hO
  · obtain ⟨y3, rfl, sm, e⟩ := q
    obtain ⟨z, hz, rfl⟩ := get_map hx
    obtain ⟨u, hu, rfl⟩ := natI_get hz
    have hul := ho u (List.mem_of_getElem? hu)
    walk_at "ws"
    refine w_setL e (by rw [List.length_map, mark_len, List.length_replicate]; exact hul) ?_
    refine ⟨_, rfl, same_mut sm n1, ?_⟩
    rw [upd_same, bl_set, take_snoc hu, mark_snoc]
  · obtain ⟨y3, rfl, sm, e⟩ := q
    rw [List.length_map, natI_len, List.take_of_length_le (Nat.le_refl _)] at e
    have need0 := NeedI.start (rs := rs) (outs := os) rs.length rfl
    generalize markL (List.replicate rs.length false) os = fs0 at *
    walk_at "ws"
    have en : ((((ps.map V.ref).length : Nat) : Int) - 0).toNat = rs.length := by rw [hpm]; omega
    rw [en]
    refine for_rc (fun i σ' G => ∃ fs y3 y4, σ' = [some (.ref a), some (.ref b), some (.ref p), y3, y4, none] ∧ Same H G ∧ G p = some (.lst (fs.map V.bl)) ∧ NeedI rs os rs.length i fs) ⟨fs0, _, _, rfl, sm, e, need0⟩ (fun i σ' G hi q => ?_) (fun σ' G q => ?_)
    · obtain ⟨fs, y3, y4, rfl, sm, e, nd⟩ := q
      have ew : (0 : Int) + ((rs.length : Nat) : Int) - 1 + (i : Nat) * (-1) = ((rs.length - (i + 1) : Nat) : Int) := by omega
      rw [ew]
      have hw : rs.length - (i + 1) < rs.length := by omega
      have hwf : rs.length - (i + 1) < fs.length := by rw [nd.1]; exact hw
      have hr := List.getElem?_eq_getElem hw
      have hf := List.getElem?_eq_getElem hwf
      have hbl := bl_at hwf
      generalize rs[rs.length - (i + 1)] = r at hr
      obtain ⟨pr, hpr, hrow⟩ := hA.get2 hr
      generalize hwd : rs.length - (i + 1) = w at *
      walk_at "ws"
      refine w_ixL (SqL.of e) hbl ?_
      generalize fs[w] = bb at *
      cases bb with
      | false =>
        walk_at "ws"
        exact ⟨fs, _, _, rfl, sm, e, nd.skip (by rw [hwd, hf]; intro z; cases z) hi⟩
      | true =>
        walk_at "ws"
        refine w_ixL (sm.seq hS) (ref_at hpr) ?_
        walk_at "ws"
        refine ⟨pr, r, rfl, sm _ _ hrow, fun q G1 nq sq eq => ?_⟩
        walk_at "ws"
        have qp : q ≠ p := fun z => by rw [z, e] at nq; cases nq
        have lt := own_lt (ok w r hr)
        refine for_l ((natI (ownR r)).map V.int) (fun j σ2 G2 => ∃ y4, σ2 = [some (.ref a), some (.ref b), some (.ref p), some (.int (w : Int)), y4, none] ∧ Fr [p] G1 G2 ∧ G2 p = some (.lst ((markL fs ((ownR r).take j)).map V.bl))) ⟨_, rfl, Fr.refl, sq _ _ e⟩ (fun j σ2 G2 _ k => ?_) (fun j x σ2 G2 hx2 k => ?_) (fun σ2 G2 k => ?_)
        · obtain ⟨z4, rfl, f2, e2⟩ := k
          exact SqL.of (f2 _ _ eq (by simpa using qp))
        · obtain ⟨z4, rfl, f2, e2⟩ := k
          obtain ⟨z, hz, rfl⟩ := get_map hx2
          obtain ⟨u, hu, rfl⟩ := natI_get hz
          have hul := lt u (List.mem_of_getElem? hu)
          walk_at "ws"
          refine w_setL e2 (by rw [List.length_map, mark_len, nd.1]; omega) ?_
          refine ⟨_, rfl, f2.trans (Fr.put (List.mem_cons_self ..)), ?_⟩
          rw [upd_same, bl_set, take_snoc hu, mark_snoc]
        · obtain ⟨z4, rfl, f2, e2⟩ := k
          rw [List.length_map, natI_len, List.take_of_length_le (Nat.le_refl _)] at e2
          walk_at "ws"
          refine ⟨_, _, _, rfl, f2.same (sm.trans sq) (fun m hm => by rw [List.mem_singleton.mp hm]; exact n1), e2, ?_⟩
          subst hwd
          exact nd.mark ok hf hi hr
    · obtain ⟨fs, y3, y4, rfl, sm, e, nd⟩ := q
      walk_at "ws"
      exact h fs p G nd n1 sm e

/-! outs drawn -/
theorem small_bits {j : Int} (h : 0 ≤ j ∧ j ≤ 1000) : Builtin.Int.intBits j ≤ 1048576 := by
  refine Nat.le_trans ((ib_le h.1 10).mpr ?_) (by decide)
  have : (2 : Int) ^ 10 = 1024 := by decide
  omega
theorem add_bits {c j : Int} (hc : Builtin.Int.intBits c ≤ 1048576) (h : 0 ≤ j ∧ j ≤ 1000) : Builtin.Int.intBits (c + j) ≤ 1048577 := bits_add hc (small_bits h)
theorem rg_nat {n : Nat} : rgV 0 (n : Int) = (natI (List.range n)).map V.int := by
  unfold rgV natI
  rw [show ((n : Int) - 0).toNat = n by omega, List.map_map]
  refine List.map_congr_left fun i _ => ?_
  show V.int (0 + (i : Nat)) = V.int (i : Int)
  rw [Int.zero_add]
def LsB (Q : VK) (a b : Int) (H1 : Hp) : Prop := RgOk a b ∧ ∀ q, H1 q = none → Q (.ref q) (upd H1 q (.lst (rgV a b)))
theorem w_lrg {te : L2.St → Hp → (Int → Int → Hp → Prop) → Prop} {σ : L2.St} {H : Hp} {Q : VK} (h : te σ H (LsB Q)) : tLstRg te σ H Q := h
theorem w_LsB {Q : VK} {n : Nat} {H : Hp} (hn : n ≤ 1000000) (q : ∀ p H', H p = none → Same H H' → H' p = some (.lst ((natI (List.range n)).map V.int)) → Q (.ref p) H') : LsB Q 0 (n : Int) H :=
  ⟨RgOk.of_le (by decide) (by omega) (by decide) (by omega), fun p hp => by rw [rg_nat]; exact q p _ hp (same_upd hp) upd_same⟩
local macro_rules | `(tactic| walk_at "w1") => `(tactic| first
  | with_reducible refine w_lrg ?_
  | ((with_reducible refine w_LsB ?_ ?_); omega; intro _ _ _ _ _))
def sp_law_outs (K : PySem.W.Frag) : Sp := fun vs H Q _ => ∃ (a : Addr) (xs : List V) (c : Int), vs = [.ref a, .int c] ∧ SqL K H a xs ∧ xs.length ≤ 1000 ∧ Builtin.Int.intBits c ≤ 1048576 ∧
  ∀ (os : List Nat) p H', (∀ o ∈ os, o < xs.length) → os.length ≤ 100 + xs.length → H p = none → Same H H' → H' p = some (.lst ((natI os).map V.int)) → Q (.ref p) H'
theorem ok_law_outs (T : Top K mg) : FnOk P w K mg base CX0 2 T.a_law_outs T.d_law_outs ["_law_rows_here", "_law_cell"] (sp_law_outs K) := by
  refine T.f_law_outs.ok sc_law_outs (fun vs H Q E h => ?_) (fun cdv A outer s H vs Q E hr h => ?_)
  · obtain ⟨a, xs, c, rfl, _⟩ := h
    rfl
  obtain ⟨a, xs, c, rfl, h⟩ := h
  refine ⟨_, (pss_cons (ps_if (pt_cmpR op_eq (pe_callB (c_lenK K) (by rfl) T.z_len PySem.boot_len (pa_cons (pv 0) pa_nil)) pe_int (nomark _)) (pss_one (ps_ret (pe_lst pa_nil))) pss_nil)
      (pss_cons (ps_setLc (i := 2) (own := [("_law_k", 3)]) (g := gName 3) (tt := tYes) (by rfl) sc_law_outs.nd rfl rfl (sw_true rfl rfl rfl (by decide +kernel)) (pi_range1 (by rfl) T.z_range (pa_cons (pe_op op_mod (pv 1) pe_int) pa_nil)) (blkOk_by (N := ["_law_rows_here", "_law_cell", "_law_outs_here", "_law_k"]) (sc := defScope s_law_outs) (by decide +kernel)) (fun _ _ _ _ _ => (pg_name (i := 3) sc_law_outs.nd rfl (.inl rfl))) (fun _ _ _ _ _ => pts_nil) (fun _ _ _ _ _ => (pe_op op_mod (pe_call (ok_law_mixed T) (hr.mono (by decide)) (by rfl) T.g_law_mixed T.f_law_mixed.kp T.b_law_mixed .nil pass0 (pa_cons (pe_op op_add (pv 1) (pv 3)) (pa_cons (pe_op op_add (pv 3) pe_int) pa_nil))) (pe_callB (c_lenK K) (by rfl) T.z_len PySem.boot_len (pa_cons (pv 0) pa_nil)))))
      (Evl.pss_cut (ps_if (pt_cmpR op_eq (pe_op op_mod (pe_op op_fdiv (pv 1) pe_int) pe_int) pe_int (nomark _)) (pss_one (ps_expr (pe_bm PySem.F.plainAttrs_list PySem.F.slot_list_append PySem.F.type_list_append mt_append (pv 2) (pa_cons (pe_op op_sub (pe_callB (c_lenK K) (by rfl) T.z_len PySem.boot_len (pa_cons (pv 0) pa_nil)) pe_int) pa_nil)))) pss_nil)
      (Evl.pss_cut (ps_if (pt_cmpR op_eq (pe_op op_mod (pe_op op_fdiv (pv 1) pe_int) pe_int) pe_int (nomark _)) (pss_one (ps_set (i := 2) sc_law_outs.nd rfl (.inl rfl) (pe_op op_cat (pv 2) (pe_slice sl_list (pv 2) po_none (po_some pe_int))))) pss_nil)
      (pss_cons (ps_if (pt_cmpR op_eq (pe_op op_mod (pe_op op_fdiv (pv 1) pe_int) pe_int) pe_int (nomark _)) (pss_one (ps_set (i := 2) sc_law_outs.nd rfl (.inl rfl) (pe_listRg rfl (by rfl) T.z_list (prg_1 (by rfl) T.z_range (pe_callB (c_lenK K) (by rfl) T.z_len PySem.boot_len (pa_cons (pv 0) pa_nil)))))) pss_nil)
      (pss_one (ps_ret (pv 2)))))))), ?_⟩
  try dsimp only [cxOf, Cx.nox, Cx.wish]
  simp only [L2.start, List.map_cons, List.map_nil, List.length_cons, List.length_nil, Nat.reduceAdd, Nat.reduceSub, List.replicate_succ, List.replicate_zero, List.cons_append, List.nil_append]
  obtain ⟨hS, hl, hc, h⟩ := h
  walk_at "ws"
  · exact h [] _ _ (fun o z => by cases z) (Nat.zero_le _) (by assumption) (by assumption) (by assumption)
  have hpos : 0 < xs.length := by omega
  refine lc_rx (lo := 0) (fun y => ∃ z : Nat, y = .int (z : Int) ∧ z < xs.length) (by omega) (fun x => rfl) (fun i H' Q' hi s1 q => ?_) (fun ys p H1 hyl hP n1 s1 e1 => ?_)
  · rw [Int.zero_add]
    have hci := add_bits hc (j := (i : Int)) (by omega)
    walk_at "ws"
    rename_i v v0 v1
    have m0 : 0 ≤ v % (xs.length : Int) := Int.emod_nonneg _ (by omega)
    have m1 : v % (xs.length : Int) < (xs.length : Int) := Int.emod_lt_of_pos _ (by omega)
    obtain ⟨z, hz⟩ := Int.eq_ofNat_of_zero_le m0
    rw [hz]
    exact q _ ⟨z, rfl, by omega⟩
  obtain ⟨os, rfl, ho⟩ := all_map (f := fun (z : Nat) => V.int (z : Int)) (R := fun z => z < xs.length) hP
  rw [List.length_map] at hyl
  rw [← natI_map] at e1
  have hl5 : os.length ≤ 5 := by omega
  have hS1 := s1.seq hS
  refine w_cut (fun σ' G => ∃ (os : List Nat) (y3 : Option V), σ' = [some (.ref a), some (.int c), some (.ref p), y3] ∧ Same H G ∧ G p = some (.lst ((natI os).map V.int)) ∧ (∀ o ∈ os, o < xs.length) ∧ os.length ≤ 6) ?_ fun σ' G k => ?_
  · have hz : ((natI os).map V.int).length ≤ 1000 := by rw [List.length_map, natI_len]; omega
    walk_at "ws"
    · refine ⟨os ++ [xs.length - 1], _, rfl, same_mut s1 n1, ?_, fun o z => ?_, ?_⟩
      · rw [upd_same, ← nat_snoc, show ((xs.length : Nat) : Int) - 1 = ((xs.length - 1 : Nat) : Int) by omega]
      · rcases List.mem_append.mp z with z | z
        · exact ho o z
        · rw [List.mem_singleton.mp z]; omega
      · rw [List.length_append, List.length_singleton]; omega
    · exact ⟨os, _, rfl, s1, e1, ho, by omega⟩
  obtain ⟨os2, y3, rfl, s2, e2, ho2, hl2⟩ := k
  refine w_cut (fun σ' G => ∃ (os : List Nat) (y3 : Option V) (pp : Addr), σ' = [some (.ref a), some (.int c), some (.ref pp), y3] ∧ H pp = none ∧ Same H G ∧ G pp = some (.lst ((natI os).map V.int)) ∧ (∀ o ∈ os, o < xs.length) ∧ os.length ≤ 100) ?_ fun σ' G k => ?_
  · have hz : ((natI os2).map V.int).length ≤ 6 := by rw [List.length_map, natI_len]; omega
    walk_at "ws"
    · have := cutV_le ((natI os2).map V.int) none (some 1) hz
      omega
    · rename_i pc Gc nc sc ec
      intro pd Gd nd sd ed
      have e3 : cutV ((natI os2).map V.int) none (some 1) = (natI (os2.take 1)).map V.int := by
        rw [show (1 : Int) = ((1 : Nat) : Int) from rfl, cut_upto]
        unfold natI
        rw [List.map_take, List.map_take]
      rw [e3, ← List.map_append, show natI os2 ++ natI (os2.take 1) = natI (os2 ++ os2.take 1) by unfold natI; rw [List.map_append]] at ed
      refine ⟨os2 ++ os2.take 1, _, pd, rfl, (s2.trans sc).free nd, (s2.trans sc).trans sd, ed, fun o z => ?_, ?_⟩
      · rcases List.mem_append.mp z with z | z
        · exact ho2 o z
        · exact ho2 o (List.mem_of_mem_take z)
      · rw [List.length_append, List.length_take]; omega
    · exact ⟨os2, _, p, rfl, n1, s2, e2, ho2, by omega⟩
  obtain ⟨os3, y3, pp, rfl, n3, s3, e3, ho3, hl3⟩ := k
  walk_at "ws"
  · rename_i pq Gq nq sq eq
    exact h (List.range xs.length) pq Gq (fun o z => List.mem_range.mp z) (by rw [List.length_range]; omega) (s3.free nq) (s3.trans sq) eq
  · exact h os3 pp _ ho3 (by omega) n3 s3 e3

/-! rows put on a sheet -/
def Ext (ks ks' : List Row) : Prop := ∃ t, ks' = ks ++ t
theorem Ext.refl (ks : List Row) : Ext ks ks := ⟨[], (List.append_nil ks).symm⟩
theorem Ext.trans {a b c : List Row} (h : Ext a b) (k : Ext b c) : Ext a c := by
  obtain ⟨t, rfl⟩ := h
  obtain ⟨u, rfl⟩ := k
  exact ⟨t ++ u, List.append_assoc ..⟩
theorem Ext.app (a t : List Row) : Ext a (a ++ t) := ⟨t, rfl⟩
theorem Ext.get {a b : List Row} (h : Ext a b) {i : Nat} {r : Row} (e : a[i]? = some r) : b[i]? = some r := by
  obtain ⟨t, rfl⟩ := h
  rw [List.getElem?_append_left (List.getElem?_eq_some_iff.mp e).1]
  exact e
theorem Ext.len {a b : List Row} (h : Ext a b) : a.length ≤ b.length := by
  obtain ⟨t, rfl⟩ := h
  rw [List.length_append]
  omega
theorem Ext.bit {a b : List Row} (h : Ext a b) (ws : List (Str × Int)) {w : Nat} (hw : w < a.length) : bit ws b w = bit ws a w := by
  obtain ⟨t, rfl⟩ := h
  exact run_grow (gateI ws) hw
theorem Ext.dep {a b : List Row} (h : Ext a b) {w : Nat} (hw : w < a.length) : dep b w = dep a w := by
  obtain ⟨t, rfl⟩ := h
  exact run_grow deepI hw
theorem sheet_ne {H : Hp} {s r : Addr} {xs : List V} (hs : SheetAt K H s r) (hr : H r = some (.lst xs)) : s ≠ r := by
  obtain ⟨C, dx, h1, _⟩ := hs
  exact ne_of h1 hr (by intro z; cases z)
theorem SheetAt.same {H H' : Hp} {s r : Addr} (sm : Same H H') (hs : SheetAt K H s r) : SheetAt K H' s r := by
  obtain ⟨C, dx, h1, h2⟩ := hs
  exact ⟨C, dx, sm _ _ h1, h2⟩
theorem SheetAt.fr {ms : List Addr} {H H' : Hp} {s r : Addr} (f : Fr ms H H') (n : s ∉ ms) (hs : SheetAt K H s r) : SheetAt K H' s r := by
  obtain ⟨C, dx, h1, h2⟩ := hs
  exact ⟨C, dx, f _ _ h1 n, h2⟩
theorem RowsM.fr {ms : List Addr} {H H' : Hp} {a : Addr} {rs : List Row} (f : Fr ms H H') (n : a ∉ ms) (np : ∀ p r, p ∈ ms → RowAt H p r → False) (h : RowsM H a rs) : RowsM H' a rs := by
  obtain ⟨ps, h1, h2⟩ := h
  exact ⟨ps, f _ _ h1 n, h2.mono fun p r e => f _ _ e fun z => np p r z e⟩
theorem use_add {H : Hp} {s r p : Addr} {rs : List Row} {x : Row} {Q : VK} {E : XK} (hs : SheetAt K H s r) (hM : RowsM H r rs) (hp : RowAt H p x) (hl : rs.length ≤ 900000)
    (q : ∀ H', SheetAt K H' s r → RowsM H' r (rs ++ [x]) → Fr [r] H H' → Q (.int (rs.length : Int)) H') : sp_Sheet_add K (.ref s :: ([.ref p] ++ [])) H Q E := by
  obtain ⟨ps, h1, h2⟩ := hM
  have hl2 : (ps.map V.ref).length = rs.length := by rw [List.length_map, h2.1]
  have ne := sheet_ne hs h1
  refine ⟨s, r, _, _, rfl, hs, h1, by omega, ?_⟩
  rw [hl2]
  exact q _ (hs.fr (ms := [r]) (Fr.put (List.mem_cons_self ..)) (by simpa using ne)) (RowsM.push h1 h2 hp) (Fr.put (List.mem_cons_self ..))
theorem use_now {H : Hp} {s r : Addr} {rs : List Row} {Q : VK} {E : XK} (hs : SheetAt K H s r) (hM : RowsM H r rs) (hl : rs.length ≤ 900000)
    (q : ∀ p H', H p = none → Same H H' → RowsM H' p rs → Q (.ref p) H') : sp_Sheet_rows_now K (.ref s :: ([] ++ [])) H Q E := by
  obtain ⟨ps, h1, h2⟩ := hM
  refine ⟨s, r, _, rfl, hs, h1, by rw [List.length_map, h2.1]; omega, fun p H' n s e => q p H' n s ⟨ps, e, h2.mono fun _ _ e => s _ _ e⟩⟩
/-! pairs of wires joined -/
def PairAt (H : Hp) (p : Addr) (m q : Nat) : Prop := H p = some (.tup [.int (m : Int), .int (q : Int)])

/-- a comprehension over a list that stands, by an invariant of the list made so far and the heap -/
theorem lc_inv {K : PySem.W.Frag} {σ : L2.St} {H : Hp} {Q : VK} {te : TE} {vs : List Nat} {a : Addr} {j : Nat} (xs : List V) (P : Addr → Nat → List V → Hp → Prop) (hz : xs.length ≤ 1000000) (h0 : ∀ D, H D = none → P D 0 [] (upd H D (.lst [])))
    (hl : ∀ D i ys H', P D i ys H' → SqL K H' a xs ∧ ys.length ≤ i) (hw : ∀ x, wipe ((wipe σ vs).set j (some x)) vs = wipe σ vs)
    (he : ∀ D (i : Nat) x ys H' (Q' : VK), H D = none → xs[i]? = some x → P D i ys H' → (∀ y H4, H4 D = some (.lst ys) → P D (i + 1) (ys ++ [y]) (upd H4 D (.lst (ys ++ [y]))) → Q' y H4) → te ((wipe σ vs).set j (some x)) H' Q')
    (q : ∀ D ys H', H D = none → P D xs.length ys H' → Q (.ref D) H') : LcB (Itl K a) (gName j) tYes te vs σ Q H := fun D hD =>
  lc_list (xs := xs) (fun i H' => ∃ ys : List V, P D i ys H') ⟨[], h0 D hD⟩ (fun i H' _ e => by
    obtain ⟨ys, p⟩ := e
    exact (hl D i ys H' p).1) (fun i x H' hx e => by
    obtain ⟨ys, p⟩ := e
    have hi := (List.getElem?_eq_some_iff.mp hx).1
    have hyl := (hl D i ys H' p).2
    show wipe ((wipe σ vs).set j (some x)) vs = wipe σ vs ∧ te ((wipe σ vs).set j (some x)) H' (fun y H4 => ∃ acc, H4 D = some (.lst acc) ∧ acc.length < sizeLine ∧ ∃ zs : List V, P D (i + 1) zs (upd H4 D (.lst (acc ++ [y]))))
    refine ⟨hw _, he D i x ys H' _ hD hx p fun y H4 e1 e2 => ⟨ys, e1, ?_, _, e2⟩⟩
    exact Nat.lt_of_lt_of_le (show ys.length < 16777216 by omega) (by rw [sizeLine_eq]; exact Nat.le_refl _)) fun H' e => by
    obtain ⟨ys, p⟩ := e
    exact q D ys H' hD p

theorem RowsM.fresh {H : Hp} {a x : Addr} {rs : List Row} (h : RowsM H a rs) (n : H x = none) : x ≠ a := fun z => by
  obtain ⟨_, e, _⟩ := h
  rw [← z, n] at e
  cases e
theorem nin_cons {x r : Addr} {ps : List Addr} (h : x ≠ r) (k : x ∉ ps) : x ∉ r :: ps := fun z => by
  rcases List.mem_cons.mp z with z | z
  · exact h z
  · exact k z
theorem atI_lastR {qs : List Addr} {q : Addr} (h : qs[qs.length - 1]? = some q) : atI (qs.map V.ref) (-1) = some (.ref q) := by
  have hne : qs ≠ [] := fun z => by rw [z] at h; cases h
  obtain ⟨r, x, rfl⟩ : ∃ r x, qs = r ++ [x] := ⟨qs.dropLast, qs.getLast hne, (List.dropLast_concat_getLast hne).symm⟩
  rw [List.length_append, List.length_singleton, Nat.add_sub_cancel, List.getElem?_append_right (Nat.le_refl _), Nat.sub_self] at h
  cases h
  rw [List.map_append]
  exact atI_last _ _

/-! rows in stages, the mathematics -/
abbrev Pl := Nat → Nat → Option Nat
def setP (P : Pl) (w s x : Nat) : Pl := fun a b => if a = w ∧ b = s then some x else P a b
inductive RowTo (P : Nat → Option Nat) : Row → Row → Prop
  | fix (b : Int) : RowTo P (.fix b) (.fix b)
  | inn (n : Str) (k : Nat) : RowTo P (.inn n k) (.inn n k)
  | inv {a x : Nat} (h : P a = some x) : RowTo P (.inv a) (.inv x)
  | bin (c : Bop) {a b x y : Nat} (h : P a = some x) (k : P b = some y) : RowTo P (.bin c a b) (.bin c x y)
theorem RowTo.mono {P P' : Nat → Option Nat} (h : ∀ a x, P a = some x → P' a = some x) {r r' : Row} (k : RowTo P r r') : RowTo P' r r' := by
  cases k with
  | fix b => exact .fix b
  | inn n k => exact .inn n k
  | inv e => exact .inv (h _ _ e)
  | bin c e f => exact .bin c (h _ _ e) (h _ _ f)
structure StI (N : Str → Prop) (rs : List Row) (st : Nat → Nat) (i : Nat) (R : List Row) (P : Pl) : Prop where
  ok : RowsOk N R
  dom : ∀ w s x, P w s = some x → w < i ∧ x < R.length ∧ st w ≤ s
  here : ∀ w x, P w (st w) = some x → ∃ r r', rs[w]? = some r ∧ R[x]? = some r' ∧ RowTo (fun a => P a (st w)) r r'
  late : ∀ w s x, P w (s + 1) = some x → st w ≤ s → ∃ y, P w s = some y ∧ R[x]? = some (.lat y)
  ins : ∀ n k, Row.inn n k ∈ R → Row.inn n k ∈ rs
  all : ∀ x, x < R.length → ∃ w s, P w s = some x
theorem StI.start (N : Str → Prop) (rs : List Row) (st : Nat → Nat) : StI N rs st 0 [] (fun _ _ => none) :=
  ⟨fun i r z => (by cases z), fun w s x z => (by cases z), fun w x z => (by cases z), fun w s x z => (by cases z), fun n k z => (by cases z), fun x z => absurd z (Nat.not_lt_zero _)⟩
theorem StI.skip {N : Str → Prop} {rs : List Row} {st : Nat → Nat} {i : Nat} {R : List Row} {P : Pl} (h : StI N rs st i R P) : StI N rs st (i + 1) R P :=
  ⟨h.ok, fun w s x e => by have := h.dom w s x e; omega, h.here, h.late, h.ins, h.all⟩
theorem StI.down {N : Str → Prop} {rs : List Row} {st : Nat → Nat} {i : Nat} {R : List Row} {P : Pl} (h : StI N rs st i R P) {w : Nat} : ∀ {s x : Nat}, P w s = some x → ∃ y, P w (st w) = some y
  | 0, x, e => by
    have := (h.dom w 0 x e).2.2
    rw [show st w = 0 by omega]
    exact ⟨x, e⟩
  | s + 1, x, e => by
    by_cases q : st w = s + 1
    · rw [q]; exact ⟨x, e⟩
    · have := (h.dom w (s + 1) x e).2.2
      obtain ⟨y, e2, _⟩ := h.late w s x e (by omega)
      exact h.down e2
theorem setP_hit (P : Pl) (w s x : Nat) : setP P w s x w s = some x := if_pos ⟨rfl, rfl⟩
theorem setP_keep {P : Pl} {w s x : Nat} (n : P w s = none) : ∀ a b y, P a b = some y → setP P w s x a b = some y := fun a b y e => by
  unfold setP
  rw [if_neg (fun z => by rw [z.1, z.2, n] at e; cases e)]
  exact e
theorem setP_case {P : Pl} {w s x a b y : Nat} (e : setP P w s x a b = some y) : (a = w ∧ b = s ∧ y = x) ∨ P a b = some y := by
  unfold setP at e
  split at e
  · rename_i q; cases e; exact .inl ⟨q.1, q.2, rfl⟩
  · exact .inr e
theorem get_last {α : Type} (xs : List α) (x : α) : (xs ++ [x])[xs.length]? = some x := by rw [List.getElem?_append_right (Nat.le_refl _), Nat.sub_self]; rfl
theorem get_old {α : Type} {xs : List α} {ys : List α} {i : Nat} {x : α} (h : xs[i]? = some x) : (xs ++ ys)[i]? = some x := by
  rw [List.getElem?_append_left (List.getElem?_eq_some_iff.mp h).1]; exact h
theorem StI.latch {N : Str → Prop} {rs : List Row} {st : Nat → Nat} {i : Nat} {R : List Row} {P : Pl} (h : StI N rs st i R P) {w s y : Nat} (e : P w s = some y) (n : P w (s + 1) = none) : StI N rs st i (R ++ [.lat y]) (setP P w (s + 1) R.length) := by
  have d := h.dom w s y e
  refine ⟨h.ok.snoc (r := .lat y) d.2.1, fun a b x k => ?_, fun a x k => ?_, fun a b x k l => ?_, fun m k z => ?_, fun x hx => ?_⟩
  · rw [List.length_append, List.length_singleton]
    rcases setP_case k with ⟨rfl, rfl, rfl⟩ | k
    · omega
    · have := h.dom a b x k; omega
  · rcases setP_case k with ⟨rfl, q, rfl⟩ | k
    · omega
    · obtain ⟨r, r', h1, h2, h3⟩ := h.here a x k
      exact ⟨r, r', h1, get_old h2, h3.mono fun c z => setP_keep n c _ z⟩
  · rcases setP_case k with ⟨rfl, q, rfl⟩ | k
    · have : b = s := by omega
      subst this
      exact ⟨y, setP_keep n _ _ _ e, get_last ..⟩
    · obtain ⟨z, h1, h2⟩ := h.late a b x k l
      exact ⟨z, setP_keep n _ _ _ h1, get_old h2⟩
  · rcases List.mem_append.mp z with z | z
    · exact h.ins m k z
    · cases List.mem_singleton.mp z
  · by_cases q : x < R.length
    · obtain ⟨a, b, e⟩ := h.all x q
      exact ⟨a, b, setP_keep n _ _ _ e⟩
    · rw [List.length_append, List.length_singleton] at hx
      exact ⟨w, s + 1, by rw [show x = R.length by omega]; exact setP_hit ..⟩
theorem StI.put {N : Str → Prop} {rs : List Row} {st : Nat → Nat} {i : Nat} {R : List Row} {P : Pl} (h : StI N rs st i R P) {r r' : Row} (hr : rs[i]? = some r) (okr : RowOk N i r) (t : RowTo (fun a => P a (st i)) r r') : StI N rs st (i + 1) (R ++ [r']) (setP P i (st i) R.length) := by
  have n : P i (st i) = none := by
    cases e : P i (st i) with
    | none => rfl
    | some x => have := (h.dom _ _ _ e).1; omega
  have okr' : RowOk N R.length r' := by
    cases t with
    | fix b => exact okr
    | inn n k => exact okr
    | inv e => exact (h.dom _ _ _ e).2.1
    | bin c e f => exact ⟨(h.dom _ _ _ e).2.1, (h.dom _ _ _ f).2.1⟩
  refine ⟨h.ok.snoc okr', fun a b x k => ?_, fun a x k => ?_, fun a b x k l => ?_, fun m k z => ?_, fun x hx => ?_⟩
  · rw [List.length_append, List.length_singleton]
    rcases setP_case k with ⟨rfl, rfl, rfl⟩ | k
    · omega
    · have := h.dom a b x k; omega
  · rcases setP_case k with ⟨rfl, q, rfl⟩ | k
    · exact ⟨r, r', hr, get_last .., t.mono fun c z => setP_keep n c _ z⟩
    · obtain ⟨r, r', h1, h2, h3⟩ := h.here a x k
      exact ⟨r, r', h1, get_old h2, h3.mono fun c z => setP_keep n c _ z⟩
  · rcases setP_case k with ⟨rfl, q, rfl⟩ | k
    · omega
    · obtain ⟨z, h1, h2⟩ := h.late a b x k l
      exact ⟨z, setP_keep n _ _ _ h1, get_old h2⟩
  · rcases List.mem_append.mp z with z | z
    · exact h.ins m k z
    · have z := List.mem_singleton.mp z
      subst z
      cases t
      exact List.mem_of_getElem? hr
  · by_cases q : x < R.length
    · obtain ⟨a, b, e⟩ := h.all x q
      exact ⟨a, b, setP_keep n _ _ _ e⟩
    · rw [List.length_append, List.length_singleton] at hx
      exact ⟨i, st i, by rw [show x = R.length by omega]; exact setP_hit ..⟩
/-- more places, none lost -/
def PlLe (P P' : Pl) : Prop := ∀ w s x, P w s = some x → P' w s = some x
theorem PlLe.refl (P : Pl) : PlLe P P := fun _ _ _ e => e
theorem PlLe.trans {P P' P'' : Pl} (h : PlLe P P') (k : PlLe P' P'') : PlLe P P'' := fun _ _ _ e => k _ _ _ (h _ _ _ e)

def kP (w t : Nat) : List Key := [Sum.inl (w : Int), Sum.inl (t : Int)]
theorem kP_inj {a b c d : Nat} (h : kP a b = kP c d) : a = c ∧ b = d := by
  unfold kP at h
  injection h with h1 h2
  injection h2 with h2 _
  exact ⟨Int.ofNat.inj (Sum.inl.inj h1), Int.ofNat.inj (Sum.inl.inj h2)⟩
def PlAt (H : Hp) (d : Addr) (P : Pl) (n : Nat) : Prop := ∃ kvs : List (List Key × V), H d = some (.dT kvs) ∧ kvs.length ≤ n ∧ ∀ w t, valV kvs (kP w t) = (P w t).map fun x : Nat => V.int (x : Int)
def StAt (K : PySem.W.Frag) (H : Hp) (s sh r d : Addr) (R : List Row) (P : Pl) : Prop := (∃ C dx, H s = some (.ins C dx [("sheet", .ref sh), ("places", .ref d)]) ∧ IsC K "Stages" C) ∧ SheetAt K H sh r ∧ RowsM H r R ∧ PlAt H d P R.length
theorem StAt.same {H H' : Hp} {s sh r d : Addr} {R : List Row} {P : Pl} (sm : Same H H') (h : StAt K H s sh r d R P) : StAt K H' s sh r d R P := by
  obtain ⟨⟨C, dx, h1, h2⟩, h3, h4, kvs, h5, h6⟩ := h
  exact ⟨⟨C, dx, sm _ _ h1, h2⟩, h3.same sm, h4.same sm, kvs, sm _ _ h5, h6⟩
theorem PlAt.put {H : Hp} {d : Addr} {P : Pl} {n w t x : Nat} {kvs : List (List Key × V)} (hl : kvs.length ≤ n) (hv : ∀ w t, valV kvs (kP w t) = (P w t).map fun x : Nat => V.int (x : Int)) (hn : P w t = none) (e : H d = some (.dT (putK kvs (kP w t) (.int (x : Int))))) : PlAt H d (setP P w t x) (n + 1) := by
  refine ⟨_, e, ?_, fun a b => ?_⟩
  · rw [putK_new _ (by rw [hv, hn]; rfl), List.length_append, List.length_singleton]; omega
  · rw [valV_put, hv]
    unfold setP
    by_cases q : a = w ∧ b = t
    · rw [if_pos (by rw [q.1, q.2]), if_pos q]; rfl
    · rw [if_neg (fun z => q (kP_inj z)), if_neg q]
def sp_Stages__init (K : PySem.W.Frag) : Sp := fun vs H Q _ => ∃ (s C dx : Addr), vs = [.ref s] ∧ H s = some (.ins C dx []) ∧ IsC K "Stages" C ∧ ∀ (sh r d : Addr) (H1 : Hp), H sh = none → H r = none → H d = none → StAt K H1 s sh r d [] (fun _ _ => none) → Fr [s] H H1 → Q .non H1
theorem ok_Stages__init (T : Top K mg) : FnOk P w K mg base CX0 3 T.a_Stages__init T.d_Stages__init ["self"] (sp_Stages__init K) := by
  refine T.f_Stages__init.ok sc_Stages__init (fun vs H Q E h => ?_) (fun cdv A outer s H vs Q E hr h => ?_)
  · obtain ⟨s, C, dx, rfl, _⟩ := h
    rfl
  obtain ⟨s, C, dx, rfl, h⟩ := h
  refine ⟨_, (pss_cons (ps_fld (pv 0) (pe_make0 T.mk_Sheet (ok_Sheet__init T) (hr.mono (by decide)) (by rfl) T.gc_Sheet T.b_Sheet__init .nil pass0) rfl)
      (pss_one (ps_fld (pv 0) pe_dnewT rfl))), ?_⟩
  try dsimp only [cxOf, Cx.nox, Cx.wish]
  simp only [L2.start, List.map_cons, List.map_nil, List.length_cons, List.length_nil, Nat.reduceAdd, Nat.reduceSub, List.replicate_succ, List.replicate_zero, List.cons_append, List.nil_append]
  obtain ⟨hs, hC, h⟩ := h
  obtain rfl := hC.one T.nc_Stages
  have c1 := T.cl_Stages
  have c2 := T.cl_Sheet
  have c3 := T.n_Stages_sheet
  have c4 := T.n_Stages_places
  walk_at "ws"
  rename_i sh dxs H1 n1 nd1 s1 e1
  refine ⟨sh, T.c_Sheet, dxs, rfl, e1, T.nc_Sheet, fun r H2 n2 s2 e2 => ⟨rfl, ?_⟩⟩
  have hsh2 : SheetAt K (upd H2 sh (.ins T.c_Sheet dxs [("rows", .ref r)])) sh r := ⟨_, dxs, upd_same, T.nc_Sheet⟩
  have rsh : r ≠ sh := fun z => by rw [z, e1] at n2; cases n2
  have er2 : (upd H2 sh (.ins T.c_Sheet dxs [("rows", .ref r)])) r = some (.lst []) := by rw [upd_ne rsh]; exact e2
  have s02 : Same H (upd H2 sh (.ins T.c_Sheet dxs [("rows", .ref r)])) := same_mut (s1.trans s2) n1
  have n2' : H r = none := s1.free n2
  have hs2 := s02 _ _ hs
  generalize upd H2 sh (.ins T.c_Sheet dxs [("rows", .ref r)]) = H3 at *
  have ssh : s ≠ sh := fun z => by rw [z] at hs; rw [hs] at n1; cases n1
  have sr : s ≠ r := fun z => by rw [z] at hs; rw [hs] at n2'; cases n2'
  walk_at "ws"
  rename_i d H4 n4 s4 e4
  have n4' : H3 d = none := by
    by_cases z : d = s
    · rw [z, upd_same] at n4; cases n4
    · rwa [upd_ne z] at n4
  have ds : d ≠ s := fun z => by rw [z, hs2] at n4'; cases n4'
  refine h sh r d _ n1 n2' (s02.free n4') ⟨⟨T.c_Stages, dx, ?_, hC⟩, ?_, ⟨[], ?_, A2.nil⟩, [], ?_, Nat.le_refl _, fun w t => rfl⟩ ?_
  · rw [upd_same]; rfl
  · obtain ⟨C2, dx2, q1, q2⟩ := hsh2
    refine ⟨C2, dx2, ?_, q2⟩
    rw [upd_ne ssh.symm]
    refine s4 _ _ ?_
    rw [upd_ne ssh.symm]
    exact q1
  · rw [upd_ne sr.symm]
    refine s4 _ _ ?_
    rw [upd_ne sr.symm]
    exact er2
  · rw [upd_ne ds]; exact e4
  · exact ((Fr.of s02).trans (Fr.put (List.mem_cons_self ..))).trans ((Fr.of s4).trans (Fr.put (List.mem_cons_self ..)))
def sp_Stages_late (K : PySem.W.Frag) : Sp := fun vs H Q _ => ∃ (s sh r d : Addr) (w t : Nat) (N : Str → Prop) (rs : List Row) (st : Nat → Nat) (i : Nat) (R : List Row) (P : Pl), vs = [.ref s, .int (w : Int), .int (t : Int)] ∧ StAt K H s sh r d R P ∧ StI N rs st i R P ∧ (∃ x, P w (st w) = some x) ∧ st w ≤ t ∧ t ≤ 1000 ∧ R.length ≤ 500000 ∧
  ∀ (x : Nat) (R' : List Row) (P' : Pl) H', StI N rs st i R' P' → PlLe P P' → R'.length ≤ R.length + t → P' w t = some x → StAt K H' s sh r d R' P' → Fr [r, d] H H' → Q (.int (x : Int)) H'
theorem ok_Stages_late (T : Top K mg) : FnOk P w K mg base CX0 2 T.a_Stages_late T.d_Stages_late ["self", "wire", "stage"] (sp_Stages_late K) := by
  refine T.f_Stages_late.ok sc_Stages_late (fun vs H Q E h => ?_) (fun cdv A outer s H vs Q E hr h => ?_)
  · obtain ⟨s, sh, r, d, w, t, N, rs, st, i, R, P, rfl, _⟩ := h
    rfl
  obtain ⟨s, sh, r, d, w, t, N, rs, st, i, R, P, rfl, h⟩ := h
  refine ⟨_, (pss_cons (ps_set (i := 3) sc_Stages_late.nd rfl (.inl rfl) (pv 2))
      (pss_cons (ps_while PassesOwn.never (pt_cmp (pc_dnotin (hu_of hr) (pe_tup (pa_cons (pv 1) (pa_cons (pv 3) pa_nil))) (pe_fld (pv 0) rfl)))
      (pss_one (ps_aug (i := 3) sc_Stages_late.nd rfl (.inl rfl) pe_int ip_sub)))
      (pss_cons (ps_for PassesOwn.never rfl (pi_range2 (by rfl) T.z_range (pa_cons (pv 3) (pa_cons (pv 2) pa_nil))) (pg_name (i := 4) sc_Stages_late.nd rfl (.inl rfl))
      (pss_one (ps_dput (hu_of hr) (pe_fld (pv 0) rfl) (pe_tup (pa_cons (pv 1) (pa_cons (pe_op op_add (pv 4) pe_int) pa_nil))) (pe_meth (pe_fld (pv 0) rfl) T.cl_Sheet T.m_Sheet_add (ok_Sheet_add T) (hr.mono (by decide)) T.b_Sheet_add .nil pass0 (pa_cons (pe_tup (pa_cons pe_str (pa_cons (pe_dget (hu_of hr) (pe_fld (pv 0) rfl) (pe_tup (pa_cons (pv 1) (pa_cons (pv 4) pa_nil))) (fun _ _ => rfl)) pa_nil))) pa_nil)) rfl)))
      (pss_one (ps_ret (pe_dget (hu_of hr) (pe_fld (pv 0) rfl) (pe_tup (pa_cons (pv 1) (pa_cons (pv 2) pa_nil))) (fun _ _ => rfl))))))), ?_⟩
  try dsimp only [cxOf, Cx.nox, Cx.wish]
  simp only [L2.start, List.map_cons, List.map_nil, List.length_cons, List.length_nil, Nat.reduceAdd, Nat.reduceSub, List.replicate_succ, List.replicate_zero, List.cons_append, List.nil_append]
  obtain ⟨ha, I, hput, hst, ht, hRl, h⟩ := h
  have c1 := T.cl_Stages
  have c2 := T.n_Stages_sheet
  have c3 := T.n_Stages_places
  walk_at "ws"
  refine ⟨fun m σ' G => ∃ f : Nat, σ' = [some (.ref s), some (.int (w : Int)), some (.int (t : Int)), some (.int (f : Int)), none] ∧ Same H G ∧ st w ≤ f ∧ f ≤ t ∧ (∀ g, f < g → g ≤ t → P w g = none) ∧ m = f, ⟨_, t, rfl, Same.refl _, hst, Nat.le_refl _, fun g a b => absurd a (by omega), rfl⟩, fun m σ' G q => ?_⟩
  obtain ⟨f, rfl, sm, f1, f2, hno, rfl⟩ := q
  obtain ⟨⟨C, dx, hs, hC⟩, hsh, hM, kvs, hd, hkl, hkv⟩ := ha.same sm
  obtain rfl := hC.one T.nc_Stages
  walk_at "ws"
  rename_i p H1 n1 s1 e1
  have e1' : H1 p = some (.tup ((kP w m).map kV)) := e1
  have hd1 := s1 _ _ hd
  cases hP : P w m with
  | none =>
    refine w_NInT1 hd1 e1' (by rw [hkv, hP]; rfl) ?_
    have hlt : st w < m := by
      rcases Nat.lt_or_ge (st w) m with q | q
      · exact q
      · obtain ⟨x, e⟩ := hput
        rw [show m = st w by omega, e] at hP
        cases hP
    rw [if_pos rfl]
    refine ⟨fun σ' H' => ∃ m', m' < m ∧ _, fun _ _ z => z, ?_⟩
    walk_at "ws"
    refine ⟨m - 1, by omega, m - 1, by rw [show ((m - 1 : Nat) : Int) = (m : Int) - 1 by omega]; rfl, sm.trans s1, by omega, by omega, fun g a b => ?_, rfl⟩
    rcases Nat.lt_or_ge m g with q | q
    · exact hno g q b
    · rw [show g = m by omega]; exact hP
  | some x =>
    refine w_NInT0 hd1 e1' (by rw [hkv, hP]; rfl) ?_
    have ha1 := ha.same (sm.trans s1)
    have f01 : Fr [r, d] H H1 := Fr.of (sm.trans s1)
    walk_at "ws"
    rw [show ((t : Int) - (m : Int)).toNat = t - m by omega]
    refine for_r2 (fun j σ' G2 => ∃ (y4 : Option V) (R1 : List Row) (P1 : Pl) (x1 : Nat), σ' = [some (.ref s), some (.int (w : Int)), some (.int (t : Int)), some (.int (m : Int)), y4] ∧ StAt K G2 s sh r d R1 P1 ∧ StI N rs st i R1 P1 ∧ PlLe P P1 ∧ R1.length ≤ R.length + j ∧ P1 w (m + j) = some x1 ∧ (∀ g, m + j < g → g ≤ t → P1 w g = none) ∧ Fr [r, d] H G2) ⟨_, R, P, x, rfl, ha1, I, PlLe.refl _, Nat.le_refl _, hP, hno, f01⟩ (fun j σ' G2 hj q => ?_) (fun σ' G2 q => ?_)
    · obtain ⟨y4, R1, P1, x1, rfl, ha2, I2, le2, hl2, hx1, hno2, f2⟩ := q
      obtain ⟨⟨C, dx2, hs2, hC2⟩, hsh2, hM2, kvs2, hd2, hkl2, hkv2⟩ := id ha2
      obtain rfl := hC2.one T.nc_Stages
      obtain ⟨C, dxs2, es2, eCs⟩ := id hsh2
      obtain rfl := eCs.one T.nc_Sheet
      rw [show (m : Int) + (j : Int) = ((m + j : Nat) : Int) by omega]
      walk_at "ws"
      rename_i p G3 n3 s3 e3
      have e3' : G3 p = some (.tup ((kP w (m + j)).map kV)) := e3
      refine w_DGT (s3 _ _ hd2) e3' (by rw [hkv2, hx1]; rfl) ?_
      walk_at "ws"
      rename_i p4 G4 n4 s4 e4
      have e4 : RowAt G4 p4 (.lat x1) := e4
      have s34 := s3.trans s4
      obtain ⟨psr, er2, hAr⟩ := id hM2
      have sr : s ≠ r := ne_of hs2 er2 (by intro z; cases z)
      have dr : d ≠ r := ne_of hd2 er2 (by intro z; cases z)
      have sd : s ≠ d := ne_of hs2 hd2 (by intro z; cases z)
      have shd : sh ≠ d := ne_of es2 hd2 (by intro z; cases z)
      refine use_add (x := .lat x1) (hsh2.same s34) (hM2.same s34) e4 (by omega) fun G5 hsh5 hM5 f5 => ?_
      have hs5 := f5 _ _ (s34 _ _ hs2) (by simpa using sr)
      have hd5 := f5 _ _ (s34 _ _ hd2) (by simpa using dr)
      walk_at "ws"
      rename_i p6 G6 n6 s6 e6
      have e6' : G6 p6 = some (.tup ((kP w (m + j + 1)).map kV)) := e6
      refine w_DPutT (s6 _ _ hd5) e6' (by omega) ?_
      have hn1 := hno2 (m + j + 1) (by omega) (by omega)
      have fd : Fr [d] G6 (upd G6 d (.dT (putK kvs2 (kP w (m + j + 1)) (.int (R1.length : Int))))) := Fr.put (List.mem_cons_self ..)
      have hd6 := s6 _ _ hd5
      refine ⟨_, R1 ++ [.lat x1], setP P1 w (m + j + 1) R1.length, R1.length, rfl, ⟨⟨T.c_Stages, dx2, fd _ _ (s6 _ _ hs5) (by simpa using sd), hC2⟩, (hsh5.same s6).fr fd (by simpa using shd), (hM5.same s6).fr fd (by simpa using dr.symm) (fun p x m e => by rw [List.mem_singleton.mp m] at e; rw [show G6 d = _ from e] at hd6; cases hd6), ?_⟩, I2.latch hx1 hn1, le2.trans (setP_keep hn1), ?_, setP_hit .., fun g a b => ?_, ?_⟩
      · rw [List.length_append, List.length_singleton]
        exact PlAt.put hkl2 hkv2 hn1 upd_same
      · rw [List.length_append, List.length_singleton]; omega
      · unfold setP
        rw [if_neg (by omega)]
        exact hno2 g (by omega) b
      · exact ((f2.trans (Fr.of s34)).trans (f5.mono fun m hm => by rw [List.mem_singleton.mp hm]; exact List.mem_cons_self ..)).trans ((Fr.of s6).trans (fd.mono fun m hm => by rw [List.mem_singleton.mp hm]; exact List.mem_cons_of_mem _ (List.mem_cons_self ..)))
    · obtain ⟨y4, R1, P1, x1, rfl, ha2, I2, le2, hl2, hx1, hno2, f2⟩ := q
      rw [show m + (t - m) = t by omega] at hx1
      obtain ⟨⟨C, dx2, hs2, hC2⟩, hsh2, hM2, kvs2, hd2, hkl2, hkv2⟩ := id ha2
      obtain rfl := hC2.one T.nc_Stages
      walk_at "ws"
      rename_i p G3 n3 s3 e3
      have e3' : G3 p = some (.tup ((kP w t).map kV)) := e3
      refine w_DGT (s3 _ _ hd2) e3' (by rw [hkv2, hx1]; rfl) ?_
      exact h x1 R1 P1 G3 I2 le2 (by omega) hx1 (ha2.same s3) (f2.trans (Fr.of s3))

/-- a comprehension over a tuple that stands, by an invariant of the list made so far and the heap -/
theorem lc_invT {K : PySem.W.Frag} {σ : L2.St} {H : Hp} {Q : VK} {te : TE} {vs : List Nat} {a : Addr} {j : Nat} (xs : List V) (P : Addr → Nat → List V → Hp → Prop) (hz : xs.length ≤ 1000000) (h0 : ∀ D, H D = none → P D 0 [] (upd H D (.lst [])))
    (hl : ∀ D i ys H', P D i ys H' → SqT K H' a xs ∧ ys.length ≤ i) (hw : ∀ x, wipe ((wipe σ vs).set j (some x)) vs = wipe σ vs)
    (he : ∀ D (i : Nat) x ys H' (Q' : VK), H D = none → xs[i]? = some x → P D i ys H' → (∀ y H4, H4 D = some (.lst ys) → P D (i + 1) (ys ++ [y]) (upd H4 D (.lst (ys ++ [y]))) → Q' y H4) → te ((wipe σ vs).set j (some x)) H' Q')
    (q : ∀ D ys H', H D = none → P D xs.length ys H' → Q (.ref D) H') : LcB (Itt K a) (gName j) tYes te vs σ Q H := fun D hD =>
  lc_tup (xs := xs) (fun i H' => ∃ ys : List V, P D i ys H') ⟨[], h0 D hD⟩ (fun i H' _ e => by
    obtain ⟨ys, p⟩ := e
    exact (hl D i ys H' p).1) (fun i x H' hx e => by
    obtain ⟨ys, p⟩ := e
    have hi := (List.getElem?_eq_some_iff.mp hx).1
    have hyl := (hl D i ys H' p).2
    show wipe ((wipe σ vs).set j (some x)) vs = wipe σ vs ∧ te ((wipe σ vs).set j (some x)) H' (fun y H4 => ∃ acc, H4 D = some (.lst acc) ∧ acc.length < sizeLine ∧ ∃ zs : List V, P D (i + 1) zs (upd H4 D (.lst (acc ++ [y]))))
    refine ⟨hw _, he D i x ys H' _ hD hx p fun y H4 e1 e2 => ⟨ys, e1, ?_, _, e2⟩⟩
    exact Nat.lt_of_lt_of_le (show ys.length < 16777216 by omega) (by rw [sizeLine_eq]; exact Nat.le_refl _)) fun H' e => by
    obtain ⟨ys, p⟩ := e
    exact q D ys H' hD p
theorem StAt.fr {ms : List Addr} {H H' : Hp} {s sh r d : Addr} {R : List Row} {P : Pl} (f : Fr ms H H') (h : StAt K H s sh r d R P) (n1 : s ∉ ms) (n2 : sh ∉ ms) (n3 : r ∉ ms) (n4 : d ∉ ms) (np : ∀ p r, p ∈ ms → RowAt H p r → False) : StAt K H' s sh r d R P := by
  obtain ⟨⟨C, dx, h1, h2⟩, h3, h4, kvs, h5, h6⟩ := h
  exact ⟨⟨C, dx, f _ _ h1 n1, h2⟩, h3.fr f n2, h4.fr f n3 np, kvs, f _ _ h5 n4, h6⟩
theorem StAt.trk {H : Hp} {s sh r d x : Addr} {R : List Row} {P : Pl} (h : StAt K H s sh r d R P) (n : H x = none) : x ≠ s ∧ x ≠ sh ∧ x ≠ r ∧ x ≠ d := by
  obtain ⟨⟨C, dx, h1, h2⟩, ⟨C2, dx2, h3, _⟩, ⟨_, h4, _⟩, kvs, h5, h6⟩ := h
  refine ⟨fun z => ?_, fun z => ?_, fun z => ?_, fun z => ?_⟩ <;> subst z <;> simp_all
def sp_Stages_put (K : PySem.W.Frag) : Sp := fun vs H Q _ => ∃ (s sh r d p : Addr) (i : Nat) (x : Row) (N : Str → Prop) (rs : List Row) (st : Nat → Nat) (R : List Row) (P : Pl), vs = [.ref s, .int (i : Int), .ref p, .int (st i : Int)] ∧ RowAt H p x ∧ StAt K H s sh r d R P ∧ StI N rs st i R P ∧ rs[i]? = some x ∧ RowOk N i x ∧ noLat x ∧ (∀ a ∈ ownR x, (∃ y, P a (st a) = some y) ∧ st a ≤ st i) ∧ st i ≤ 1000 ∧ R.length ≤ 400000 ∧
  ∀ (R' : List Row) (P' : Pl) H', StI N rs st (i + 1) R' P' → PlLe P P' → R'.length ≤ R.length + 2 * st i + 1 → (∃ y, P' i (st i) = some y) → StAt K H' s sh r d R' P' → Fr [r, d] H H' → Q .non H'
theorem ok_Stages_put (T : Top K mg) : FnOk P w K mg base CX0 3 T.a_Stages_put T.d_Stages_put ["self", "wire", "row", "stage"] (sp_Stages_put K) := by
  refine T.f_Stages_put.ok sc_Stages_put (fun vs H Q E h => ?_) (fun cdv A outer s H vs Q E hr h => ?_)
  · obtain ⟨s, sh, r, d, p, i, x, N, rs, st, R, P, rfl, _⟩ := h
    rfl
  obtain ⟨s, sh, r, d, p, i, x, N, rs, st, R, P, rfl, h⟩ := h
  refine ⟨_, (Evl.pss_cut (ps_if (pt_cmpR op_gt (pe_callB (c_lenK K) (by rfl) T.z_len PySem.boot_len (pa_cons (pe_call (ok_own_wires T) (hr.mono (by decide)) (by rfl) T.g_own_wires T.f_own_wires.kp T.b_own_wires .nil pass0 (pa_cons (pv 2) pa_nil)) pa_nil)) pe_int (nomark _)) (pss_one (ps_set (i := 2) sc_Stages_put.nd rfl (.inl rfl) (pe_op op_catT (pe_tup (pa_cons (pe_ix (ix_tupK K) (pv 2) pe_int (fun _ _ => rfl)) pa_nil)) (pe_callTy (c_tupK K) (by rfl) T.z_tuple (by decide +kernel) (pa_cons (pe_lc (own := [("ahead", 4)]) (g := gName 4) (tt := tYes) (by rfl) sc_Stages_put.nd (pi_tup (pe_slice sl_tup (pv 2) (po_some pe_int) po_none)) (blkOk_by (N := ["self", "wire", "row", "stage", "ahead"]) (sc := defScope s_Stages_put) (by decide +kernel)) (fun _ _ _ _ _ => (pg_name (i := 4) sc_Stages_put.nd rfl (.inl rfl))) (fun _ _ _ _ _ => pts_nil) (fun _ _ _ _ _ => (pe_meth (pv 0) T.cl_Stages T.m_Stages_late (ok_Stages_late T) (hr.mono (by decide)) T.b_Stages_late .nil pass0 (pa_cons (pv 4) (pa_cons (pv 3) pa_nil))))) pa_nil))))) pss_nil)
      (pss_one (ps_dput (hu_of hr) (pe_fld (pv 0) rfl) (pe_tup (pa_cons (pv 1) (pa_cons (pv 3) pa_nil))) (pe_meth (pe_fld (pv 0) rfl) T.cl_Sheet T.m_Sheet_add (ok_Sheet_add T) (hr.mono (by decide)) T.b_Sheet_add .nil pass0 (pa_cons (pv 2) pa_nil)) rfl))), ?_⟩
  try dsimp only [cxOf, Cx.nox, Cx.wish]
  simp only [L2.start, List.map_cons, List.map_nil, List.length_cons, List.length_nil, Nat.reduceAdd, Nat.reduceSub, List.replicate_succ, List.replicate_zero, List.cons_append, List.nil_append]
  obtain ⟨hp, ha, I, hr, okr, nlr, hown, hst, hRl, h⟩ := h
  have c1 := T.cl_Stages
  have c2 := T.n_Stages_sheet
  have c3 := T.n_Stages_places
  refine w_cut (fun σ' G => ∃ (p' : Addr) (x' : Row) (R1 : List Row) (P1 : Pl), σ' = [some (.ref s), some (.int (i : Int)), some (.ref p'), some (.int (st i : Int)), none] ∧ RowAt G p' x' ∧ StAt K G s sh r d R1 P1 ∧ StI N rs st i R1 P1 ∧ PlLe P P1 ∧ R1.length ≤ R.length + 2 * st i ∧ RowTo (fun a => P1 a (st i)) x x' ∧ Fr [r, d] H G) ?_ fun σ' G k => ?_
  · walk_at "ws"
    refine ⟨p, x, rfl, hp, fun q G1 n1 s1 e1 => ?_⟩
    have hp1 := s1 _ _ hp
    have ha1 := ha.same s1
    obtain ⟨⟨C, dx, hs, hC⟩, _⟩ := id ha1
    obtain rfl := hC.one T.nc_Stages
    unfold RowAt at hp1
    have lates : ∀ (ws : List Nat) (l : Addr) (H2 : Hp) (Q2 : VK), ws.length ≤ 2 → (∀ a ∈ ws, a ∈ ownR x) → Same G1 H2 → H2 l = some (.tup ((natI ws).map V.int)) → (∀ D zs R1 P1 H', H2 D = none → H' D = some (.lst ((natI zs).map V.int)) → StAt K H' s sh r d R1 P1 → StI N rs st i R1 P1 → PlLe P P1 → R1.length ≤ R.length + ws.length * st i → A2 (fun a z => P1 a (st i) = some z) ws zs → Fr [r, d] H2 H' → Q2 (.ref D) H') →
        LcB (Itt K l) (gName 4) tYes (tMeth T.c_Stages "late" (sp_Stages_late K) [] E0 (tVar 0) (tCons (tVar 4) (tCons (tVar 3) tNil))) [4] [some (.ref s), some (.int (i : Int)), some (.ref p), some (.int (st i : Int)), none] Q2 H2 := by
      intro ws l H2 Q2 hw2 how s12 el k
      have ha2 := ha1.same s12
      refine lc_invT ((natI ws).map V.int) (fun D n ys G => ∃ (R1 : List Row) (P1 : Pl) (zs : List Nat), ys = (natI zs).map V.int ∧ H2 D = none ∧ G D = some (.lst ys) ∧ StAt K G s sh r d R1 P1 ∧ StI N rs st i R1 P1 ∧ PlLe P P1 ∧ R1.length ≤ R.length + n * st i ∧ A2 (fun a z => P1 a (st i) = some z) (ws.take n) zs ∧ Fr [r, d] H2 G) (by rw [List.length_map, natI_len]; omega)
        (fun D nD => ⟨R, P, [], rfl, nD, upd_same, ha2.same (same_upd nD), I, PlLe.refl _, by omega, A2.nil, Fr.of (same_upd nD)⟩) (fun D n ys G pp => ?_) (fun x => rfl) (fun D n x ys G Q3 nD hx pp k3 => ?_) (fun D ys G nD pp => ?_)
      · obtain ⟨R1, P1, zs, rfl, nD, eD, haG, IG, leG, hlG, hA, fG⟩ := pp
        refine ⟨SqT.of (fG _ _ el fun z => ?_), ?_⟩
        · obtain ⟨_, _, ⟨_, q1, _⟩, _, q2, _⟩ := ha2
          rcases List.mem_cons.mp z with z | z
          · rw [z, q1] at el; cases el
          · rw [List.mem_singleton.mp z, q2] at el; cases el
        · have := hA.1
          rw [List.length_take] at this
          rw [List.length_map, natI_len]; omega
      · obtain ⟨R1, P1, zs, rfl, nD, eD, haG, IG, leG, hlG, hA, fG⟩ := pp
        obtain ⟨z, hz, rfl⟩ := get_map hx
        obtain ⟨a, hwa, rfl⟩ := natI_get hz
        have hn := (List.getElem?_eq_some_iff.mp hwa).1
        obtain ⟨⟨y0, hy0⟩, hsa⟩ := hown a (how a (List.mem_of_getElem? hwa))
        obtain ⟨t1, t2, t3, t4⟩ := ha2.trk nD
        have hn2 : n * st i ≤ 2 * st i := Nat.mul_le_mul_right _ (by omega)
        obtain ⟨⟨C, dx2, hs2, hC2⟩, _⟩ := id haG
        obtain rfl := hC2.one T.nc_Stages
        walk_at "ws"
        refine ⟨s, sh, r, d, a, st i, N, rs, st, i, R1, P1, rfl, haG, IG, ⟨y0, leG _ _ _ hy0⟩, hsa, hst, by omega, fun z R' P' H4 I4 le4 hl4 hz4 ha4 f4 => ?_⟩
        have eD4 := f4 _ _ eD (by simpa using ⟨t3, t4⟩)
        refine k3 _ H4 eD4 ⟨R', P', zs ++ [z], by unfold natI; rw [List.map_append, List.map_append]; rfl, nD, upd_same, ha4.fr (ms := [D]) (Fr.put (List.mem_cons_self ..)) (by simpa using t1.symm) (by simpa using t2.symm) (by simpa using t3.symm) (by simpa using t4.symm) (fun p x m e => by
          rw [List.mem_singleton.mp m] at e
          rw [show H4 D = _ from e] at eD4
          cases eD4), I4, leG.trans le4, ?_, ?_, fun b o e m => ?_⟩
        · rw [Nat.succ_mul]; omega
        · rw [take_snoc hwa]
          exact A2.snoc (hA.mono fun a z e => le4 _ _ _ e) hz4
        · rw [upd_ne (fun z => by rw [z, nD] at e; cases e)]
          exact (fG.trans f4) b o e m
      · obtain ⟨R1, P1, zs, rfl, nD, eD, haG, IG, leG, hlG, hA, fG⟩ := pp
        rw [List.length_map, natI_len] at hlG
        rw [List.length_map, natI_len, List.take_of_length_le (Nat.le_refl _)] at hA
        exact k D zs R1 P1 G nD eD haG IG leG hlG hA fG
    cases x with
    | fix b =>
      walk_at "ws"
      exact ⟨p, .fix b, R, P, rfl, hp1, ha1, I, PlLe.refl _, by omega, .fix b, Fr.of s1⟩
    | inn n k =>
      walk_at "ws"
      exact ⟨p, .inn n k, R, P, rfl, hp1, ha1, I, PlLe.refl _, by omega, .inn n k, Fr.of s1⟩
    | inv a =>
      walk_at "ws"
      rename_i p2 G2 n2 s2 e2 l G3 n3 s3 e3
      refine lates [a] l G3 _ (Nat.le_of_ble_eq_true rfl) (fun b m => m) (s2.trans s3) e3 fun D zs R1 P1 G4 nD eD ha4 I4 le4 hl4 hA4 f4 => ?_
      obtain ⟨z, rfl⟩ : ∃ z, zs = [z] := by
        have := hA4.1
        match zs, this with
        | [z], _ => exact ⟨z, rfl⟩
      have hz : P1 a (st i) = some z := hA4.2 0 a z rfl rfl
      have p2n : p2 ∉ [r, d] := fun q => by
        have := (ha1.trk n2).2.2
        rcases List.mem_cons.mp q with q | q
        · exact this.1 q
        · exact this.2 (List.mem_singleton.mp q)
      have e24 := f4 _ _ (s3 _ _ e2) p2n
      walk_at "ws"
      rename_i pt G5 n5 s5 e5
      have e25 := s5 _ _ e24
      refine w_catT (SqT.of e25) (SqT.of e5) (by intro z; cases z) (by intro z; cases z) (Nat.le_of_ble_eq_true rfl) fun pu G6 n6 s6 e6 => ?_
      have s56 := s5.trans s6
      have hl4 : R1.length ≤ R.length + 1 * st i := hl4
      exact ⟨pu, .inv z, R1, P1, rfl, e6, ha4.same s56, I4, le4, by omega, .inv hz, (((Fr.of s1).trans (Fr.of (s2.trans s3))).trans f4).trans (Fr.of s56)⟩
    | bin c a b =>
      cases c <;>
      · walk_at "ws"
        rename_i p2 G2 n2 s2 e2 l G3 n3 s3 e3
        refine lates [a, b] l G3 _ (Nat.le_of_ble_eq_true rfl) (fun b m => m) (s2.trans s3) e3 fun D zs R1 P1 G4 nD eD ha4 I4 le4 hl4 hA4 f4 => ?_
        obtain ⟨z, u, rfl⟩ : ∃ z u, zs = [z, u] := by
          have := hA4.1
          match zs, this with
          | [z, u], _ => exact ⟨z, u, rfl⟩
        have hz : P1 a (st i) = some z := hA4.2 0 a z rfl rfl
        have hu : P1 b (st i) = some u := hA4.2 1 b u rfl rfl
        have p2n : p2 ∉ [r, d] := fun q => by
          have := (ha1.trk n2).2.2
          rcases List.mem_cons.mp q with q | q
          · exact this.1 q
          · exact this.2 (List.mem_singleton.mp q)
        have e24 := f4 _ _ (s3 _ _ e2) p2n
        walk_at "ws"
        rename_i pt G5 n5 s5 e5
        have e25 := s5 _ _ e24
        refine w_catT (SqT.of e25) (SqT.of e5) (by intro z; cases z) (by intro z; cases z) (Nat.le_of_ble_eq_true rfl) fun pu G6 n6 s6 e6 => ?_
        have s56 := s5.trans s6
        have hl4 : R1.length ≤ R.length + 2 * st i := hl4
        exact ⟨pu, .bin _ z u, R1, P1, rfl, e6, ha4.same s56, I4, le4, by omega, .bin _ hz hu, (((Fr.of s1).trans (Fr.of (s2.trans s3))).trans f4).trans (Fr.of s56)⟩
    | lat a => exact nlr.elim
  obtain ⟨p', x', R1, P1, rfl, hp', ha2, I2, le2, hl2, t2, f2⟩ := k
  obtain ⟨⟨C, dx2, hs2, hC2⟩, hsh2, hM2, kvs2, hd2, hkl2, hkv2⟩ := id ha2
  obtain rfl := hC2.one T.nc_Stages
  obtain ⟨C, dxs2, es2, eCs⟩ := id hsh2
  obtain rfl := eCs.one T.nc_Sheet
  obtain ⟨psr, er2, hAr⟩ := id hM2
  have sr : s ≠ r := ne_of hs2 er2 (by intro z; cases z)
  have dr : d ≠ r := ne_of hd2 er2 (by intro z; cases z)
  have sd : s ≠ d := ne_of hs2 hd2 (by intro z; cases z)
  have shd : sh ≠ d := ne_of es2 hd2 (by intro z; cases z)
  walk_at "ws"
  refine use_add hsh2 hM2 hp' (by omega) fun G5 hsh5 hM5 f5 => ?_
  have hs5 := f5 _ _ hs2 (by simpa using sr)
  have hd5 := f5 _ _ hd2 (by simpa using dr)
  walk_at "ws"
  rename_i p6 G6 n6 s6 e6
  have e6' : G6 p6 = some (.tup ((kP i (st i)).map kV)) := e6
  refine w_DPutT (s6 _ _ hd5) e6' (by omega) ?_
  have hn1 : P1 i (st i) = none := by
    cases e : P1 i (st i) with
    | none => rfl
    | some x => have := (I2.dom _ _ _ e).1; omega
  have fd : Fr [d] G6 (upd G6 d (.dT (putK kvs2 (kP i (st i)) (.int (R1.length : Int))))) := Fr.put (List.mem_cons_self ..)
  have hd6 := s6 _ _ hd5
  refine h (R1 ++ [x']) (setP P1 i (st i) R1.length) _ (I2.put hr okr t2) (le2.trans (setP_keep hn1)) (by rw [List.length_append, List.length_singleton]; omega) ⟨_, setP_hit ..⟩ ⟨⟨T.c_Stages, dx2, fd _ _ (s6 _ _ hs5) (by simpa using sd), hC2⟩, (hsh5.same s6).fr fd (by simpa using shd), (hM5.same s6).fr fd (by simpa using dr.symm) (fun p x m e => by rw [List.mem_singleton.mp m] at e; rw [show G6 d = _ from e] at hd6; cases hd6), ?_⟩ ?_
  · rw [List.length_append, List.length_singleton]
    exact PlAt.put hkl2 hkv2 hn1 upd_same
  · exact (f2.trans (f5.mono fun m hm => by rw [List.mem_singleton.mp hm]; exact List.mem_cons_self ..)).trans ((Fr.of s6).trans (fd.mono fun m hm => by rw [List.mem_singleton.mp hm]; exact List.mem_cons_of_mem _ (List.mem_cons_self ..)))

def stI (d m : Int) : Int := if d = 0 then 0 else (d - 1) / m
theorem stI_nn {d m : Int} (h : 0 ≤ d) (hm : 1 ≤ m) : 0 ≤ stI d m := by
  unfold stI
  split
  · exact Int.le_refl _
  · exact Int.ediv_nonneg (by omega) (by omega)
theorem stI_le {d m : Int} (h : 0 ≤ d) (hm : 1 ≤ m) : stI d m ≤ d := by
  unfold stI
  split
  · omega
  · have := Int.ediv_le_self (a := d - 1) m (by omega)
    omega
theorem stI_mono {d e m : Int} (h : 0 ≤ d) (hde : d ≤ e) (hm : 1 ≤ m) : stI d m ≤ stI e m := by
  unfold stI
  by_cases q : d = 0
  · rw [if_pos q]
    have := stI_nn (d := e) (m := m) (by omega) hm
    exact this
  · rw [if_neg q, if_neg (by omega)]
    exact Int.ediv_le_ediv (by omega) (by omega)
theorem dep_at2 {ks : List Row} {w : Nat} (h : w < ks.length) : atI ((depthL ks).map V.int) (w : Int) = some (.int (dep ks w)) := by
  rw [bit_get (by rw [show (depthL ks).length = ks.length from runL_len ..]; exact h)]
  rfl
def stN (rs : List Row) (m : Int) (w : Nat) : Nat := (stI (dep rs w) m).toNat
def sp_stage_of (K : PySem.W.Frag) : Sp := fun vs H Q _ => ∃ (d m : Int), vs = [.int d, .int m] ∧ 0 ≤ d ∧ d ≤ 1000000 ∧ 1 ≤ m ∧ Builtin.Int.intBits m ≤ 1000 ∧ Q (.int (stI d m)) H
theorem ok_stage_of (T : Top K mg) : FnOk P w K mg base CX0 1 T.a_stage_of T.d_stage_of ["deep", "most"] (sp_stage_of K) := by
  refine T.f_stage_of.ok sc_stage_of (fun vs H Q E h => ?_) (fun cdv A outer s H vs Q E hr h => ?_)
  · obtain ⟨d, m, rfl, _⟩ := h
    rfl
  obtain ⟨d, m, rfl, h⟩ := h
  refine ⟨_, (pss_cons (ps_if (pt_cmpR op_eq (pv 0) pe_int (nomark _)) (pss_one (ps_ret pe_int)) pss_nil)
      (pss_one (ps_ret (pe_op op_fdivW (pe_op op_sub (pv 0) pe_int) (pv 1))))), ?_⟩
  try dsimp only [cxOf, Cx.nox, Cx.wish]
  simp only [L2.start, List.map_cons, List.map_nil, List.length_cons, List.length_nil, Nat.reduceAdd, Nat.reduceSub, List.replicate_succ, List.replicate_zero, List.cons_append, List.nil_append]
  obtain ⟨h0, h1, hm, hb, h⟩ := h
  have hw : m.natAbs < 2 ^ 1000 := by rw [ib_abs] at hb; exact hb
  walk_at "ws"
  · rename_i q
    have e : stI d m = 0 := by unfold stI; rw [if_pos q]
    rw [e] at h
    exact h
  · rename_i q
    have e : stI d m = (d - 1) / m := by unfold stI; rw [if_neg q]
    rw [e] at h
    exact ⟨_, _, rfl, rfl, wide_div (by omega) hw (by decide) (by decide), h⟩
def sp_staged (K : PySem.W.Frag) : Sp := fun vs H Q _ => ∃ (a b : Addr) (rs : List Row) (os : List Nat) (m : Int) (D : Nat) (N : Str → Prop), vs = [.ref a, .ref b, .int m] ∧ RowsL K H a rs ∧ SqL K H b ((natI os).map V.int) ∧ RowsOk N rs ∧ NoLats rs ∧ rs.length ≤ 60000 ∧ (∀ o ∈ os, o < rs.length) ∧ os.length ≤ 60000 ∧ 1 ≤ m ∧ Builtin.Int.intBits m ≤ 1000 ∧ (∀ w, w < rs.length → dep rs w ≤ D) ∧ D ≤ 1000 ∧ rs.length * (2 * D + 1) + os.length * D ≤ 400000 ∧
  ∀ (R : List Row) (P : Pl) (late : Int) (new : List Nat) (t q u : Addr) H', StI N rs (stN rs m) rs.length R P → late ∈ 0 :: os.map (fun o => stI (dep rs o) m) → (∀ z ∈ 0 :: os.map (fun o => stI (dep rs o) m), z ≤ late) → A2 (fun o x => P o late.toNat = some x) os new → R.length ≤ rs.length * (2 * D + 1) + os.length * D → H q = none → H u = none → q ≠ u → H' t = some (.tup [.ref q, .ref u, .int late]) → RowsM H' q R → NatsAt H' u new → Same H H' → Q (.ref t) H'
theorem ok_staged (T : Top K mg) : FnOk P w K mg base CX0 5 T.a_staged T.d_staged ["rows", "outs", "most"] (sp_staged K) := by
  refine T.f_staged.ok sc_staged (fun vs H Q E h => ?_) (fun cdv A outer s H vs Q E hr h => ?_)
  · obtain ⟨a, b, rs, os, m, D, N, rfl, _⟩ := h
    rfl
  obtain ⟨a, b, rs, os, m, D, N, rfl, h⟩ := h
  refine ⟨_, (pss_cons (ps_set (i := 3) sc_staged.nd rfl (.inr rfl) (pe_call (ok_depths T) (hr.mono (by decide)) (by rfl) T.g_depths T.f_depths.kp T.b_depths .nil pass0 (pa_cons (pv 0) pa_nil)))
      (pss_cons (ps_set (i := 4) sc_staged.nd rfl (.inl rfl) (pe_call (ok_needed T) (hr.mono (by decide)) (by rfl) T.g_needed T.f_needed.kp T.b_needed .nil pass0 (pa_cons (pv 0) (pa_cons (pv 1) pa_nil))))
      (pss_cons (ps_set (i := 5) sc_staged.nd rfl (.inr rfl) (pe_make0 T.mk_Stages (ok_Stages__init T) (hr.mono (by decide)) (by rfl) T.gc_Stages T.b_Stages__init .nil pass0))
      (pss_cons (ps_for PassesOwn.never rfl (pi_enum (by rfl) T.z_enumerate (pa_cons (pv 0) pa_nil)) (pg_tup (by rfl) (pgs_cons (pg_name (i := 6) sc_staged.nd rfl (.inl rfl)) (pgs_cons (pg_name (i := 7) sc_staged.nd rfl (.inl rfl)) pgs_nil)))
      (pss_one (ps_if (pt_val (pe_ix (ix_listK K) (pv 4) (pv 6) (fun _ _ => rfl))) (pss_one (ps_expr (pe_meth (pv 5) T.cl_Stages T.m_Stages_put (ok_Stages_put T) (hr.mono (by decide)) T.b_Stages_put .nil pass0 (pa_cons (pv 6) (pa_cons (pv 7) (pa_cons (pe_call (ok_stage_of T) (hr.mono (by decide)) (by rfl) T.g_stage_of T.f_stage_of.kp T.b_stage_of .nil pass0 (pa_cons (pe_ix (ix_listK K) (pv 3) (pv 6) (fun _ _ => rfl)) (pa_cons (pv 2) pa_nil))) pa_nil)))))) pss_nil)))
      (pss_cons (ps_set (i := 8) sc_staged.nd rfl (.inr rfl) (pe_callB (c_maxK K) (by rfl) T.z_max (by decide +kernel) (pa_cons (pe_op op_cat (pe_lst (pa_cons pe_int pa_nil)) (pe_lc (own := [("wire", 6)]) (g := gName 6) (tt := tYes) (by rfl) sc_staged.nd (pi_list (pv 1)) (blkOk_by (N := ["rows", "outs", "most", "deep", "wanted", "stages", "wire", "row", "late", "new"]) (sc := defScope s_staged) (by decide +kernel)) (fun _ _ _ _ _ => (pg_name (i := 6) sc_staged.nd rfl (.inl rfl))) (fun _ _ _ _ _ => pts_nil) (fun _ _ _ _ _ => (pe_call (ok_stage_of T) (hr.mono (by decide)) (by rfl) T.g_stage_of T.f_stage_of.kp T.b_stage_of .nil pass0 (pa_cons (pe_ix (ix_listK K) (pv 3) (pv 6) (fun _ _ => rfl)) (pa_cons (pv 2) pa_nil)))))) pa_nil)))
      (pss_cons (ps_setLc (i := 9) (own := [("wire", 6)]) (g := gName 6) (tt := tYes) (by rfl) sc_staged.nd rfl rfl (sw_true rfl rfl rfl (by decide +kernel)) (pi_list (pv 1)) (blkOk_by (N := ["rows", "outs", "most", "deep", "wanted", "stages", "wire", "row", "late", "new"]) (sc := defScope s_staged) (by decide +kernel)) (fun _ _ _ _ _ => (pg_name (i := 6) sc_staged.nd rfl (.inl rfl))) (fun _ _ _ _ _ => pts_nil) (fun _ _ _ _ _ => (pe_meth (pv 5) T.cl_Stages T.m_Stages_late (ok_Stages_late T) (hr.mono (by decide)) T.b_Stages_late .nil pass0 (pa_cons (pv 6) (pa_cons (pv 8) pa_nil)))))
      (pss_one (ps_ret (pe_tup (pa_cons (pe_meth0 (pe_fld (pv 5) rfl) T.cl_Sheet T.m_Sheet_rows_now (ok_Sheet_rows_now T) (hr.mono (by decide)) T.b_Sheet_rows_now .nil pass0) (pa_cons (pv 9) (pa_cons (pv 8) pa_nil)))))))))))), ?_⟩
  try dsimp only [cxOf, Cx.nox, Cx.wish]
  simp only [L2.start, List.map_cons, List.map_nil, List.length_cons, List.length_nil, Nat.reduceAdd, Nat.reduceSub, List.replicate_succ, List.replicate_zero, List.cons_append, List.nil_append]
  obtain ⟨hRL, hO, ok, nl, hrl, ho, hol, hm, hmb, hD, hD1, hsz, h⟩ := h
  obtain ⟨psr, hSr, hAr⟩ := id hRL
  have hprl : (psr.map V.ref).length = rs.length := by rw [List.length_map, hAr.1]
  have dnn := fun w => dep_nn ok w
  have c0 := T.cl_Stages
  have c2 := T.n_Stages_sheet
  walk_at "ws"
  refine ⟨a, rs, N, rfl, hRL, ok, hrl, fun dp H1 n1 s1 e1 => ?_⟩
  walk_at "ws"
  refine ⟨a, b, rs, os, N, rfl, hRL.same s1, s1.seq hO, ok, hrl, ho, fun fs wp H2 need n2 s2 e2 => ?_⟩
  walk_at "ws"
  rename_i s dxs H3 n3 nd3 s3 e3
  refine ⟨s, T.c_Stages, dxs, rfl, e3, T.nc_Stages, fun sh r d H4 nsh nr nd hst4 f4 => ⟨rfl, ?_⟩⟩
  have s12 := s1.trans s2
  have s24 : Same H2 H4 := Fr.same f4 s3 (fun x hx => by rw [List.mem_singleton.mp hx]; exact n3)
  have nr2 : H2 r = none := s3.free nr
  have nd2 : H2 d = none := s3.free nd
  have e12 := s2 _ _ e1
  have hfl : fs.length = rs.length := need.1
  walk_at "ws"
  refine for_e (psr.map V.ref) (fun i σ' G => ∃ (R : List Row) (P : Pl) (y6 y7 : Option V), σ' = [some (.ref a), some (.ref b), some (.int m), some (.ref dp), some (.ref wp), some (.ref s), y6, y7, none, none] ∧ StAt K G s sh r d R P ∧ StI N rs (stN rs m) i R P ∧ R.length ≤ i * (2 * D + 1) ∧ (∀ w, w < i → fs[w]? = some true → ∃ x, P w (stN rs m w) = some x) ∧ Same H2 G)
    ⟨[], _, _, _, rfl, hst4, StI.start .., by simp, fun w hw => absurd hw (Nat.not_lt_zero _), s24⟩ (fun i σ' G _ q => ?_) (fun i x σ' G0 G hx q sG => ?_) (fun σ' G q => ?_)
  · obtain ⟨R, P, y6, y7, rfl, _, _, _, _, sm⟩ := q
    exact (s12.trans sm).seq hSr
  · obtain ⟨R, P, y6, y7, rfl, ha0, I, hRl, hdone, sm0⟩ := q
    obtain ⟨p, hp, rfl⟩ := get_map hx
    obtain ⟨x, hxr, hpx⟩ := hAr.get hp
    have hi := (List.getElem?_eq_some_iff.mp hxr).1
    have sm := sm0.trans sG
    have ha := ha0.same sG
    have ewp := sm _ _ e2
    have edp := sm _ _ e12
    obtain ⟨⟨C, dx2, hs2, hC2⟩, _⟩ := id ha
    obtain rfl := hC2.one T.nc_Stages
    have hst0 := stI_nn (dnn i) hm
    have hstl := stI_le (dnn i) hm
    have hDi := hD i hi
    have est : stI (dep rs i) m = ((stN rs m i : Nat) : Int) := (Int.toNat_of_nonneg hst0).symm
    have hmul : i * (2 * D + 1) ≤ rs.length * (2 * D + 1) := Nat.mul_le_mul_right _ (by omega)
    walk_at "ws"
    refine w_ixL (SqL.of ewp) (bl_at (by omega)) ?_
    refine ⟨_, rfl, ?_⟩
    by_cases hfi : fs[i] = true
    · rw [if_pos hfi]
      have hfi2 : fs[i]? = some true := by rw [List.getElem?_eq_getElem (by omega), hfi]
      walk_at "ws"
      refine w_ixL (SqL.of edp) (dep_at2 hi) ?_
      walk_at "ws"
      refine ⟨dep rs i, m, rfl, dnn i, by omega, hm, hmb, ?_⟩
      rw [est]
      walk_at "ws"
      refine ⟨s, sh, r, d, p, i, x, N, rs, stN rs m, R, P, rfl, (s12.trans sm) _ _ hpx, ha, I, hxr, ok i x hxr, nl x (List.mem_of_getElem? hxr), fun c hc => ?_, by omega, by omega, fun R' P' G' I' le' hl' hput ha' f' => ?_⟩
      · have hci := own_lt (ok i x hxr) c hc
        refine ⟨hdone c hci ((need.2 c (by omega)).mpr (.inr ⟨i, x, by omega, hxr, hc, hfi2⟩)), ?_⟩
        have hd := dep_own ok hxr hc
        have := stI_mono (dnn c) (show dep rs c ≤ dep rs i by omega) hm
        unfold stN
        omega
      · refine ⟨R', P', _, _, rfl, ha', I', by rw [Nat.succ_mul]; omega, fun w hw hfw => ?_, Fr.same f' sm (fun y hy => by
          rcases List.mem_cons.mp hy with z | z
          · rw [z]; exact nr2
          · rw [List.mem_singleton.mp z]; exact nd2)⟩
        by_cases q : w < i
        · obtain ⟨y, e⟩ := hdone w q hfw
          exact ⟨y, le' _ _ _ e⟩
        · rw [show w = i by omega]; exact hput
    · rw [if_neg hfi]
      refine ⟨R, P, _, _, rfl, ha, I.skip, by rw [Nat.succ_mul]; omega, fun w hw hfw => ?_, sm⟩
      by_cases q : w < i
      · exact hdone w q hfw
      · rw [show w = i by omega, List.getElem?_eq_getElem (by omega)] at hfw
        exact absurd (Option.some.inj hfw) hfi
  · obtain ⟨R, P, y6, y7, rfl, ha, I, hRl, hdone, sm⟩ := q
    rw [hprl] at I hRl hdone
    have edp := sm _ _ e12
    walk_at "ws"
    rename_i p5 G5 n5 s5 e5
    refine lc_l ((natI os).map V.int) ((os.map fun o => stI (dep rs o) m).map V.int) (by rw [List.length_map, List.length_map, List.length_map, natI_len]) (((s12.trans sm).trans s5).seq hO) (by rw [List.length_map, natI_len]; omega) (fun x => rfl) (fun n x y G' Q' hx hy s6 k => ?_) (fun p6 G6 n6 s6 e6 => ?_)
    · obtain ⟨z, hz, rfl⟩ := get_map hx
      obtain ⟨o, hu, rfl⟩ := natI_get hz
      rw [List.getElem?_map, List.getElem?_map, hu] at hy
      cases hy
      have hol2 := ho o (List.mem_of_getElem? hu)
      have hDo := hD o hol2
      walk_at "ws"
      refine w_ixL (SqL.of (s6 _ _ (s5 _ _ edp))) (dep_at2 hol2) ?_
      walk_at "ws"
      exact ⟨dep rs o, m, rfl, dnn o, by omega, hm, hmb, k⟩
    refine w_cat (s6 _ _ e5) e6 (by simp only [List.length_map, List.length_cons, List.length_nil]; omega) fun p7 G7 n7 s7 e7 => ?_
    walk_at "ws"
    have e7' : G7 p7 = some (.lst ((0 :: os.map fun o => stI (dep rs o) m).map V.int)) := by rw [e7]; rfl
    refine w_maxL (SqL.of e7') (Nat.succ_pos _) fun late hm1 hm2 => ?_
    have hl0 : 0 ≤ late := hm2 0 (List.mem_cons_self ..)
    have hlD : late ≤ D := by
      rcases List.mem_cons.mp hm1 with z | z
      · omega
      · obtain ⟨o, mo, rfl⟩ := List.mem_map.mp z
        have := hD o (ho o mo)
        have := stI_le (dnn o) hm
        omega
    obtain ⟨L, rfl⟩ := Int.eq_ofNat_of_zero_le hl0
    have s27 := ((sm.trans s5).trans s6).trans s7
    have ha7 := ha.same ((s5.trans s6).trans s7)
    have hn : ∀ y ∈ [r, d], H2 y = none := fun y hy => by
      rcases List.mem_cons.mp hy with z | z
      · rw [z]; exact nr2
      · rw [List.mem_singleton.mp z]; exact nd2
    walk_at "ws"
    refine lc_inv ((natI os).map V.int) (fun B n ys G => ∃ (R1 : List Row) (P1 : Pl) (zs : List Nat), ys = (natI zs).map V.int ∧ G7 B = none ∧ G B = some (.lst ys) ∧ StAt K G s sh r d R1 P1 ∧ StI N rs (stN rs m) rs.length R1 P1 ∧ PlLe P P1 ∧ R1.length ≤ R.length + n * D ∧ A2 (fun o x => P1 o L = some x) (os.take n) zs ∧ Same H2 G) (by rw [List.length_map, natI_len]; omega)
      (fun B nB => ⟨R, P, [], rfl, nB, upd_same, ha7.same (same_upd nB), I, PlLe.refl _, by omega, A2.nil, s27.trans (same_upd nB)⟩) (fun B n ys G pp => ?_) (fun x => rfl) (fun B n x ys G Q3 nB hx pp k3 => ?_) (fun B ys G nB pp => ?_)
    · obtain ⟨R1, P1, zs, rfl, nB, eB, haG, IG, leG, hlG, hA, sG⟩ := pp
      refine ⟨(s12.trans sG).seq hO, ?_⟩
      have := hA.1
      rw [List.length_take] at this
      rw [List.length_map, natI_len]; omega
    · obtain ⟨R1, P1, zs, rfl, nB, eB, haG, IG, leG, hlG, hA, sG⟩ := pp
      obtain ⟨z, hz, rfl⟩ := get_map hx
      obtain ⟨o, hwo, rfl⟩ := natI_get hz
      have hn' := (List.getElem?_eq_some_iff.mp hwo).1
      have hom := List.mem_of_getElem? hwo
      obtain ⟨y0, hy0⟩ := hdone o (ho o hom) ((need.2 o (ho o hom)).mpr (.inl hom))
      have hst1 := hm2 _ (List.mem_cons_of_mem _ (List.mem_map.mpr ⟨o, hom, rfl⟩))
      obtain ⟨t1, t2, t3, t4⟩ := ha7.trk nB
      have hnD : n * D ≤ os.length * D := Nat.mul_le_mul_right _ (by omega)
      obtain ⟨⟨C, dx2, hs2, hC2⟩, _⟩ := id haG
      obtain rfl := hC2.one T.nc_Stages
      walk_at "ws"
      refine ⟨s, sh, r, d, o, L, N, rs, stN rs m, rs.length, R1, P1, rfl, haG, IG, ⟨y0, leG _ _ _ hy0⟩, by unfold stN; omega, by omega, by omega, fun z R' P' H4 I4 le4 hl4 hz4 ha4 f4 => ?_⟩
      have eB4 := f4 _ _ eB (by simpa using ⟨t3, t4⟩)
      refine k3 _ H4 eB4 ⟨R', P', zs ++ [z], by unfold natI; rw [List.map_append, List.map_append]; rfl, nB, upd_same, ha4.fr (ms := [B]) (Fr.put (List.mem_cons_self ..)) (by simpa using t1.symm) (by simpa using t2.symm) (by simpa using t3.symm) (by simpa using t4.symm) (fun p x m e => by
        rw [List.mem_singleton.mp m] at e
        rw [show H4 B = _ from e] at eB4
        cases eB4), I4, leG.trans le4, ?_, ?_, same_mut (Fr.same f4 sG hn) (s27.free nB)⟩
      · rw [Nat.succ_mul]; omega
      · rw [take_snoc hwo]
        exact A2.snoc (hA.mono fun a z e => le4 _ _ _ e) hz4
    obtain ⟨R1, P1, zs, rfl, nB, eB, haG, IG, leG, hlG, hA, sG⟩ := pp
    rw [List.length_map, natI_len] at hlG
    rw [List.length_map, natI_len, List.take_of_length_le (Nat.le_refl _)] at hA
    obtain ⟨⟨C, dx2, hs2, hC2⟩, hsh2, hM2, _⟩ := id haG
    obtain rfl := hC2.one T.nc_Stages
    obtain ⟨C, dxs2, es2, eCs⟩ := id hsh2
    obtain rfl := eCs.one T.nc_Sheet
    walk_at "ws"
    refine use_now hsh2 hM2 (by omega) fun q G8 n8 s8 hM8 => ?_
    have eB8 := s8 _ _ eB
    walk_at "ws"
    rename_i pt G9 n9 s9 e9
    have s29 := ((s12.trans sG).trans s8).trans s9
    exact h R1 P1 L zs pt q B G9 IG hm1 hm2 hA (by omega) ((s12.trans sG).free n8) ((s12.trans s27).free nB) (fun z => by rw [z, eB] at n8; cases n8) e9 (hM8.same s9) (s9 _ _ eB8) s29

/-! what is looked at of new rows -/
theorem lc_none {K : PySem.W.Frag} {σ : L2.St} {H : Hp} {Q : VK} {tt : TT} {te : TE} {vs : List Nat} {a : Addr} {j : Nat} (xs : List V) (hS : SqL K H a xs) (hw : ∀ x, wipe ((wipe σ vs).set j (some x)) vs = wipe σ vs)
    (he : ∀ (i : Nat) x H' (QB : Bool → Hp → Prop), xs[i]? = some x → Same H H' → QB false H' → tt ((wipe σ vs).set j (some x)) H' QB)
    (q : ∀ p H', H p = none → Same H H' → H' p = some (.lst []) → Q (.ref p) H') : LcB (Itl K a) (gName j) tt te vs σ Q H := fun p hp =>
  lc_list (xs := xs) (fun i H' => H' = upd H p (.lst [])) rfl (fun i H' _ e => by
    subst e
    exact (same_upd hp).seq hS) (fun i x H' hx e => by
    subst e
    show wipe ((wipe σ vs).set j (some x)) vs = wipe σ vs ∧ tt ((wipe σ vs).set j (some x)) (upd H p (.lst []))
      (fun b H3 => if b = true then te ((wipe σ vs).set j (some x)) H3 (fun y H4 => ∃ acc, H4 p = some (.lst acc) ∧ acc.length < sizeLine ∧ upd H4 p (.lst (acc ++ [y])) = upd H p (.lst [])) else H3 = upd H p (.lst []))
    exact ⟨hw _, he i x _ _ hx (same_upd hp) (w_itF rfl)⟩) fun H' e => by
    subst e
    exact q p _ hp (same_upd hp) upd_same
theorem w_pts {t : TT} {u : TT} {σ : L2.St} {H : Hp} {QB : Bool → Hp → Prop} (h : t σ H QB) : t σ H QB := h
theorem room65 {k : Nat} {A : Around} (hr : Room k A) : A.units + 65 < cLine := by
  have := hr.un
  omega
theorem op_inDK {X : Cx} (hu : X.A.units + 65 < cLine) (K : PySem.W.Frag) (e : X.K = K := by rfl) : OpR X (compareOp .In) (rInD K) := by subst e; exact op_inD hu
theorem w_inD {K : PySem.W.Frag} {H : Hp} {Q : VK} {x y : V} {d : PyData} {ds : List PyData} (hx : Dp K H x d) (hy : Dp K H y (.list ds)) (sd : SeqAt.shaped d = true) (se : SeqAt.shaped (.list ds) = true) (m : d ∈ ds) (q : Q (.bl true) H) : rInD K x y H Q :=
  ⟨d, ds, hx, hy, sd, se, by
    have e : (ds.any fun z => PyData.eqv z d) = true := List.any_eq_true.mpr ⟨d, m, SeqAt.eqv_refl d (SeqAt.canLay_of_shaped sd)⟩
    rw [e]
    exact q⟩
theorem shaped_row {r : Row} (h : NmOk r) : SeqAt.shaped (rowD r) = true := by
  unfold SeqAt.shaped
  rw [lay_row h, Bool.true_and]
  have := depth_row r
  exact decide_eq_true (by omega)
def sp_law_wire (K : PySem.W.Frag) : Sp := fun vs H Q _ => ∃ (x n : Int), vs = [.int x, .int n] ∧ 0 ≤ x ∧ x < n ∧ Q (.bl true) H
theorem ok_law_wire (T : Top K mg) : FnOk P w K mg base CX0 2 T.a_law_wire T.d_law_wire ["_law_found", "_law_at_here"] (sp_law_wire K) := by
  refine T.f_law_wire.ok sc_law_wire (fun vs H Q E h => ?_) (fun cdv A outer s H vs Q E hr h => ?_)
  · obtain ⟨x, n, rfl, _⟩ := h
    rfl
  obtain ⟨x, n, rfl, h⟩ := h
  refine ⟨_, (pss_one (ps_ret (pe_and (pe_call (ok_law_whole T) (hr.mono (by decide)) (by rfl) T.g_law_whole T.f_law_whole.kp T.b_law_whole .nil pass0 (pa_cons (pv 0) pa_nil)) (pe_and (pe_cmpR op_le pe_int (pv 0) (nomark _)) (pe_one (pe_cmpR op_lt (pv 0) (pv 1) (nomark _))))))), ?_⟩
  try dsimp only [cxOf, Cx.nox, Cx.wish]
  simp only [L2.start, List.map_cons, List.map_nil, List.length_cons, List.length_nil, Nat.reduceAdd, Nat.reduceSub, List.replicate_succ, List.replicate_zero, List.cons_append, List.nil_append]
  obtain ⟨h0, h1, h⟩ := h
  walk_at "ws"
  rw [decide_eq_true h1]
  exact h
theorem use_wire {x n : Int} {H : Hp} {Q : VK} {E : XK} (h0 : 0 ≤ x ∧ x < n) (h : Q (.bl true) H) : sp_law_wire K ([.int x, .int n] ++ []) H Q E := ⟨x, n, rfl, h0.1, h0.2, h⟩
local macro_rules | `(tactic| walk_at "w1") => `(tactic| ((with_reducible refine use_wire ?_ ?_); omega))

def sp_law_fine_row (K : PySem.W.Frag) : Sp := fun vs H Q _ => ∃ (p a : Addr) (i : Nat) (r : Row) (old : List Row) (N : Str → Prop), vs = [.ref p, .int (i : Int), .ref a] ∧ RowAt H p r ∧ RowsL K H a old ∧ RowOk N i r ∧ (∀ n k, r = .inn n k → r ∈ old) ∧ (∀ x ∈ old, NmOk x) ∧ ∀ H', Same H H' → Q (.bl true) H'
theorem ok_law_fine_row (T : Top K mg) : FnOk P w K mg base CX0 3 T.a_law_fine_row T.d_law_fine_row ["_law_row", "_law_at_here", "_law_ins_here"] (sp_law_fine_row K) := by
  refine T.f_law_fine_row.ok sc_law_fine_row (fun vs H Q E h => ?_) (fun cdv A outer s H vs Q E hr h => ?_)
  · obtain ⟨p, a, i, r, old, N, rfl, _⟩ := h
    rfl
  obtain ⟨p, a, i, r, old, N, rfl, h⟩ := h
  refine ⟨_, (pss_cons (ps_if (PW.pt (pw_or (pt_not (pt_val (pe_callB (c_isiK K) (by rfl) T.z_isinstance (by decide +kernel) (pa_cons (pv 0) (pa_cons (pe_bltn (v := .ty "tuple") (by rfl) T.z_tuple (by decide +kernel) rfl) pa_nil))))) (pw_or (pt_cmpR op_lt (pe_callB (c_lenK K) (by rfl) T.z_len PySem.boot_len (pa_cons (pv 0) pa_nil)) pe_int (nomark _)) (pw_or1 (pt_not (pt_val (pe_callB (c_isiK K) (by rfl) T.z_isinstance (by decide +kernel) (pa_cons (pe_ix (ix_tupK K) (pv 0) pe_int (fun _ _ => rfl)) (pa_cons (pe_bltn (v := .ty "str") (by rfl) T.z_str (by decide +kernel) rfl) pa_nil))))))))) (pss_one (ps_ret pe_bl)) pss_nil)
      (pss_cons (ps_if (pt_cmpR op_eq (pe_ix (ix_tupK K) (pv 0) pe_int (fun _ _ => rfl)) pe_str (nomark _)) (pss_one (ps_ret (pe_and (pe_cmpR op_eq (pe_callB (c_lenK K) (by rfl) T.z_len PySem.boot_len (pa_cons (pv 0) pa_nil)) pe_int (nomark _)) (pe_and (pe_call (ok_law_whole T) (hr.mono (by decide)) (by rfl) T.g_law_whole T.f_law_whole.kp T.b_law_whole .nil pass0 (pa_cons (pe_ix (ix_tupK K) (pv 0) pe_int (fun _ _ => rfl)) pa_nil)) (pe_one (pe_or (pe_cmpR op_eq (pe_ix (ix_tupK K) (pv 0) pe_int (fun _ _ => rfl)) pe_int (nomark _)) (pe_one (pe_cmpR op_eq (pe_ix (ix_tupK K) (pv 0) pe_int (fun _ _ => rfl)) pe_int (nomark _))))))))) pss_nil)
      (pss_cons (ps_if (pt_cmpR op_eq (pe_ix (ix_tupK K) (pv 0) pe_int (fun _ _ => rfl)) pe_str (nomark _)) (pss_one (ps_ret (pe_and (pe_cmpR (op_inDK (room65 hr) K) (pv 0) (pv 2) (by rfl)) (pe_and (pe_callB (c_isiK K) (by rfl) T.z_isinstance (by decide +kernel) (pa_cons (pe_ix (ix_tupK K) (pv 0) pe_int (fun _ _ => rfl)) (pa_cons (pe_bltn (v := .ty "str") (by rfl) T.z_str (by decide +kernel) rfl) pa_nil))) (pe_one (pe_call (ok_law_whole T) (hr.mono (by decide)) (by rfl) T.g_law_whole T.f_law_whole.kp T.b_law_whole .nil pass0 (pa_cons (pe_ix (ix_tupK K) (pv 0) pe_int (fun _ _ => rfl)) pa_nil))))))) pss_nil)
      (pss_cons (ps_if (PW.pt (pw_or (pt_cmpR op_eq (pe_ix (ix_tupK K) (pv 0) pe_int (fun _ _ => rfl)) pe_str (nomark _)) (pw_or1 (pt_cmpR op_eq (pe_ix (ix_tupK K) (pv 0) pe_int (fun _ _ => rfl)) pe_str (nomark _))))) (pss_one (ps_ret (pe_and (pe_cmpR op_eq (pe_callB (c_lenK K) (by rfl) T.z_len PySem.boot_len (pa_cons (pv 0) pa_nil)) pe_int (nomark _)) (pe_one (pe_call (ok_law_wire T) (hr.mono (by decide)) (by rfl) T.g_law_wire T.f_law_wire.kp T.b_law_wire .nil pass0 (pa_cons (pe_ix (ix_tupK K) (pv 0) pe_int (fun _ _ => rfl)) (pa_cons (pv 1) pa_nil))))))) pss_nil)
      (pss_cons (ps_if (pt_cmpR (op_inK K) (pe_ix (ix_tupK K) (pv 0) pe_int (fun _ _ => rfl)) (pe_lst (pa_cons pe_str (pa_cons pe_str (pa_cons pe_str pa_nil)))) (by rfl)) (pss_one (ps_ret (pe_and (pe_cmpR op_eq (pe_callB (c_lenK K) (by rfl) T.z_len PySem.boot_len (pa_cons (pv 0) pa_nil)) pe_int (nomark _)) (pe_and (pe_call (ok_law_wire T) (hr.mono (by decide)) (by rfl) T.g_law_wire T.f_law_wire.kp T.b_law_wire .nil pass0 (pa_cons (pe_ix (ix_tupK K) (pv 0) pe_int (fun _ _ => rfl)) (pa_cons (pv 1) pa_nil))) (pe_one (pe_call (ok_law_wire T) (hr.mono (by decide)) (by rfl) T.g_law_wire T.f_law_wire.kp T.b_law_wire .nil pass0 (pa_cons (pe_ix (ix_tupK K) (pv 0) pe_int (fun _ _ => rfl)) (pa_cons (pv 1) pa_nil)))))))) pss_nil)
      (pss_one (ps_ret pe_bl))))))), ?_⟩
  try dsimp only [cxOf, Cx.nox, Cx.wish]
  simp only [L2.start, List.map_cons, List.map_nil, List.length_cons, List.length_nil, Nat.reduceAdd, Nat.reduceSub, List.replicate_succ, List.replicate_zero, List.cons_append, List.nil_append]
  obtain ⟨hp, ⟨ps, hS, hA⟩, ok, hin, hnm, h⟩ := h
  have hp0 := hp
  unfold RowAt at hp
  cases r with
  | fix b =>
    have hb : b = 0 ∨ b = 1 := ok
    have e0 : decide (V.int 1 = V.int 1) = true := decide_eq_true rfl
    rcases hb with rfl | rfl
    · walk_at "ws"
      exact h _ (Same.refl _)
    · walk_at "ws"
      rw [e0]
      exact h _ (Same.refl _)
  | inn n k =>
    have hm := hin n k rfl
    walk_at "ws"
    refine w_inD (dp_row hp0) (.lst hS (dp_rows hA)) (shaped_row (hnm _ hm)) (shaped_rows hnm) (List.mem_map.mpr ⟨_, hm, rfl⟩) ?_
    walk_at "ws"
    exact h _ (Same.refl _)
  | inv u =>
    have hu : u < i := ok
    walk_at "ws"
    exact h _ (Same.refl _)
  | bin o u v =>
    have hu := ok.1
    have hv := ok.2
    cases o <;> (walk_at "ws"; exact h _ (by assumption))
  | lat u =>
    have hu : u < i := ok
    walk_at "ws"
    exact h _ (Same.refl _)
def sp_law_fine (K : PySem.W.Frag) : Sp := fun vs H Q _ => ∃ (t q u a : Addr) (made : List Row) (os : List Nat) (old : List Row) (m : Nat) (late : Int) (N : Str → Prop), vs = [.ref t, .ref a, .int (m : Int)] ∧ H t = some (.tup [.ref q, .ref u, .int late]) ∧ RowsM H q made ∧ H u = some (.lst ((natI os).map V.int)) ∧ RowsL K H a old ∧ RowsOk N made ∧ (∀ n k, Row.inn n k ∈ made → Row.inn n k ∈ old) ∧ (∀ o ∈ os, o < made.length) ∧ os.length = m ∧ made.length ≤ 900000 ∧ (∀ x ∈ old, NmOk x) ∧
  ∀ H', Same H H' → Q (.bl true) H'
theorem ok_law_fine (T : Top K mg) : FnOk P w K mg base CX0 4 T.a_law_fine T.d_law_fine ["_law_found", "_law_ins_here", "_law_many"] (sp_law_fine K) := by
  refine T.f_law_fine.ok sc_law_fine (fun vs H Q E h => ?_) (fun cdv A outer s H vs Q E hr h => ?_)
  · obtain ⟨t, q, u, a, made, os, old, m, late, N, rfl, _⟩ := h
    rfl
  obtain ⟨t, q, u, a, made, os, old, m, late, N, rfl, h⟩ := h
  refine ⟨_, (pss_cons (ps_if (PW.pt (pw_or (pt_not (pt_val (pe_callB (c_isiK K) (by rfl) T.z_isinstance (by decide +kernel) (pa_cons (pv 0) (pa_cons (pe_bltn (v := .ty "tuple") (by rfl) T.z_tuple (by decide +kernel) rfl) pa_nil))))) (pw_or (pt_cmpR op_ne (pe_callB (c_lenK K) (by rfl) T.z_len PySem.boot_len (pa_cons (pv 0) pa_nil)) pe_int (nomark _)) (pw_or1 (pt_not (pt_val (pe_call (ok_law_whole T) (hr.mono (by decide)) (by rfl) T.g_law_whole T.f_law_whole.kp T.b_law_whole .nil pass0 (pa_cons (pe_ix (ix_tupK K) (pv 0) pe_int (fun _ _ => rfl)) pa_nil)))))))) (pss_one (ps_ret pe_bl)) pss_nil)
      (pss_cons (ps_if (PW.pt (pw_or (pt_not (pt_val (pe_callB (c_isiK K) (by rfl) T.z_isinstance (by decide +kernel) (pa_cons (pe_ix (ix_tupK K) (pv 0) pe_int (fun _ _ => rfl)) (pa_cons (pe_bltn (v := .ty "list") (by rfl) T.z_list (by decide +kernel) rfl) pa_nil))))) (pw_or (pt_not (pt_val (pe_callB (c_isiK K) (by rfl) T.z_isinstance (by decide +kernel) (pa_cons (pe_ix (ix_tupK K) (pv 0) pe_int (fun _ _ => rfl)) (pa_cons (pe_bltn (v := .ty "list") (by rfl) T.z_list (by decide +kernel) rfl) pa_nil))))) (pw_or1 (pt_cmpR op_ne (pe_callB (c_lenK K) (by rfl) T.z_len PySem.boot_len (pa_cons (pe_ix (ix_tupK K) (pv 0) pe_int (fun _ _ => rfl)) pa_nil)) (pv 2) (nomark _)))))) (pss_one (ps_ret pe_bl)) pss_nil)
      (pss_cons (ps_for PassesOwn.never rfl (pi_range1 (by rfl) T.z_range (pa_cons (pe_callB (c_lenK K) (by rfl) T.z_len PySem.boot_len (pa_cons (pe_ix (ix_tupK K) (pv 0) pe_int (fun _ _ => rfl)) pa_nil)) pa_nil)) (pg_name (i := 3) sc_law_fine.nd rfl (.inl rfl))
      (pss_one (ps_if (pt_not (pt_val (pe_call (ok_law_fine_row T) (hr.mono (by decide)) (by rfl) T.g_law_fine_row T.f_law_fine_row.kp T.b_law_fine_row .nil pass0 (pa_cons (pe_ix (ix_listK K) (pe_ix (ix_tupK K) (pv 0) pe_int (fun _ _ => rfl)) (pv 3) (fun _ _ => rfl)) (pa_cons (pv 3) (pa_cons (pv 1) pa_nil)))))) (pss_one (ps_ret pe_bl)) pss_nil)))
      (pss_one (ps_ret (pe_cmpR op_eq (pe_callB (c_lenK K) (by rfl) T.z_len PySem.boot_len (pa_cons (pe_lc (own := [("_law_wire_here", 4)]) (g := gName 4) (by rfl) sc_law_fine.nd (pi_list (pe_ix (ix_tupK K) (pv 0) pe_int (fun _ _ => rfl))) (blkOk_by (N := ["_law_found", "_law_ins_here", "_law_many", "_law_at_here", "_law_wire_here"]) (sc := defScope s_law_fine) (by decide +kernel)) (fun _ _ _ _ _ => (pg_name (i := 4) sc_law_fine.nd rfl (.inl rfl))) (fun _ _ _ _ _ => (pts_one (pt_not (pt_val (pe_call (ok_law_wire T) (hr.mono (by decide)) (by rfl) T.g_law_wire T.f_law_wire.kp T.b_law_wire .nil pass0 (pa_cons (pv 4) (pa_cons (pe_callB (c_lenK K) (by rfl) T.z_len PySem.boot_len (pa_cons (pe_ix (ix_tupK K) (pv 0) pe_int (fun _ _ => rfl)) pa_nil)) pa_nil))))))) (fun _ _ _ _ _ => (pv 4))) pa_nil)) pe_int (nomark _))))))), ?_⟩
  try dsimp only [cxOf, Cx.nox, Cx.wish]
  simp only [L2.start, List.map_cons, List.map_nil, List.length_cons, List.length_nil, Nat.reduceAdd, Nat.reduceSub, List.replicate_succ, List.replicate_zero, List.cons_append, List.nil_append]
  obtain ⟨ht, ⟨ps, hq, hA⟩, hu, hO, ok, hins, ho, hm, hl, hnm, h⟩ := h
  have hpl := hA.1
  have hpm : (ps.map V.ref).length = made.length := by rw [List.length_map, hpl]
  have hom : ((natI os).map V.int).length = m := by rw [List.length_map, natI_len, hm]
  walk_at "ws"
  refine for_r (fun i σ' G => ∃ y3, σ' = [some (.ref t), some (.ref a), some (.int (m : Int)), y3, none] ∧ Same H G) ⟨_, rfl, Same.refl _⟩ (fun i σ' G hi k => ?_) (fun σ' G k => ?_)
  · obtain ⟨y3, rfl, sm⟩ := k
    have hi' : i < made.length := by omega
    have hr := List.getElem?_eq_getElem hi'
    generalize made[i] = r at hr
    obtain ⟨p, hp, hrow⟩ := hA.get2 hr
    have ht' := sm _ _ ht
    have hq' := sm _ _ hq
    walk_at "ws"
    refine w_ixL (SqL.of hq') (ref_at hp) ?_
    walk_at "ws"
    refine ⟨p, a, i, r, old, N, rfl, sm _ _ hrow, hO.same sm, ok i r hr, fun n k e => by rw [e] at hr ⊢; exact hins n k (List.mem_of_getElem? hr), hnm, fun G2 s2 => ?_⟩
    walk_at "ws"
    exact ⟨_, rfl, sm.trans s2⟩
  · obtain ⟨y3, rfl, sm⟩ := k
    have ht' := sm _ _ ht
    have hq' := sm _ _ hq
    have hu' := sm _ _ hu
    walk_at "ws"
    refine lc_none ((natI os).map V.int) (SqL.of hu') (fun x => rfl) (fun j x G' QB hx s1 k => ?_) (fun p1 G1 n1 s1 e1 => ?_)
    · obtain ⟨z, hz, rfl⟩ := get_map hx
      obtain ⟨w, hw, rfl⟩ := natI_get hz
      have hwl := ho w (List.mem_of_getElem? hw)
      have ht2 := s1 _ _ ht'
      have hq2 := s1 _ _ hq'
      walk_at "ws"
      exact k
    walk_at "ws"
    exact h _ (sm.trans s1)

theorem name_str {n : Str} (h : NameOk n) : PyData.strOk n = true := by
  show (n.cps.all fun x => decide (x < 0x110000)) = true
  rw [← Array.all_toList, List.all_eq_true]
  intro c hc
  have := h.2 c hc
  unfold letter at this
  exact decide_eq_true (by omega)
theorem rows_named {nm : List Str} {rs : List Row} (hn : ∀ x ∈ nm, NameOk x) (h : RowsOk (· ∈ nm) rs) : ∀ r ∈ rs, NmOk r := by
  intro r hr
  obtain ⟨i, hi⟩ := List.mem_iff_getElem?.mp hr
  have ok := h i r hi
  cases r with
  | inn n k => exact name_str (hn _ ok.1)
  | _ => exact True.intro

/-- what beats gives: a new list of new lists -/
def Told (H : Hp) (H' : Hp) (p : Addr) (bss : List (List Int)) : Prop := ∃ qs : List Addr, H p = none ∧ (∀ q ∈ qs, H q = none ∧ q ≠ p) ∧ Same H H' ∧ H' p = some (.lst (qs.map V.ref)) ∧ A2 (IntsAt H') qs bss
theorem beats_len (rs : List Row) (wss : List (List (Str × Int))) : (beatsL rs wss).length = wss.length := by
  have key : ∀ (wss : List (List (Str × Int))) (acc : List (List Int)), (wss.foldl (fun acc ws => acc ++ [beatL rs (acc.getLastD []) ws]) acc).length = acc.length + wss.length := by
    intro wss
    induction wss with
    | nil => intro acc; rfl
    | cons r rs ih =>
      intro acc
      rw [List.foldl_cons, ih, List.length_append, List.length_singleton, List.length_cons]
      omega
  unfold beatsL
  rw [key]
  exact Nat.zero_add _
theorem lastD_snoc {α : Type} (xs : List α) (x d : α) : (xs ++ [x]).getLastD d = x := by simp

def sp_law_beats (K : PySem.W.Frag) : Sp := fun vs H Q _ => ∃ (a d : Addr) (rs : List Row) (wss : List (List (Str × Int))) (N : Str → Prop), vs = [.ref a, .ref d] ∧ RowsL K H a rs ∧ DictsL K H d wss ∧ RowsOk N rs ∧ rs.length ≤ 60000 ∧ wss.length ≤ 60000 ∧ (∀ ws ∈ wss, Has N ws) ∧
  ∀ p H', Told H H' p (beatsL rs wss) → Q (.ref p) H'
theorem beatsL_take {rs : List Row} {wss : List (List (Str × Int))} {t : Nat} (h : t + 1 ≤ wss.length) : (beatsL rs (wss.take (t + 1))).getLastD [] = beatL rs ((beatsL rs (wss.take t)).getLastD []) wss[t] := by
  have e : wss[t]? = some wss[t] := List.getElem?_eq_getElem (by omega)
  rw [take_snoc e, beatsL_snoc, lastD_snoc]
theorem ok_law_beats (T : Top K mg) : FnOk P w K mg base CX0 2 T.a_law_beats T.d_law_beats ["_law_rows_here", "_law_some_here"] (sp_law_beats K) := by
  refine T.f_law_beats.ok sc_law_beats (fun vs H Q E h => ?_) (fun cdv A outer s H vs Q E hr h => ?_)
  · obtain ⟨a, d, rs, wss, N, rfl, _⟩ := h
    rfl
  obtain ⟨a, d, rs, wss, N, rfl, h⟩ := h
  refine ⟨_, (pss_cons (ps_set (i := 2) sc_law_beats.nd rfl (.inl rfl) (pe_lst pa_nil))
      (pss_cons (ps_for PassesOwn.never rfl (pi_range1 (by rfl) T.z_range (pa_cons (pe_callB (c_lenK K) (by rfl) T.z_len PySem.boot_len (pa_cons (pv 1) pa_nil)) pa_nil)) (pg_name (i := 3) sc_law_beats.nd rfl (.inl rfl))
      (pss_cons (ps_set (i := 4) sc_law_beats.nd rfl (.inl rfl) (pe_lst pa_nil))
      (pss_cons (ps_for PassesOwn.never rfl (pi_list (pv 0)) (pg_name (i := 5) sc_law_beats.nd rfl (.inl rfl))
      (pss_one (ps_if (pt_cmpR op_ne (pe_ix (ix_tupK K) (pv 5) pe_int (fun _ _ => rfl)) pe_str (nomark _)) (pss_one (ps_expr (pe_bm PySem.F.plainAttrs_list PySem.F.slot_list_append PySem.F.type_list_append mt_append (pv 4) (pa_cons (pe_call (ok_law_bit T) (hr.mono (by decide)) (by rfl) T.g_law_bit T.f_law_bit.kp T.b_law_bit .nil pass0 (pa_cons (pv 5) (pa_cons (pv 4) (pa_cons (pe_ix (ix_listK K) (pv 1) (pv 3) (fun _ _ => rfl)) pa_nil)))) pa_nil)))) (pss_one (ps_if (pt_cmpR op_eq (pv 3) pe_int (nomark _)) (pss_one (ps_expr (pe_bm PySem.F.plainAttrs_list PySem.F.slot_list_append PySem.F.type_list_append mt_append (pv 4) (pa_cons pe_int pa_nil)))) (pss_one (ps_expr (pe_bm PySem.F.plainAttrs_list PySem.F.slot_list_append PySem.F.type_list_append mt_append (pv 4) (pa_cons (pe_ix (ix_listK K) (pe_ix (ix_listK K) (pv 2) (pe_op op_sub (pv 3) pe_int) (fun _ _ => rfl)) (pe_ix (ix_tupK K) (pv 5) pe_int (fun _ _ => rfl)) (fun _ _ => rfl)) pa_nil)))))))))
      (pss_one (ps_expr (pe_bm PySem.F.plainAttrs_list PySem.F.slot_list_append PySem.F.type_list_append mt_append (pv 2) (pa_cons (pv 4) pa_nil)))))))
      (pss_one (ps_ret (pv 2))))), ?_⟩
  try dsimp only [cxOf, Cx.nox, Cx.wish]
  simp only [L2.start, List.map_cons, List.map_nil, List.length_cons, List.length_nil, Nat.reduceAdd, Nat.reduceSub, List.replicate_succ, List.replicate_zero, List.cons_append, List.nil_append]
  obtain ⟨⟨ps, hS, hA⟩, ⟨ds, hD, hB⟩, ok, hlen, hwl, has, h⟩ := h
  have hpl := hA.1
  have hdl := hB.1
  have hdm : (ds.map V.ref).length = wss.length := by rw [List.length_map]; exact hdl
  walk_at "ws"
  rename_i o H1 n1 s1 e1
  refine for_r (fun t σ' G => ∃ (qs : List Addr) (y3 y4 y5 : Option V), σ' = [some (.ref a), some (.ref d), some (.ref o), y3, y4, y5] ∧ Same H G ∧ G o = some (.lst (qs.map V.ref)) ∧ (∀ q ∈ qs, H q = none ∧ q ≠ o) ∧ A2 (IntsAt G) qs (beatsL rs (wss.take t)) ∧ All01 ((beatsL rs (wss.take t)).getLastD []))
    ⟨[], _, _, _, rfl, s1, e1, fun q hq => (by cases hq), A2.nil, fun x hx => (by cases hx)⟩ (fun t σ' G ht q => ?_) (fun σ' G q => ?_)
  · obtain ⟨qs, y3, y4, y5, rfl, sG, eo, hfr, hQ, h01⟩ := q
    have htw : t < wss.length := by omega
    have htd : t < ds.length := by omega
    obtain ⟨ws, hws, hwat⟩ := hB.get (List.getElem?_eq_getElem htd)
    have hasw := has ws (List.mem_of_getElem? hws)
    have hql := hQ.1
    rw [beats_len, List.length_take] at hql
    walk_at "ws"
    rename_i b G1 nb sb eb
    generalize hprev : (beatsL rs (wss.take t)).getLastD [] = prev at *
    refine for_l (ps.map V.ref) (fun i σ2 G2 => ∃ y5 : Option V, σ2 = [some (.ref a), some (.ref d), some (.ref o), some (.int (t : Int)), some (.ref b), y5] ∧ Same G G2 ∧ IntsAt G2 b (runL (beatI ws prev) (rs.take i))) ⟨_, rfl, sb, eb⟩ (fun i σ2 G2 _ k => ?_) (fun i x2 σ2 G2 hx2 k => ?_) (fun σ2 G2 k => ?_)
    · obtain ⟨z6, rfl, s2, _⟩ := k
      exact (sG.trans s2).seq hS
    · obtain ⟨z6, rfl, s2, eb2⟩ := k
      obtain ⟨p, hp, rfl⟩ := get_map hx2
      obtain ⟨r, hr', hpr⟩ := hA.get hp
      have hi := (List.getElem?_eq_some_iff.mp hr').1
      have hl : (runL (beatI ws prev) (rs.take i)).length = i := by rw [runL_len, List.length_take]; omega
      have eb2' : G2 b = some (.lst ((runL (beatI ws prev) (rs.take i)).map V.int)) := eb2
      have hp2 : RowAt G2 p r := s2 _ _ (sG _ _ hpr)
      have hp3 := hp2
      unfold RowAt at hp3
      have okr := ok i r hr'
      have hfin : ∃ y5 : Option V, [some (V.ref a), some (.ref d), some (.ref o), some (.int (t : Int)), some (.ref b), some (.ref p)] = [some (.ref a), some (.ref d), some (.ref o), some (.int (t : Int)), some (.ref b), y5] ∧ Same G (upd G2 b (.lst ((runL (beatI ws prev) (rs.take i)).map V.int ++ [.int (beatI ws prev (runL (beatI ws prev) (rs.take i)) r)]))) ∧ IntsAt (upd G2 b (.lst ((runL (beatI ws prev) (rs.take i)).map V.int ++ [.int (beatI ws prev (runL (beatI ws prev) (rs.take i)) r)]))) b (runL (beatI ws prev) (rs.take (i + 1))) := by
        refine ⟨_, rfl, same_mut s2 nb, ?_⟩
        unfold IntsAt
        rw [upd_same, take_snoc hr', runL_snoc, List.map_append]
        rfl
      cases r with
      | lat w =>
        have hw : w < i := by rw [← hl]; rw [hl]; exact okr
        walk_at "ws"
        · rename_i h0
          have ht0 : t = 0 := by omega
          subst ht0
          have e0 : prev = [] := by rw [← hprev]; rfl
          subst e0
          exact hfin
        · rename_i h0
          have hq1 : t - 1 < qs.length := by omega
          obtain ⟨bs, hbs1, hbs2⟩ := hQ.get (List.getElem?_eq_getElem hq1)
          have hpb : bs = prev := by
            obtain ⟨t', rfl⟩ : ∃ t', t = t' + 1 := ⟨t - 1, by omega⟩
            have e1 : wss[t']? = some wss[t'] := List.getElem?_eq_getElem (by omega)
            rw [take_snoc e1, beatsL_snoc, Nat.add_sub_cancel] at hbs1
            rw [take_snoc e1, beatsL_snoc, lastD_snoc] at hprev
            rw [List.getElem?_append_right (by rw [beats_len, List.length_take]; omega), beats_len, List.length_take, Nat.min_eq_left (by omega), Nat.sub_self] at hbs1
            cases hbs1
            exact hprev
          subst hpb
          have hbl : bs.length = rs.length := by
            obtain ⟨t', rfl⟩ : ∃ t', t = t' + 1 := ⟨t - 1, by omega⟩
            rw [beatsL_take (by omega)] at hprev
            rw [← hprev]
            exact runL_len ..
          have e1 : atI (qs.map V.ref) ((t : Int) - 1) = some (.ref qs[t - 1]) := by
            rw [show (t : Int) - 1 = ((t - 1 : Nat) : Int) by omega]
            exact row_at hq1
          refine w_ixL (SqL.of (s2 _ _ eo)) e1 ?_
          walk_at "ws"
          refine w_ixL (SqL.of (s2 _ _ hbs2)) (bit_get (by omega)) ?_
          walk_at "ws"
          exact hfin
      | bin q x y =>
        cases q
        all_goals
          walk_at "ws"
          refine w_ixL ((sG.trans s2).seq hD) (row_at htd) ?_
          walk_at "ws"
          refine ⟨p, b, _, _, _, ws, N, rfl, hp2, SqL.of eb2', s2 _ _ (sG _ _ hwat), by rw [hl]; exact okr, True.intro, hasw, beatL_01 ws h01 ok i, ?_⟩
          walk_at "ws"
          exact hfin
      | _ =>
          walk_at "ws"
          refine w_ixL ((sG.trans s2).seq hD) (row_at htd) ?_
          walk_at "ws"
          refine ⟨p, b, _, _, _, ws, N, rfl, hp2, SqL.of eb2', s2 _ _ (sG _ _ hwat), by rw [hl]; exact okr, True.intro, hasw, beatL_01 ws h01 ok i, ?_⟩
          walk_at "ws"
          exact hfin
    · obtain ⟨z6, rfl, s2, eb2⟩ := k
      rw [List.length_map, hpl, List.take_of_length_le (Nat.le_refl _)] at eb2
      have eo2 := s2 _ _ eo
      walk_at "ws"
      have nob : b ≠ o := (ne_of_none eo nb).symm
      have eb3 : IntsAt (upd G2 o (.lst (qs.map V.ref ++ [.ref b]))) b (beatL rs prev ws) := by
        unfold IntsAt
        rw [upd_ne nob]
        exact eb2
      have hall := beatL_01 ws h01 ok rs.length
      rw [List.take_of_length_le (Nat.le_refl _)] at hall
      refine ⟨qs ++ [b], _, _, _, rfl, same_mut (sG.trans s2) n1, by rw [upd_same, List.map_append]; rfl, fun q hq => ?_, ?_, ?_⟩
      · rcases List.mem_append.mp hq with e | e
        · exact hfr q e
        · rw [List.mem_singleton.mp e]
          exact ⟨sG.free nb, nob⟩
      · rw [take_snoc hws, beatsL_snoc, hprev]
        refine (A2.mono2 hQ fun q bs hq e => ?_).snoc eb3
        unfold IntsAt
        rw [upd_ne (hfr q hq).2]
        exact s2 _ _ e
      · rw [take_snoc hws, beatsL_snoc, hprev, lastD_snoc]
        exact hall
  · obtain ⟨qs, y3, y4, y5, rfl, sG, eo, hfr, hQ, _⟩ := q
    rw [hdm, Int.toNat_natCast, List.take_of_length_le (Nat.le_refl _)] at hQ
    walk_at "ws"
    exact h o G ⟨qs, n1, hfr, sG, eo, hQ⟩

def WsOk (nm : List Str) (ws : List (Str × Int)) : Prop := Has (· ∈ nm) ws ∧ (ws.map (·.1)).Nodup ∧ ws.length ≤ 4
/-- a new list of dicts of numbers -/
def sp_law_some (K : PySem.W.Frag) : Sp := fun vs H Q _ => ∃ (a : Addr) (nm : List Str) (c : Int) (m : Nat), vs = [.ref a, .int c, .int (m : Int)] ∧ SqL K H a (nm.map V.str) ∧ nm.length = 4 ∧ (∀ j : Int, 0 ≤ j → j ≤ 4 → Builtin.Int.intBits (c + j) ≤ 1048577) ∧ m ≤ 60 ∧
  ∀ (ps : List Addr) (wss : List (List (Str × Int))) p H', wss.length = m → (∀ ws ∈ wss, WsOk nm ws) → H p = none → Same H H' → H' p = some (.lst (ps.map V.ref)) → A2 (DictAt H') ps wss → Q (.ref p) H'
theorem ok_law_some (T : Top K mg) : FnOk P w K mg base CX0 3 T.a_law_some T.d_law_some ["_law_names_here", "_law_cell", "_law_many"] (sp_law_some K) := by
  refine T.f_law_some.ok sc_law_some (fun vs H Q E h => ?_) (fun cdv A outer s H vs Q E hr h => ?_)
  · obtain ⟨a, nm, c, m, rfl, _⟩ := h
    rfl
  obtain ⟨a, nm, c, m, rfl, h⟩ := h
  refine ⟨_, (pss_cons (ps_set (i := 3) sc_law_some.nd rfl (.inl rfl) (pe_lst pa_nil))
      (pss_cons (ps_for PassesOwn.never rfl (pi_range1 (by rfl) T.z_range (pa_cons (pv 2) pa_nil)) (pg_name (i := 4) sc_law_some.nd rfl (.inl rfl))
      (pss_one (ps_if (PW.pt (pw_and (pt_cmpR op_gt (pv 4) pe_int (nomark _)) (pw_and1 (pt_cmpR op_eq (pe_op op_mod (pe_call (ok_law_mixed T) (hr.mono (by decide)) (by rfl) T.g_law_mixed T.f_law_mixed.kp T.b_law_mixed .nil pass0 (pa_cons (pv 1) (pa_cons (pv 4) pa_nil))) pe_int) pe_int (nomark _))))) (pss_one (ps_expr (pe_bm PySem.F.plainAttrs_list PySem.F.slot_list_append PySem.F.type_list_append mt_append (pv 3) (pa_cons (pe_ix (ix_listK K) (pv 3) (pe_op op_sub (pv 4) pe_int) (fun _ _ => rfl)) pa_nil)))) (pss_cons (ps_expr (pe_bm PySem.F.plainAttrs_list PySem.F.slot_list_append PySem.F.type_list_append mt_append (pv 3) (pa_cons pe_dnewK pa_nil)))
      (pss_one (ps_for PassesOwn.never rfl (pi_range1 (by rfl) T.z_range (pa_cons pe_int pa_nil)) (pg_name (i := 5) sc_law_some.nd rfl (.inl rfl))
      (pss_one (ps_dput (hu_of hr) (pe_ix (ix_listK K) (pv 3) (pv 4) (fun _ _ => rfl)) (pe_ix (ix_listK K) (pv 0) (pv 5) (fun _ _ => rfl)) (pe_call (ok_law_great T) (hr.mono (by decide)) (by rfl) T.g_law_great T.f_law_great.kp T.b_law_great .nil pass0 (pa_cons (pe_op op_add (pv 1) (pv 5)) (pa_cons (pe_op op_add (pe_op op_mulI (pv 4) (pv 4)) (pv 5)) pa_nil))) rfl))))))))
      (pss_one (ps_ret (pv 3))))), ?_⟩
  try dsimp only [cxOf, Cx.nox, Cx.wish]
  simp only [L2.start, List.map_cons, List.map_nil, List.length_cons, List.length_nil, Nat.reduceAdd, Nat.reduceSub, List.replicate_succ, List.replicate_zero, List.cons_append, List.nil_append]
  obtain ⟨hS, h4, hc, hm, h⟩ := h
  have hc0 := hc 0 (by decide) (by decide)
  rw [Int.add_zero] at hc0
  walk_at "ws"
  rename_i o H1 n1 s1 e1
  refine for_r (fun t σ' G => ∃ (ps : List Addr) (wss : List (List (Str × Int))) (y4 y5 : Option V), σ' = [some (.ref a), some (.int c), some (.int (m : Int)), some (.ref o), y4, y5] ∧ Same H G ∧ G o = some (.lst (ps.map V.ref)) ∧ A2 (DictAt G) ps wss ∧ wss.length = t ∧ ∀ ws ∈ wss, WsOk nm ws)
    ⟨[], [], _, _, rfl, s1, e1, A2.nil, rfl, fun ws hw => (by cases hw)⟩ (fun t σ' G ht q => ?_) (fun σ' G q => ?_)
  · obtain ⟨ps, wss, y4, y5, rfl, sG, eo, hA, hl, hok⟩ := q
    have hpl := hA.1
    have htm : t < m := by omega
    have hpm : (ps.map V.ref).length = t := by rw [List.length_map]; omega
    walk_at "ws"
    · have hq1 : t - 1 < ps.length := by omega
      obtain ⟨ws, hw1, hw2⟩ := hA.get (List.getElem?_eq_getElem hq1)
      have e1 : atI (ps.map V.ref) ((t : Int) - 1) = some (.ref ps[t - 1]) := by
        rw [show (t : Int) - 1 = ((t - 1 : Nat) : Int) by omega]
        exact row_at hq1
      refine w_ixL (SqL.of eo) e1 ?_
      walk_at "ws"
      have hne : ∀ q ∈ ps, q ≠ o := fun q hq z => by
        obtain ⟨k, hk⟩ := List.mem_iff_getElem?.mp hq
        obtain ⟨u, _, hu⟩ := hA.get hk
        unfold DictAt at hu
        rw [z, eo] at hu
        cases hu
      have hA2 : A2 (DictAt (upd G o (.lst (ps.map V.ref ++ [.ref ps[t - 1]])))) ps wss := hA.mono2 fun q u hq e => by
        unfold DictAt
        rw [upd_ne (hne q hq)]
        exact e
      refine ⟨ps ++ [ps[t - 1]], wss ++ [ws], _, _, rfl, same_mut sG n1, by rw [upd_same, List.map_append]; rfl, hA2.snoc ?_, by rw [List.length_append, hl]; rfl, fun u hu => ?_⟩
      · unfold DictAt
        rw [upd_ne (hne _ (List.getElem_mem hq1))]
        exact hw2
      · rcases List.mem_append.mp hu with e | e
        · exact hok u e
        · rw [List.mem_singleton.mp e]
          exact hok ws (List.mem_of_getElem? hw1)
    all_goals
      rename_i p G1 n2 s2 e2
      have nop : p ≠ o := (ne_of_none eo n2).symm
      have hne : ∀ q ∈ ps, q ≠ o ∧ q ≠ p := fun q hq => by
        obtain ⟨k, hk⟩ := List.mem_iff_getElem?.mp hq
        obtain ⟨u, _, hu⟩ := hA.get hk
        unfold DictAt at hu
        refine ⟨fun z => ?_, fun z => ?_⟩
        · rw [z, eo] at hu
          cases hu
        · rw [z, n2] at hu
          cases hu
      refine for_r (fun j σ2 G2 => ∃ (ws : List (Str × Int)) (y5 : Option V), σ2 = [some (.ref a), some (.int c), some (.int (m : Int)), some (.ref o), some (.int (t : Int)), y5] ∧ Same H G2 ∧ G2 o = some (.lst ((ps ++ [p]).map V.ref)) ∧ A2 (DictAt G2) ps wss ∧ G2 p = some (.dK (wkv ws)) ∧ Has (fun n => ∃ j', j' < j ∧ nm[j']? = some n) ws ∧ (ws.map (·.1)).Nodup ∧ ws.length ≤ j)
        ⟨[], _, rfl, same_mut (sG.trans s2) n1, by rw [upd_same, List.map_append]; rfl, hA.mono2 fun q u hq e => ?_, by rw [upd_ne nop]; exact e2, fun n hn => (by obtain ⟨j', hj, _⟩ := hn; omega), List.nodup_nil, Nat.le_refl _⟩ (fun j σ2 G2 hj k => ?_) (fun σ2 G2 k => ?_)
      · unfold DictAt
        rw [upd_ne (hne q hq).1]
        exact s2 _ _ e
      · obtain ⟨ws, y5, rfl, sG2, eo2, hA2, ep2, has, nd, hwl⟩ := k
        have hj4 : j < 4 := hj
        have hjn : j < nm.length := by omega
        have hcj : Builtin.Int.intBits (c + (j : Int)) ≤ 1048577 := hc j (by omega) (by omega)
        have kk1 : (0 : Int) ≤ (t : Int) * (t : Int) := Int.mul_nonneg (Int.natCast_nonneg t) (Int.natCast_nonneg t)
        have kk2 : (t : Int) * (t : Int) ≤ 60 * 60 := Int.mul_le_mul (by omega) (by omega) (Int.natCast_nonneg t) (by decide)
        walk_at "ws"
        rename_i v2
        have e3 : atI ((ps ++ [p]).map V.ref) (t : Int) = some (.ref p) := atI_nat (by
          rw [List.map_append, List.getElem?_append_right (by rw [hpm]; exact Nat.le_refl _), hpm, Nat.sub_self]
          rfl)
        refine w_ixL (SqL.of eo2) e3 ?_
        walk_at "ws"
        refine w_ixL (sG2.seq hS) (atI_nat (by rw [List.getElem?_map, List.getElem?_eq_getElem hjn]; rfl)) ?_
        walk_at "ws"
        have nHp : H p = none := sG.free n2
        refine ⟨_, _, rfl, same_mut sG2 nHp, by rw [upd_ne nop.symm]; exact eo2, hA2.mono2 fun q u hq e => ?_, upd_same, (has_put has).mono fun n hn => ?_, putW_nodup _ _ nd, ?_⟩
        · unfold DictAt
          rw [upd_ne (hne q hq).2]
          exact e
        · obtain ⟨z, hz1, hz2⟩ := hn
          by_cases hz : z = j
          · left
            rw [hz, List.getElem?_eq_getElem hjn] at hz2
            cases hz2
            rfl
          · exact .inr ⟨z, by omega, hz2⟩
        · have := putW_len ws nm[j] v2
          omega
      · obtain ⟨ws, y5, rfl, sG2, eo2, hA2, ep2, has, nd, hwl⟩ := k
        refine ⟨ps ++ [p], wss ++ [ws], _, _, rfl, sG2, eo2, hA2.snoc ep2, by rw [List.length_append, hl]; rfl, fun u hu => ?_⟩
        rcases List.mem_append.mp hu with e | e
        · exact hok u e
        · rw [List.mem_singleton.mp e]
          refine ⟨has.mono fun n hn => ?_, nd, hwl⟩
          obtain ⟨j, hj, ej⟩ := List.mem_iff_getElem.mp hn
          exact ⟨j, by show j < 4; omega, by rw [List.getElem?_eq_getElem hj, ej]⟩
  · obtain ⟨ps, wss, y4, y5, rfl, sG, eo, hA, hl, hok⟩ := q
    walk_at "ws"
    exact h ps wss o G (by rw [hl]; rfl) hok n1 sG eo hA

theorem beats_pre (R : List Row) : ∀ (b a : List (List (Str × Int))), ∃ tl, beatsL R (a ++ b) = beatsL R a ++ tl
  | [], a => ⟨[], by rw [List.append_nil, List.append_nil]⟩
  | c :: b, a => by
    obtain ⟨tl, e⟩ := beats_pre R b (a ++ [c])
    rw [List.append_assoc] at e
    refine ⟨[beatL R ((beatsL R a).getLastD []) c] ++ tl, ?_⟩
    rw [← List.append_assoc, ← beatsL_snoc]
    exact e
theorem beats_at {R : List Row} {wss : List (List (Str × Int))} {t : Nat} {ws : List (Str × Int)} (h : wss[t]? = some ws) : (beatsL R wss)[t]? = some (beatL R ((beatsL R (wss.take t)).getLastD []) ws) := by
  have ht := (List.getElem?_eq_some_iff.mp h).1
  obtain ⟨tl, e⟩ := beats_pre R (wss.drop (t + 1)) (wss.take (t + 1))
  rw [List.take_append_drop] at e
  have hl : (beatsL R (wss.take t)).length = t := by rw [beats_len, List.length_take]; omega
  rw [e, take_snoc h, beatsL_snoc, List.append_assoc, List.getElem?_append_right (by omega), hl, Nat.sub_self]
  rfl
theorem beats_last {R : List Row} {wss : List (List (Str × Int))} {t : Nat} {ws : List (Str × Int)} (h : wss[t]? = some ws) : (beatsL R (wss.take (t + 1))).getLastD [] = ((beatsL R wss)[t]?).getD [] := by
  rw [beats_at h, take_snoc h, beatsL_snoc, lastD_snoc]
  rfl
def atB (R : List Row) (wss : List (List (Str × Int))) (t x : Nat) : Int := (((beatsL R wss)[t]?).getD []).getD x 0
theorem getD_take {bs : List Int} {x y : Nat} (h : y < x) : (bs.take x).getD y 0 = bs.getD y 0 := by
  rw [List.getD_eq_getElem?_getD, List.getD_eq_getElem?_getD, List.getElem?_take, if_pos h]
theorem atB_eq {R : List Row} {wss : List (List (Str × Int))} {t x : Nat} {ws : List (Str × Int)} {r : Row} (h : wss[t]? = some ws) (hr : R[x]? = some r) : atB R wss t x = beatI ws ((beatsL R (wss.take t)).getLastD []) ((((beatsL R wss)[t]?).getD []).take x) r := by
  unfold atB
  rw [beats_at h]
  show (beatL R _ ws).getD x 0 = beatI ws _ ((beatL R _ ws).take x) r
  rw [List.getD_eq_getElem?_getD, show (beatL R ((beatsL R (wss.take t)).getLastD []) ws)[x]? = _ from runL_get _ hr]
  rfl
theorem dep_zero {N : Str → Prop} {rs : List Row} (ok : RowsOk N rs) {w : Nat} {r : Row} (h : rs[w]? = some r) (e : ownR r = []) : dep rs w = 0 := by
  rw [dep_eq ok h, e]
  rfl
theorem st_tell {N : Str → Prop} {rs R : List Row} {m : Int} {P : Pl} {i : Nat} {wss : List (List (Str × Int))} (ok : RowsOk N rs) (I : StI N rs (stN rs m) i R P) : ∀ (n x : Nat), x < n → ∀ w s t, P w s = some x → s ≤ t → t < wss.length → atB R wss t x = bit (wss.getD (t - s) []) rs w
  | 0, x, h => absurd h (Nat.not_lt_zero _)
  | n + 1, x, h => fun w s t e hst ht => by
    have okR : RowsOk N R := I.ok
    have hws : wss[t]? = some wss[t] := List.getElem?_eq_getElem ht
    by_cases q : s = stN rs m w
    · subst q
      obtain ⟨r, r', h1, h2, h3⟩ := I.here w x e
      have okx := okR x r' h2
      rw [atB_eq hws h2]
      have ihx : ∀ a y, P a (stN rs m w) = some y → y < x → ((((beatsL R wss)[t]?).getD []).take x).getD y 0 = bit (wss.getD (t - stN rs m w) []) rs a := fun a y ea hy => by
        rw [getD_take hy]
        exact st_tell ok I n y (by omega) a (stN rs m w) t ea hst ht
      cases h3 with
      | fix b => exact (bit_fix h1).symm
      | inn nm k =>
        have d0 := dep_zero ok h1 rfl
        have s0 : stN rs m w = 0 := by unfold stN stI; rw [d0]; rfl
        rw [s0, bit_inn h1]
        rw [Nat.sub_zero, List.getD_eq_getElem?_getD, hws]
        rfl
      | inv ea =>
        rw [bit_inv ok h1, ← ihx _ _ ea okx]
        rfl
      | bin c ea eb =>
        rw [bit_bin ok h1, ← ihx _ _ ea okx.1, ← ihx _ _ eb okx.2]
        rfl
    · have hst2 := (I.dom _ _ _ e).2.2
      cases s with
      | zero => omega
      | succ s =>
        obtain ⟨y, ey, h2⟩ := I.late w s x e (by omega)
        obtain ⟨t', rfl⟩ : ∃ t', t = t' + 1 := ⟨t - 1, by omega⟩
        have hy : y < x := okR x _ h2
        have hws' : wss[t']? = some wss[t'] := List.getElem?_eq_getElem (by omega)
        rw [atB_eq hws h2]
        show ((beatsL R (wss.take (t' + 1))).getLastD []).getD y 0 = _
        rw [beats_last hws']
        rw [show t' + 1 - (s + 1) = t' - s by omega]
        exact st_tell ok I n y (by omega) w s t' ey (by omega) (by omega)

def sp_law_late (K : PySem.W.Frag) : Sp := fun vs H Q _ => ∃ (t q u a b d : Addr) (R rs : List Row) (new os : List Nat) (L : Nat) (wss : List (List (Str × Int))) (N : Str → Prop), vs = [.ref t, .ref a, .ref b, .ref d] ∧ H t = some (.tup [.ref q, .ref u, .int (L : Int)]) ∧ RowsM H q R ∧ NatsAt H u new ∧ RowsL K H a rs ∧ SqL K H b ((natI os).map V.int) ∧ DictsL K H d wss ∧ RowsOk N R ∧ RowsOk N rs ∧ NoLats rs ∧ R.length ≤ 60000 ∧ rs.length ≤ 60000 ∧ (∀ ws ∈ wss, Has N ws) ∧ wss.length ≤ 100 ∧ L ≤ 1000 ∧ new.length ≤ 1000 ∧ new.length = os.length ∧ (∀ o ∈ new, o < R.length) ∧ (∀ o ∈ os, o < rs.length) ∧
  (∀ (k x o : Nat), new[k]? = some x → os[k]? = some o → ∀ t : Nat, L ≤ t → t < wss.length → atB R wss t x = bit (wss.getD (t - L) []) rs o) ∧ ∀ H', Same H H' → Q (.bl true) H'
theorem ok_law_late (T : Top K mg) : FnOk P w K mg base CX0 3 T.a_law_late T.d_law_late ["_law_found", "_law_rows_here", "_law_outs_here", "_law_some_here"] (sp_law_late K) := by
  refine T.f_law_late.ok sc_law_late (fun vs H Q E h => ?_) (fun cdv A outer s H vs Q E hr h => ?_)
  · obtain ⟨t, q, u, a, b, d, R, rs, new, os, L, wss, N, rfl, _⟩ := h
    rfl
  obtain ⟨t, q, u, a, b, d, R, rs, new, os, L, wss, N, rfl, h⟩ := h
  refine ⟨_, (pss_cons (ps_set (i := 4) sc_law_late.nd rfl (.inr rfl) (pe_call (ok_law_beats T) (hr.mono (by decide)) (by rfl) T.g_law_beats T.f_law_beats.kp T.b_law_beats .nil pass0 (pa_cons (pe_ix (ix_tupK K) (pv 0) pe_int (fun _ _ => rfl)) (pa_cons (pv 3) pa_nil))))
      (pss_cons (ps_for PassesOwn.never rfl (pi_range2 (by rfl) T.z_range (pa_cons (pe_ix (ix_tupK K) (pv 0) pe_int (fun _ _ => rfl)) (pa_cons (pe_callB (c_lenK K) (by rfl) T.z_len PySem.boot_len (pa_cons (pv 3) pa_nil)) pa_nil))) (pg_name (i := 5) sc_law_late.nd rfl (.inr rfl))
      (pss_cons (ps_set (i := 6) sc_law_late.nd rfl (.inr rfl) (pe_call (ok_law_bits T) (hr.mono (by decide)) (by rfl) T.g_law_bits T.f_law_bits.kp T.b_law_bits .nil pass0 (pa_cons (pv 1) (pa_cons (pe_ix (ix_listK K) (pv 3) (pe_op op_sub (pv 5) (pe_ix (ix_tupK K) (pv 0) pe_int (fun _ _ => rfl))) (fun _ _ => rfl)) pa_nil))))
      (pss_one (ps_if (pt_cmpR (op_neD hr.units) (pe_lc (own := [("_law_wire_here", 7)]) (g := gName 7) (tt := tYes) (by rfl) sc_law_late.nd (pi_list (pe_ix (ix_tupK K) (pv 0) pe_int (fun _ _ => rfl))) (blkOk_by (N := ["_law_found", "_law_rows_here", "_law_outs_here", "_law_some_here", "_law_told_now", "_law_t", "_law_old", "_law_wire_here"]) (sc := defScope s_law_late) (by decide +kernel)) (fun _ _ _ _ _ => (pg_name (i := 7) sc_law_late.nd rfl (.inl rfl))) (fun _ _ _ _ _ => pts_nil) (fun _ _ _ _ _ => (pe_ix (ix_listK K) (pe_ix (ix_listK K) (pv 4) (pv 5) (fun _ _ => rfl)) (pv 7) (fun _ _ => rfl)))) (pe_lc (own := [("_law_wire_here", 7)]) (g := gName 7) (tt := tYes) (by rfl) sc_law_late.nd (pi_list (pv 2)) (blkOk_by (N := ["_law_found", "_law_rows_here", "_law_outs_here", "_law_some_here", "_law_told_now", "_law_t", "_law_old", "_law_wire_here"]) (sc := defScope s_law_late) (by decide +kernel)) (fun _ _ _ _ _ => (pg_name (i := 7) sc_law_late.nd rfl (.inl rfl))) (fun _ _ _ _ _ => pts_nil) (fun _ _ _ _ _ => (pe_ix (ix_listK K) (pv 6) (pv 7) (fun _ _ => rfl)))) (nomark _)) (pss_one (ps_ret pe_bl)) pss_nil))))
      (pss_one (ps_ret pe_bl)))), ?_⟩
  try dsimp only [cxOf, Cx.nox, Cx.wish]
  simp only [L2.start, List.map_cons, List.map_nil, List.length_cons, List.length_nil, Nat.reduceAdd, Nat.reduceSub, List.replicate_succ, List.replicate_zero, List.cons_append, List.nil_append]
  obtain ⟨ht, hM, hu, ha, hb, hd, okR, okr, nlr, hRl, hrl, has, hwl, hL, hnl, hlen, hn1, ho1, htell, h⟩ := h
  have hu' : H u = some (.lst ((natI new).map V.int)) := hu
  obtain ⟨ds, hD, hB⟩ := id hd
  have hdl := hB.1
  have hdm : (ds.map V.ref).length = wss.length := by rw [List.length_map]; exact hdl
  walk_at "ws"
  refine ⟨q, d, R, wss, N, rfl, hM.read, hd, okR, hRl, by omega, has, fun p H1 htold => ?_⟩
  obtain ⟨qs, np, hqs, s1, ep, hQ⟩ := htold
  have ht1 := s1 _ _ ht
  walk_at "ws"
  have hq : (((((ds.map V.ref).length : Nat) : Int) - (L : Int))).toNat = wss.length - L := by rw [hdm]; omega
  rw [hq]
  refine for_r2 (fun j σ' G => ∃ y5 y6 : Option V, σ' = [some (.ref t), some (.ref a), some (.ref b), some (.ref d), some (.ref p), y5, y6, none] ∧ Same H1 G) ⟨_, _, rfl, Same.refl _⟩ (fun j σ' G hj k => ?_) (fun σ' G k => ?_)
  · obtain ⟨y5, y6, rfl, sG⟩ := k
    have s1G := s1.trans sG
    have htw : L + j < wss.length := by omega
    have hjw : j < wss.length := by omega
    have htG := s1G _ _ ht
    obtain ⟨dp, hdp, hdat⟩ : ∃ dp, ds[j]? = some dp ∧ DictAt H dp wss[j] := by
      have hjd : j < ds.length := by omega
      obtain ⟨ws, e1, e2⟩ := hB.get (List.getElem?_eq_getElem hjd)
      rw [List.getElem?_eq_getElem hjw] at e1
      cases e1
      exact ⟨_, List.getElem?_eq_getElem hjd, e2⟩
    walk_at "ws"
    rw [show (L : Int) + (j : Int) - (L : Int) = ((j : Nat) : Int) by omega]
    refine w_ixL (s1G.seq hD) (ref_at hdp) ?_
    walk_at "ws"
    refine ⟨a, dp, rs, wss[j], N, rfl, ?_, s1G _ _ hdat, okr, nlr, has _ (List.getElem_mem hjw), by omega, fun p2 G2 n2 s2 e2 => ?_⟩
    · obtain ⟨psa, q1, q2⟩ := ha
      exact ⟨psa, s1G.seq q1, q2.mono fun _ _ e => s1G _ _ e⟩
    have s12 := s1G.trans s2
    have htG2 := s2 _ _ htG
    have hu2 := s12 _ _ hu'
    have ep2 := s2 _ _ (sG _ _ ep)
    have hbl : (beatsL R wss).length = wss.length := beats_len ..
    obtain ⟨pb, hpb, hib⟩ : ∃ pb, qs[L + j]? = some pb ∧ IntsAt H1 pb (((beatsL R wss)[L + j]?).getD []) := by
      have hjq : L + j < qs.length := by have := hQ.1; omega
      obtain ⟨bs, e1, e2⟩ := hQ.get (List.getElem?_eq_getElem hjq)
      exact ⟨_, List.getElem?_eq_getElem hjq, by rw [e1]; exact e2⟩
    have hib2 : G2 pb = some (.lst (((((beatsL R wss)[L + j]?).getD [])).map V.int)) := s2 _ _ (sG _ _ hib)
    have hbsl : ((((beatsL R wss)[L + j]?).getD [])).length = R.length := by
      rw [beats_at (List.getElem?_eq_getElem htw)]
      exact runL_len ..
    walk_at "ws"
    refine lc_l ((natI new).map V.int) ((new.map (atB R wss (L + j))).map V.int) (by rw [List.length_map, List.length_map, List.length_map, natI_len]) (SqL.of hu2) (by rw [List.length_map, natI_len]; omega) (fun x => rfl) (fun k x y G5 Q' hx5 hy5 s5 kk => ?_) (fun p5 G5 n5 s5 e5 => ?_)
    · obtain ⟨z, hz, rfl⟩ := get_map hx5
      obtain ⟨o, hu5, rfl⟩ := natI_get hz
      have hol := hn1 o (List.mem_of_getElem? hu5)
      rw [List.getElem?_map, List.getElem?_map, hu5] at hy5
      cases hy5
      walk_at "ws"
      rw [show (L : Int) + (j : Int) = ((L + j : Nat) : Int) by omega]
      refine w_ixL (SqL.of (s5 _ _ ep2)) (ref_at hpb) ?_
      walk_at "ws"
      refine w_ixL (SqL.of (s5 _ _ hib2)) (bit_get (by omega)) ?_
      exact kk
    walk_at "ws"
    refine lc_l ((natI os).map V.int) ((os.map (bit wss[j] rs)).map V.int) (by rw [List.length_map, List.length_map, List.length_map, natI_len]) (((s12.trans s5)).seq hb) (by rw [List.length_map, natI_len]; omega) (fun x => rfl) (fun k x y G6 Q' hx6 hy6 s6 kk => ?_) (fun p6 G6 n6 s6 e6 => ?_)
    · obtain ⟨z, hz, rfl⟩ := get_map hx6
      obtain ⟨o, hu6, rfl⟩ := natI_get hz
      have hol := ho1 o (List.mem_of_getElem? hu6)
      rw [List.getElem?_map, List.getElem?_map, hu6] at hy6
      cases hy6
      walk_at "ws"
      refine w_ixL (SqL.of (s6 _ _ (s5 _ _ e2))) (bit_get (bs := toldL wss[j] rs) (by rw [toldL_len]; exact hol)) ?_
      exact kk
    have hsame : new.map (atB R wss (L + j)) = os.map (bit wss[j] rs) := by
      apply List.ext_getElem
      · rw [List.length_map, List.length_map]; exact hlen
      · intro k h1 h2
        rw [List.length_map] at h1 h2
        rw [List.getElem_map, List.getElem_map, htell k _ _ (List.getElem?_eq_getElem h1) (List.getElem?_eq_getElem h2) (L + j) (by omega) htw]
        rw [show L + j - L = j by omega, List.getD_eq_getElem?_getD, List.getElem?_eq_getElem hjw]
        rfl
    rw [← hsame] at e6
    refine w_neSame (.list ((new.map (atB R wss (L + j))).map PyData.int)) (.lst (SqL.of (s6 _ _ e5)) (dp_ints _)) (.lst (SqL.of e6) (dp_ints _)) (shaped_ints _) ?_
    walk_at "ws"
    exact ⟨_, _, rfl, sG.trans ((s2.trans s5).trans s6)⟩
  · obtain ⟨y5, y6, rfl, sG⟩ := k
    walk_at "ws"
    exact h _ (s1.trans sG)

def sp_law (K : PySem.W.Frag) : Sp := fun vs H Q _ => ∃ (a : Addr) (ns : List Int), vs = [.ref a] ∧ SqL K H a (ns.map V.int) ∧ ns.length ≤ 63 ∧ (∀ z ∈ ns, Builtin.Int.intBits z ≤ 1048576) ∧ ∀ H', Q (.bl true) H'
theorem ok_law (T : Top K mg) : FnOk P w K mg base CX0 6 T.a_law T.d_law ["_law_script"] (sp_law K) := by
  refine T.f_law.ok sc_law (fun vs H Q E h => ?_) (fun cdv A outer s H vs Q E hr h => ?_)
  · obtain ⟨a, ns, rfl, _⟩ := h
    rfl
  obtain ⟨a, ns, rfl, h⟩ := h
  refine ⟨_, (pss_cons (ps_set (i := 1) sc_law.nd rfl (.inl rfl) (pe_call (ok_law_names T) (hr.mono (by decide)) (by rfl) T.g_law_names T.f_law_names.kp T.b_law_names .nil pass0 (pa_cons (pe_call (ok_law_mixed T) (hr.mono (by decide)) (by rfl) T.g_law_mixed T.f_law_mixed.kp T.b_law_mixed .nil pass0 (pa_cons (pe_call (ok_law_at T) (hr.mono (by decide)) (by rfl) T.g_law_at T.f_law_at.kp T.b_law_at .nil pass0 (pa_cons (pv 0) (pa_cons pe_int pa_nil))) (pa_cons pe_int pa_nil))) pa_nil)))
      (pss_cons (ps_set (i := 2) sc_law.nd rfl (.inl rfl) (pe_call (ok_law_ins T) (hr.mono (by decide)) (by rfl) T.g_law_ins T.f_law_ins.kp T.b_law_ins .nil pass0 (pa_cons (pv 1) (pa_cons (pe_call (ok_law_mixed T) (hr.mono (by decide)) (by rfl) T.g_law_mixed T.f_law_mixed.kp T.b_law_mixed .nil pass0 (pa_cons (pe_call (ok_law_at T) (hr.mono (by decide)) (by rfl) T.g_law_at T.f_law_at.kp T.b_law_at .nil pass0 (pa_cons (pv 0) (pa_cons pe_int pa_nil))) (pa_cons pe_int pa_nil))) (pa_cons (pe_op op_add pe_int (pe_op op_mod (pe_call (ok_law_at T) (hr.mono (by decide)) (by rfl) T.g_law_at T.f_law_at.kp T.b_law_at .nil pass0 (pa_cons (pv 0) (pa_cons pe_int pa_nil))) pe_int)) pa_nil)))))
      (pss_cons (ps_set (i := 3) sc_law.nd rfl (.inl rfl) (pe_call (ok_law_rows T) (hr.mono (by decide)) (by rfl) T.g_law_rows T.f_law_rows.kp T.b_law_rows .nil pass0 (pa_cons (pe_call (ok_law_numbers T) (hr.mono (by decide)) (by rfl) T.g_law_numbers T.f_law_numbers.kp T.b_law_numbers .nil pass0 (pa_cons (pv 0) (pa_cons pe_int pa_nil))) (pa_cons (pv 2) (pa_cons (pe_op op_mod (pe_op op_fdiv (pe_call (ok_law_at T) (hr.mono (by decide)) (by rfl) T.g_law_at T.f_law_at.kp T.b_law_at .nil pass0 (pa_cons (pv 0) (pa_cons pe_int pa_nil))) pe_int) pe_int) (pa_cons pe_bl pa_nil))))))
      (pss_cons (ps_set (i := 4) sc_law.nd rfl (.inl rfl) (pe_call (ok_law_outs T) (hr.mono (by decide)) (by rfl) T.g_law_outs T.f_law_outs.kp T.b_law_outs .nil pass0 (pa_cons (pv 3) (pa_cons (pe_call (ok_law_at T) (hr.mono (by decide)) (by rfl) T.g_law_at T.f_law_at.kp T.b_law_at .nil pass0 (pa_cons (pv 0) (pa_cons pe_int pa_nil))) pa_nil))))
      (pss_cons (ps_set (i := 5) sc_law.nd rfl (.inl rfl) (pe_call (ok_staged T) (hr.mono (by decide)) (by rfl) T.g_staged T.f_staged.kp T.b_staged .nil pass0 (pa_cons (pe_callTy (c_listK K) (by rfl) T.z_list (by decide +kernel) (pa_cons (pv 3) pa_nil)) (pa_cons (pe_callTy (c_listK K) (by rfl) T.z_list (by decide +kernel) (pa_cons (pv 4) pa_nil)) (pa_cons (pe_op op_add pe_int (pe_op op_mod (pe_call (ok_law_at T) (hr.mono (by decide)) (by rfl) T.g_law_at T.f_law_at.kp T.b_law_at .nil pass0 (pa_cons (pv 0) (pa_cons pe_int pa_nil))) pe_int)) pa_nil)))))
      (pss_cons (ps_if (PW.pt (pw_or (pt_not (pt_val (pe_call (ok_law_fine T) (hr.mono (by decide)) (by rfl) T.g_law_fine T.f_law_fine.kp T.b_law_fine .nil pass0 (pa_cons (pv 5) (pa_cons (pv 3) (pa_cons (pe_callB (c_lenK K) (by rfl) T.z_len PySem.boot_len (pa_cons (pv 4) pa_nil)) pa_nil)))))) (pw_or1 (pt_cmpR op_lt (pe_ix (ix_tupK K) (pv 5) pe_int (fun _ _ => rfl)) pe_int (nomark _))))) (pss_one (ps_ret pe_bl)) pss_nil)
      (pss_cons (ps_set (i := 6) sc_law.nd rfl (.inl rfl) (pe_callB (c_min2 rfl) (by rfl) T.z_min (by decide +kernel) (pa_cons pe_int (pa_cons (pe_op op_add (pe_ix (ix_tupK K) (pv 5) pe_int (fun _ _ => rfl)) pe_int) pa_nil))))
      (pss_cons (ps_if (pt_not (pt_val (pe_call (ok_law_late T) (hr.mono (by decide)) (by rfl) T.g_law_late T.f_law_late.kp T.b_law_late .nil pass0 (pa_cons (pv 5) (pa_cons (pv 3) (pa_cons (pv 4) (pa_cons (pe_call (ok_law_some T) (hr.mono (by decide)) (by rfl) T.g_law_some T.f_law_some.kp T.b_law_some .nil pass0 (pa_cons (pv 1) (pa_cons (pe_call (ok_law_at T) (hr.mono (by decide)) (by rfl) T.g_law_at T.f_law_at.kp T.b_law_at .nil pass0 (pa_cons (pv 0) (pa_cons pe_int pa_nil))) (pa_cons (pv 6) pa_nil)))) pa_nil))))))) (pss_one (ps_ret pe_bl)) pss_nil)
      (pss_one (ps_ret (pe_call (ok_law_late T) (hr.mono (by decide)) (by rfl) T.g_law_late T.f_law_late.kp T.b_law_late .nil pass0 (pa_cons (pv 5) (pa_cons (pv 3) (pa_cons (pv 4) (pa_cons (pe_call (ok_law_some T) (hr.mono (by decide)) (by rfl) T.g_law_some T.f_law_some.kp T.b_law_some .nil pass0 (pa_cons (pv 1) (pa_cons (pe_op op_add (pe_call (ok_law_at T) (hr.mono (by decide)) (by rfl) T.g_law_at T.f_law_at.kp T.b_law_at .nil pass0 (pa_cons (pv 0) (pa_cons pe_int pa_nil))) pe_int) (pa_cons (pe_callB (c_min2 rfl) (by rfl) T.z_min (by decide +kernel) (pa_cons pe_int (pa_cons (pe_op op_add (pe_ix (ix_tupK K) (pv 5) pe_int (fun _ _ => rfl)) pe_int) pa_nil))) pa_nil)))) pa_nil))))))))))))))), ?_⟩
  try dsimp only [cxOf, Cx.nox, Cx.wish]
  simp only [L2.start, List.map_cons, List.map_nil, List.length_cons, List.length_nil, Nat.reduceAdd, Nat.reduceSub, List.replicate_succ, List.replicate_zero, List.cons_append, List.nil_append]
  obtain ⟨hS, hlen, hb, h⟩ := h
  have hb : Bits ns := hb
  walk_at "ws"
  rename_i v0 b0 x0 y0 z0
  refine ⟨_, rfl, ⟨y0, z0⟩, fun nm pn Hn hn4 hnm nn sn en => ?_⟩
  walk_at "ws"
  rename_i v1 b1 x1 y1 z1 v2 b2
  refine ⟨_, nm, _, _, rfl, SqL.of en, hn4, ⟨y1, z1⟩, by omega, fun is pi Hi hil hin ni si hI => ?_⟩
  walk_at "ws"
  refine ⟨_, ns, _, rfl, (sn.trans si).seq hS, hb, by decide, fun xs px Hx hxl hx nx sx ex => ?_⟩
  walk_at "ws"
  rename_i v3 b3
  refine ⟨px, pi, xs, is, _, false, nm, rfl, SqL.of ex, hx, by omega, (hI.same sx).read, hin, by omega, by omega, fun rs pr Hr hrl hok hnl nr sr hR => ?_⟩
  have hnl := hnl rfl
  have sR : Same H Hr := ((sn.trans si).trans sx).trans sr
  have sNR : Same Hn Hr := (si.trans sx).trans sr
  clear si sx sr hI ex
  obtain ⟨ps, er, hA⟩ := hR
  have hpl := hA.1
  have hpm : (ps.map V.ref).length = rs.length := by rw [List.length_map, hpl]
  have hSR := sR.seq hS
  have hnmr := rows_named hnm hok
  walk_at "ws"
  rename_i v4 b4
  refine ⟨pr, ps.map V.ref, _, rfl, SqL.of er, by omega, b4, fun os po Ho ho hol no so eo => ?_⟩
  have ho' : ∀ o ∈ os, o < rs.length := fun o z => by have := ho o z; omega
  have sO := sR.trans so
  have hAo : A2 (RowAt Ho) ps rs := hA.mono fun _ _ e => so _ _ e
  have ero := so _ _ er
  have dn := fun w => dep_nn hok w
  have hD : ∀ w, w < rs.length → dep rs w ≤ ((63 : Nat) : Int) := fun w hw => by have := dep_le hok (w + 1) w (by omega); omega
  walk_at "ws"
  rename_i ph Hh nh sh eh pg Hg ng sg eg v5 b5
  have w0 := Int.emod_nonneg v5 (show (9 : Int) ≠ 0 by decide)
  have w1 := Int.emod_lt_of_pos v5 (show (0 : Int) < 9 by decide)
  have hm : 1 ≤ 1 + v5 % 9 := by omega
  have hmb : Builtin.Int.intBits (1 + v5 % 9) ≤ 1000 := Nat.le_trans (intBits_le_64 (by omega) (by omega)) (by decide)
  generalize 1 + v5 % 9 = m at *
  have sOG := sh.trans sg
  have erG := sOG _ _ ero
  have hAG : A2 (RowAt Hg) ps rs := hAo.mono fun _ _ e => sOG _ _ e
  refine ⟨ph, pg, rs, os, m, 63, _, rfl, ⟨ps, SqL.of (sg _ _ eh), hAG⟩, SqL.of eg, hok, hnl, by omega, ho', by omega, hm, hmb, hD, by omega, by omega, fun R P late new t q u Hf I hl1 hl2 hnew hRl nq nu qu et hM eu sf => ?_⟩
  have okR : RowsOk (· ∈ nm) R := I.ok
  have hRl2 : R.length ≤ 60000 := by omega
  have hnl2 : ∀ o ∈ new, o < R.length := fun o mo => by
    obtain ⟨k, hk, rfl⟩ := List.mem_iff_getElem.mp mo
    have hk2 : k < os.length := by have := hnew.1; omega
    exact (I.dom _ _ _ (hnew.2 k _ _ (List.getElem?_eq_getElem hk2) (List.getElem?_eq_getElem hk))).2.1
  have hl0 : 0 ≤ late := hl2 0 (List.mem_cons_self ..)
  have hlD : late ≤ 63 := by
    rcases List.mem_cons.mp hl1 with z | z
    · omega
    · obtain ⟨o, mo, rfl⟩ := List.mem_map.mp z
      have := hD o (ho' o mo)
      have := stI_le (dn o) hm
      omega
  obtain ⟨L, rfl⟩ := Int.eq_ofNat_of_zero_le hl0
  have htell : ∀ (wss : List (List (Str × Int))) (k x o : Nat), new[k]? = some x → os[k]? = some o → ∀ t : Nat, L ≤ t → t < wss.length → atB R wss t x = bit (wss.getD (t - L) []) rs o := fun wss k x o e1 e2 t h1 h2 => st_tell hok I (x + 1) x (Nat.lt_succ_self _) o L t (hnew.2 k o x e2 e1) h1 h2
  have hnewl := hnew.1
  have erF := sf _ _ erG
  have hAF : A2 (RowAt Hf) ps rs := hAG.mono fun _ _ e => sf _ _ e
  have eoF := sf _ _ (sOG _ _ eo)
  have enF := sf _ _ (sOG _ _ (so _ _ (sNR _ _ en)))
  have hSF := (sO.trans (sOG.trans sf)).seq hS
  walk_at "ws"
  refine ⟨t, q, u, pr, R, new, rs, _, (L : Int), (· ∈ nm), rfl, et, hM, eu, ⟨ps, SqL.of erF, hAF⟩, okR, I.ins, hnl2, by rw [List.length_map, natI_len, hnew.1], by omega, hnmr, fun H1 s1 => ?_⟩
  have et1 := s1 _ _ et
  have er1 := s1 _ _ erF
  have eo1 := s1 _ _ eoF
  have en1 := s1 _ _ enF
  have hS1 := s1.seq hSF
  have hM1 := hM.same s1
  have eu1 : NatsAt H1 u new := s1 _ _ eu
  have hR1 : RowsL K H1 pr rs := ⟨ps, SqL.of er1, hAF.mono fun _ _ e => s1 _ _ e⟩
  walk_at "ws"
  rename_i v6 b6
  have small : ∀ j : Int, 0 ≤ j → j ≤ 10 → Builtin.Int.intBits j ≤ 1048576 := fun j h0 h1 => Nat.le_trans (intBits_le_64 (by omega) (by omega)) (by decide)
  obtain ⟨M, hM0, hMb⟩ : ∃ M : Nat, (if (L : Int) + 4 < 40 then (L : Int) + 4 else 40) = (M : Int) ∧ M ≤ 40 := by
    split
    · exact ⟨L + 4, by omega, by omega⟩
    · exact ⟨40, rfl, by omega⟩
  rw [hM0]
  refine ⟨pn, nm, v6, M, rfl, SqL.of en1, hn4, fun j h0 h1 => bits_add b6 (small j h0 (by omega)), by omega, fun wps wss wp H2 hwl hws nw s2 ew hW => ?_⟩
  have hA2 : A2 (RowAt H2) ps rs := hAF.mono fun _ _ e => s2 _ _ (s1 _ _ e)
  walk_at "ws"
  refine ⟨t, q, u, pr, po, wp, R, rs, new, os, L, wss, (· ∈ nm), rfl, s2 _ _ et1, hM1.same s2, s2 _ _ eu1, ⟨ps, SqL.of (s2 _ _ er1), hA2⟩, SqL.of (s2 _ _ eo1), ⟨wps, SqL.of ew, hW⟩, okR, hok, hnl, by omega, by omega, fun ws m => (hws ws m).1, by omega, by omega, by omega, hnewl.symm, hnl2, ho', fun k x o e1 e2 => htell wss k x o e1 e2, fun H3 s3 => ?_⟩
  have s13 := s2.trans s3
  have et3 := s13 _ _ et1
  have hS3 := s13.seq hS1
  walk_at "ws"
  rename_i v7 b7
  obtain ⟨M2, hM2, hMb2⟩ : ∃ M : Nat, (if (L : Int) + 1 < 40 then (L : Int) + 1 else 40) = (M : Int) ∧ M ≤ 40 := by
    split
    · exact ⟨L + 1, by omega, by omega⟩
    · exact ⟨40, rfl, by omega⟩
  rw [hM2]
  refine ⟨pn, nm, v7 + 1, M2, rfl, SqL.of (s13 _ _ en1), hn4, fun j h0 h1 => by rw [Int.add_assoc]; exact bits_add b7 (small _ (by omega) (by omega)), by omega, fun wps2 wss2 wp2 H4 hwl2 hws2 nw2 s4 ew2 hW2 => ?_⟩
  have hA4 : A2 (RowAt H4) ps rs := hA2.mono fun _ _ e => s4 _ _ (s3 _ _ e)
  have s14 := s13.trans s4
  walk_at "ws"
  refine ⟨t, q, u, pr, po, wp2, R, rs, new, os, L, wss2, (· ∈ nm), rfl, s14 _ _ et1, hM1.same s14, s14 _ _ eu1, ⟨ps, SqL.of (s14 _ _ er1), hA4⟩, SqL.of (s14 _ _ eo1), ⟨wps2, SqL.of ew2, hW2⟩, okR, hok, hnl, by omega, by omega, fun ws m => (hws2 ws m).1, by omega, by omega, by omega, hnewl.symm, hnl2, ho', fun k x o e1 e2 => htell wss2 k x o e1 e2, fun H5 s5 => ?_⟩
  exact h _

end
theorem end_sp_law {K : PySem.W.Frag} {H : Hp} {a : Addr} {ns : List Int} (hl : ns.length ≤ 63) (hb : ∀ z ∈ ns, Builtin.Int.intBits z ≤ 1048576) (_ : Only H) (hS : SqL K H a (ns.map V.int)) : sp_law K [.ref a] H (fun v _ => v = .bl true) fun _ _ _ => False :=
  ⟨a, ns, rfl, hS, hl, hb, fun _ => rfl⟩
theorem all_mk {l : PySem.W.OpenLaw} {w : World} {K : PySem.W.Frag} {h : Heap} {mg : Str → Option Value} {fa ha0 ha1 ha2 ha3 ha4 ha5 ha6 ha7 ha8 ha9 ha10 ha11 ha12 ha13 ha14 ha15 ha16 ha17 ha18 ha19 ha20 ha21 ha22 ha23 ha24 ha25 ha26 ha27 ha28 ha29 ha30 c_Sheet c_Stages : Addr} (X : K.In h) (G : h.Ns mainGlobals mg) (hfa : mg "law" = some (.ref fa))
    {od0 an0 od1 an1 od2 an2 od3 an3 od4 an4 od5 an5 od6 an6 od7 an7 od8 an8 od9 an9 od10 an10 od11 an11 od12 an12 od13 an13 od14 an14 od15 an15 od16 an16 od17 an17 od18 an18 od19 an19 od20 an20 od21 an21 od22 an22 od23 an23 od24 an24 od25 an25 od26 an26 od27 an27 od28 an28 od29 an29 od30 an30 : Option Addr} {shl0 shl1 shl2 shl3 shl4 shl5 shl6 shl7 shl8 shl9 shl10 shl11 shl12 shl13 shl14 shl15 shl16 shl17 shl18 shl19 shl20 shl21 shl22 shl23 shl24 shl25 shl26 shl27 shl28 shl29 shl30 : Array (Option Value)} {oc0 kV0 dc0 pm0 cd0 ct0 oc1 kV1 dc1 pm1 cd1 ct1 oc2 kV2 dc2 pm2 cd2 ct2 oc3 kV3 dc3 pm3 cd3 ct3 oc4 kV4 dc4 pm4 cd4 ct4 oc5 kV5 dc5 pm5 cd5 ct5 oc6 kV6 dc6 pm6 cd6 ct6 oc7 kV7 dc7 pm7 cd7 ct7 oc8 kV8 dc8 pm8 cd8 ct8 oc9 kV9 dc9 pm9 cd9 ct9 oc10 kV10 dc10 pm10 cd10 ct10 oc11 kV11 dc11 pm11 cd11 ct11 oc12 kV12 dc12 pm12 cd12 ct12 oc13 kV13 dc13 pm13 cd13 ct13 oc14 kV14 dc14 pm14 cd14 ct14 oc15 kV15 dc15 pm15 cd15 ct15 oc16 kV16 dc16 pm16 cd16 ct16 oc17 kV17 dc17 pm17 cd17 ct17 oc18 kV18 dc18 pm18 cd18 ct18 oc19 kV19 dc19 pm19 cd19 ct19 oc20 kV20 dc20 pm20 cd20 ct20 oc21 kV21 dc21 pm21 cd21 ct21 oc22 kV22 dc22 pm22 cd22 ct22 oc23 kV23 dc23 pm23 cd23 ct23 oc24 kV24 dc24 pm24 cd24 ct24 oc25 kV25 dc25 pm25 cd25 ct25 oc26 kV26 dc26 pm26 cd26 ct26 oc27 kV27 dc27 pm27 cd27 ct27 oc28 kV28 dc28 pm28 cd28 ct28 oc29 kV29 dc29 pm29 cd29 ct29 oc30 kV30 dc30 pm30 cd30 ct30 : Value}
    (hg0 : PySem.W.nsIn K mainGlobals "own_wires" = some (some (.ref ha0)))
    (hl0 : K.lookup ha0 = some ⟨oc0, od0, .func (PySem.W.fnOf "own_wires" "own_wires" (defArgs s_own_wires) (defBody s_own_wires) (defScope s_own_wires) .none kV0 dc0 pm0 an0 cd0 ct0), shl0⟩)
    (hk0 : PySem.W.codeIn K cd0 "own_wires" = true)
    (hp0 : PySem.W.keepIn K (.ref ha0) = true)
    (hg1 : PySem.W.nsIn K mainGlobals "depths" = some (some (.ref ha1)))
    (hl1 : K.lookup ha1 = some ⟨oc1, od1, .func (PySem.W.fnOf "depths" "depths" (defArgs s_depths) (defBody s_depths) (defScope s_depths) .none kV1 dc1 pm1 an1 cd1 ct1), shl1⟩)
    (hk1 : PySem.W.codeIn K cd1 "depths" = true)
    (hp1 : PySem.W.keepIn K (.ref ha1) = true)
    (hg2 : PySem.W.nsIn K mainGlobals "needed" = some (some (.ref ha2)))
    (hl2 : K.lookup ha2 = some ⟨oc2, od2, .func (PySem.W.fnOf "needed" "needed" (defArgs s_needed) (defBody s_needed) (defScope s_needed) .none kV2 dc2 pm2 an2 cd2 ct2), shl2⟩)
    (hk2 : PySem.W.codeIn K cd2 "needed" = true)
    (hp2 : PySem.W.keepIn K (.ref ha2) = true)
    (hg3 : PySem.W.findIn K (.ref c_Sheet) "__init__" = some (some (.ref ha3)))
    (hi3 : PySem.W.isFn K (.ref ha3) = true)
    (hl3 : K.lookup ha3 = some ⟨oc3, od3, .func (PySem.W.fnOf "__init__" "Sheet.__init__" (defArgs s_Sheet__init) (defBody s_Sheet__init) (defScope s_Sheet__init) .none kV3 dc3 pm3 an3 cd3 ct3), shl3⟩)
    (hk3 : PySem.W.codeIn K cd3 "Sheet.__init__" = true)
    (hp3 : PySem.W.keepIn K (.ref ha3) = true)
    (hg4 : PySem.W.findIn K (.ref c_Sheet) "add" = some (some (.ref ha4)))
    (hi4 : PySem.W.isFn K (.ref ha4) = true)
    (hl4 : K.lookup ha4 = some ⟨oc4, od4, .func (PySem.W.fnOf "add" "Sheet.add" (defArgs s_Sheet_add) (defBody s_Sheet_add) (defScope s_Sheet_add) .none kV4 dc4 pm4 an4 cd4 ct4), shl4⟩)
    (hk4 : PySem.W.codeIn K cd4 "Sheet.add" = true)
    (hp4 : PySem.W.keepIn K (.ref ha4) = true)
    (hg5 : PySem.W.findIn K (.ref c_Sheet) "rows_now" = some (some (.ref ha5)))
    (hi5 : PySem.W.isFn K (.ref ha5) = true)
    (hl5 : K.lookup ha5 = some ⟨oc5, od5, .func (PySem.W.fnOf "rows_now" "Sheet.rows_now" (defArgs s_Sheet_rows_now) (defBody s_Sheet_rows_now) (defScope s_Sheet_rows_now) .none kV5 dc5 pm5 an5 cd5 ct5), shl5⟩)
    (hk5 : PySem.W.codeIn K cd5 "Sheet.rows_now" = true)
    (hp5 : PySem.W.keepIn K (.ref ha5) = true)
    (hg6 : PySem.W.findIn K (.ref c_Stages) "__init__" = some (some (.ref ha6)))
    (hi6 : PySem.W.isFn K (.ref ha6) = true)
    (hl6 : K.lookup ha6 = some ⟨oc6, od6, .func (PySem.W.fnOf "__init__" "Stages.__init__" (defArgs s_Stages__init) (defBody s_Stages__init) (defScope s_Stages__init) .none kV6 dc6 pm6 an6 cd6 ct6), shl6⟩)
    (hk6 : PySem.W.codeIn K cd6 "Stages.__init__" = true)
    (hp6 : PySem.W.keepIn K (.ref ha6) = true)
    (hg7 : PySem.W.findIn K (.ref c_Stages) "late" = some (some (.ref ha7)))
    (hi7 : PySem.W.isFn K (.ref ha7) = true)
    (hl7 : K.lookup ha7 = some ⟨oc7, od7, .func (PySem.W.fnOf "late" "Stages.late" (defArgs s_Stages_late) (defBody s_Stages_late) (defScope s_Stages_late) .none kV7 dc7 pm7 an7 cd7 ct7), shl7⟩)
    (hk7 : PySem.W.codeIn K cd7 "Stages.late" = true)
    (hp7 : PySem.W.keepIn K (.ref ha7) = true)
    (hg8 : PySem.W.findIn K (.ref c_Stages) "put" = some (some (.ref ha8)))
    (hi8 : PySem.W.isFn K (.ref ha8) = true)
    (hl8 : K.lookup ha8 = some ⟨oc8, od8, .func (PySem.W.fnOf "put" "Stages.put" (defArgs s_Stages_put) (defBody s_Stages_put) (defScope s_Stages_put) .none kV8 dc8 pm8 an8 cd8 ct8), shl8⟩)
    (hk8 : PySem.W.codeIn K cd8 "Stages.put" = true)
    (hp8 : PySem.W.keepIn K (.ref ha8) = true)
    (hg9 : PySem.W.nsIn K mainGlobals "stage_of" = some (some (.ref ha9)))
    (hl9 : K.lookup ha9 = some ⟨oc9, od9, .func (PySem.W.fnOf "stage_of" "stage_of" (defArgs s_stage_of) (defBody s_stage_of) (defScope s_stage_of) .none kV9 dc9 pm9 an9 cd9 ct9), shl9⟩)
    (hk9 : PySem.W.codeIn K cd9 "stage_of" = true)
    (hp9 : PySem.W.keepIn K (.ref ha9) = true)
    (hg10 : PySem.W.nsIn K mainGlobals "staged" = some (some (.ref ha10)))
    (hl10 : K.lookup ha10 = some ⟨oc10, od10, .func (PySem.W.fnOf "staged" "staged" (defArgs s_staged) (defBody s_staged) (defScope s_staged) .none kV10 dc10 pm10 an10 cd10 ct10), shl10⟩)
    (hk10 : PySem.W.codeIn K cd10 "staged" = true)
    (hp10 : PySem.W.keepIn K (.ref ha10) = true)
    (hg11 : PySem.W.nsIn K mainGlobals "_law_whole" = some (some (.ref ha11)))
    (hl11 : K.lookup ha11 = some ⟨oc11, od11, .func (PySem.W.fnOf "_law_whole" "_law_whole" (defArgs s_law_whole) (defBody s_law_whole) (defScope s_law_whole) .none kV11 dc11 pm11 an11 cd11 ct11), shl11⟩)
    (hk11 : PySem.W.codeIn K cd11 "_law_whole" = true)
    (hp11 : PySem.W.keepIn K (.ref ha11) = true)
    (hg12 : PySem.W.nsIn K mainGlobals "_law_at" = some (some (.ref ha12)))
    (hl12 : K.lookup ha12 = some ⟨oc12, od12, .func (PySem.W.fnOf "_law_at" "_law_at" (defArgs s_law_at) (defBody s_law_at) (defScope s_law_at) .none kV12 dc12 pm12 an12 cd12 ct12), shl12⟩)
    (hk12 : PySem.W.codeIn K cd12 "_law_at" = true)
    (hp12 : PySem.W.keepIn K (.ref ha12) = true)
    (hg13 : PySem.W.nsIn K mainGlobals "_law_mixed" = some (some (.ref ha13)))
    (hl13 : K.lookup ha13 = some ⟨oc13, od13, .func (PySem.W.fnOf "_law_mixed" "_law_mixed" (defArgs s_law_mixed) (defBody s_law_mixed) (defScope s_law_mixed) .none kV13 dc13 pm13 an13 cd13 ct13), shl13⟩)
    (hk13 : PySem.W.codeIn K cd13 "_law_mixed" = true)
    (hp13 : PySem.W.keepIn K (.ref ha13) = true)
    (hg14 : PySem.W.nsIn K mainGlobals "_law_numbers" = some (some (.ref ha14)))
    (hl14 : K.lookup ha14 = some ⟨oc14, od14, .func (PySem.W.fnOf "_law_numbers" "_law_numbers" (defArgs s_law_numbers) (defBody s_law_numbers) (defScope s_law_numbers) .none kV14 dc14 pm14 an14 cd14 ct14), shl14⟩)
    (hk14 : PySem.W.codeIn K cd14 "_law_numbers" = true)
    (hp14 : PySem.W.keepIn K (.ref ha14) = true)
    (hg15 : PySem.W.nsIn K mainGlobals "_law_names" = some (some (.ref ha15)))
    (hl15 : K.lookup ha15 = some ⟨oc15, od15, .func (PySem.W.fnOf "_law_names" "_law_names" (defArgs s_law_names) (defBody s_law_names) (defScope s_law_names) .none kV15 dc15 pm15 an15 cd15 ct15), shl15⟩)
    (hk15 : PySem.W.codeIn K cd15 "_law_names" = true)
    (hp15 : PySem.W.keepIn K (.ref ha15) = true)
    (hg16 : PySem.W.nsIn K mainGlobals "_law_great" = some (some (.ref ha16)))
    (hl16 : K.lookup ha16 = some ⟨oc16, od16, .func (PySem.W.fnOf "_law_great" "_law_great" (defArgs s_law_great) (defBody s_law_great) (defScope s_law_great) .none kV16 dc16 pm16 an16 cd16 ct16), shl16⟩)
    (hk16 : PySem.W.codeIn K cd16 "_law_great" = true)
    (hp16 : PySem.W.keepIn K (.ref ha16) = true)
    (hg17 : PySem.W.nsIn K mainGlobals "_law_ins" = some (some (.ref ha17)))
    (hl17 : K.lookup ha17 = some ⟨oc17, od17, .func (PySem.W.fnOf "_law_ins" "_law_ins" (defArgs s_law_ins) (defBody s_law_ins) (defScope s_law_ins) .none kV17 dc17 pm17 an17 cd17 ct17), shl17⟩)
    (hk17 : PySem.W.codeIn K cd17 "_law_ins" = true)
    (hp17 : PySem.W.keepIn K (.ref ha17) = true)
    (hg18 : PySem.W.nsIn K mainGlobals "_law_rows" = some (some (.ref ha18)))
    (hl18 : K.lookup ha18 = some ⟨oc18, od18, .func (PySem.W.fnOf "_law_rows" "_law_rows" (defArgs s_law_rows) (defBody s_law_rows) (defScope s_law_rows) .none kV18 dc18 pm18 an18 cd18 ct18), shl18⟩)
    (hk18 : PySem.W.codeIn K cd18 "_law_rows" = true)
    (hp18 : PySem.W.keepIn K (.ref ha18) = true)
    (hg19 : PySem.W.nsIn K mainGlobals "_law_turned" = some (some (.ref ha19)))
    (hl19 : K.lookup ha19 = some ⟨oc19, od19, .func (PySem.W.fnOf "_law_turned" "_law_turned" (defArgs s_law_turned) (defBody s_law_turned) (defScope s_law_turned) .none kV19 dc19 pm19 an19 cd19 ct19), shl19⟩)
    (hk19 : PySem.W.codeIn K cd19 "_law_turned" = true)
    (hp19 : PySem.W.keepIn K (.ref ha19) = true)
    (hg20 : PySem.W.nsIn K mainGlobals "_law_gate" = some (some (.ref ha20)))
    (hl20 : K.lookup ha20 = some ⟨oc20, od20, .func (PySem.W.fnOf "_law_gate" "_law_gate" (defArgs s_law_gate) (defBody s_law_gate) (defScope s_law_gate) .none kV20 dc20 pm20 an20 cd20 ct20), shl20⟩)
    (hk20 : PySem.W.codeIn K cd20 "_law_gate" = true)
    (hp20 : PySem.W.keepIn K (.ref ha20) = true)
    (hg21 : PySem.W.nsIn K mainGlobals "_law_bit" = some (some (.ref ha21)))
    (hl21 : K.lookup ha21 = some ⟨oc21, od21, .func (PySem.W.fnOf "_law_bit" "_law_bit" (defArgs s_law_bit) (defBody s_law_bit) (defScope s_law_bit) .none kV21 dc21 pm21 an21 cd21 ct21), shl21⟩)
    (hk21 : PySem.W.codeIn K cd21 "_law_bit" = true)
    (hp21 : PySem.W.keepIn K (.ref ha21) = true)
    (hg22 : PySem.W.nsIn K mainGlobals "_law_bits" = some (some (.ref ha22)))
    (hl22 : K.lookup ha22 = some ⟨oc22, od22, .func (PySem.W.fnOf "_law_bits" "_law_bits" (defArgs s_law_bits) (defBody s_law_bits) (defScope s_law_bits) .none kV22 dc22 pm22 an22 cd22 ct22), shl22⟩)
    (hk22 : PySem.W.codeIn K cd22 "_law_bits" = true)
    (hp22 : PySem.W.keepIn K (.ref ha22) = true)
    (hg23 : PySem.W.nsIn K mainGlobals "_law_wire" = some (some (.ref ha23)))
    (hl23 : K.lookup ha23 = some ⟨oc23, od23, .func (PySem.W.fnOf "_law_wire" "_law_wire" (defArgs s_law_wire) (defBody s_law_wire) (defScope s_law_wire) .none kV23 dc23 pm23 an23 cd23 ct23), shl23⟩)
    (hk23 : PySem.W.codeIn K cd23 "_law_wire" = true)
    (hp23 : PySem.W.keepIn K (.ref ha23) = true)
    (hg24 : PySem.W.nsIn K mainGlobals "_law_fine_row" = some (some (.ref ha24)))
    (hl24 : K.lookup ha24 = some ⟨oc24, od24, .func (PySem.W.fnOf "_law_fine_row" "_law_fine_row" (defArgs s_law_fine_row) (defBody s_law_fine_row) (defScope s_law_fine_row) .none kV24 dc24 pm24 an24 cd24 ct24), shl24⟩)
    (hk24 : PySem.W.codeIn K cd24 "_law_fine_row" = true)
    (hp24 : PySem.W.keepIn K (.ref ha24) = true)
    (hg25 : PySem.W.nsIn K mainGlobals "_law_fine" = some (some (.ref ha25)))
    (hl25 : K.lookup ha25 = some ⟨oc25, od25, .func (PySem.W.fnOf "_law_fine" "_law_fine" (defArgs s_law_fine) (defBody s_law_fine) (defScope s_law_fine) .none kV25 dc25 pm25 an25 cd25 ct25), shl25⟩)
    (hk25 : PySem.W.codeIn K cd25 "_law_fine" = true)
    (hp25 : PySem.W.keepIn K (.ref ha25) = true)
    (hg26 : PySem.W.nsIn K mainGlobals "_law_outs" = some (some (.ref ha26)))
    (hl26 : K.lookup ha26 = some ⟨oc26, od26, .func (PySem.W.fnOf "_law_outs" "_law_outs" (defArgs s_law_outs) (defBody s_law_outs) (defScope s_law_outs) .none kV26 dc26 pm26 an26 cd26 ct26), shl26⟩)
    (hk26 : PySem.W.codeIn K cd26 "_law_outs" = true)
    (hp26 : PySem.W.keepIn K (.ref ha26) = true)
    (hg27 : PySem.W.nsIn K mainGlobals "_law_beats" = some (some (.ref ha27)))
    (hl27 : K.lookup ha27 = some ⟨oc27, od27, .func (PySem.W.fnOf "_law_beats" "_law_beats" (defArgs s_law_beats) (defBody s_law_beats) (defScope s_law_beats) .none kV27 dc27 pm27 an27 cd27 ct27), shl27⟩)
    (hk27 : PySem.W.codeIn K cd27 "_law_beats" = true)
    (hp27 : PySem.W.keepIn K (.ref ha27) = true)
    (hg28 : PySem.W.nsIn K mainGlobals "_law_some" = some (some (.ref ha28)))
    (hl28 : K.lookup ha28 = some ⟨oc28, od28, .func (PySem.W.fnOf "_law_some" "_law_some" (defArgs s_law_some) (defBody s_law_some) (defScope s_law_some) .none kV28 dc28 pm28 an28 cd28 ct28), shl28⟩)
    (hk28 : PySem.W.codeIn K cd28 "_law_some" = true)
    (hp28 : PySem.W.keepIn K (.ref ha28) = true)
    (hg29 : PySem.W.nsIn K mainGlobals "_law_late" = some (some (.ref ha29)))
    (hl29 : K.lookup ha29 = some ⟨oc29, od29, .func (PySem.W.fnOf "_law_late" "_law_late" (defArgs s_law_late) (defBody s_law_late) (defScope s_law_late) .none kV29 dc29 pm29 an29 cd29 ct29), shl29⟩)
    (hk29 : PySem.W.codeIn K cd29 "_law_late" = true)
    (hp29 : PySem.W.keepIn K (.ref ha29) = true)
    (hg30 : PySem.W.nsIn K mainGlobals "law" = some (some (.ref ha30)))
    (hl30 : K.lookup ha30 = some ⟨oc30, od30, .func (PySem.W.fnOf "law" "law" (defArgs s_law) (defBody s_law) (defScope s_law) .none kV30 dc30 pm30 an30 cd30 ct30), shl30⟩)
    (hk30 : PySem.W.codeIn K cd30 "law" = true)
    (hp30 : PySem.W.keepIn K (.ref ha30) = true)
    (gc_Sheet : PySem.W.nsIn K mainGlobals "Sheet" = some (some (.ref c_Sheet)))
    (kc_Sheet : PySem.W.keepIn K (.ref c_Sheet) = true)
    (pg_Sheet : PySem.W.plainGet K c_Sheet Str.empty = true)
    (hd_Sheet : PySem.W.hasDictIn K c_Sheet = true)
    (po_Sheet : PySem.W.plainOver K c_Sheet = true)
    (sa_Sheet : PySem.W.findIn K (.ref c_Sheet) "__setattr__" = some (some (.builtin "object.__setattr__")))
    (mk_Sheet : PySem.W.makesIn K c_Sheet = true)
    (n_Sheet_rows : PySem.W.findIn K (.ref c_Sheet) "rows" = some none)
    (gc_Stages : PySem.W.nsIn K mainGlobals "Stages" = some (some (.ref c_Stages)))
    (kc_Stages : PySem.W.keepIn K (.ref c_Stages) = true)
    (pg_Stages : PySem.W.plainGet K c_Stages Str.empty = true)
    (hd_Stages : PySem.W.hasDictIn K c_Stages = true)
    (po_Stages : PySem.W.plainOver K c_Stages = true)
    (sa_Stages : PySem.W.findIn K (.ref c_Stages) "__setattr__" = some (some (.builtin "object.__setattr__")))
    (mk_Stages : PySem.W.makesIn K c_Stages = true)
    (n_Stages_sheet : PySem.W.findIn K (.ref c_Stages) "sheet" = some none)
    (n_Stages_places : PySem.W.findIn K (.ref c_Stages) "places" = some none)
    (z_bool : PySem.W.nsIn K mainGlobals "bool" = some none)
    (z_enumerate : PySem.W.nsIn K mainGlobals "enumerate" = some none)
    (z_int : PySem.W.nsIn K mainGlobals "int" = some none)
    (z_isinstance : PySem.W.nsIn K mainGlobals "isinstance" = some none)
    (z_len : PySem.W.nsIn K mainGlobals "len" = some none)
    (z_list : PySem.W.nsIn K mainGlobals "list" = some none)
    (z_max : PySem.W.nsIn K mainGlobals "max" = some none)
    (z_min : PySem.W.nsIn K mainGlobals "min" = some none)
    (z_range : PySem.W.nsIn K mainGlobals "range" = some none)
    (z_reversed : PySem.W.nsIn K mainGlobals "reversed" = some none)
    (z_str : PySem.W.nsIn K mainGlobals "str" = some none)
    (z_tuple : PySem.W.nsIn K mainGlobals "tuple" = some none) :
    ∃ fd : FuncData, (∀ (s : Shared) (v : Value), BindsTo s fd ⟨[v], []⟩ [("_law_script", v)]) ∧ ∀ base : Heap, K.In base → base.Ns mainGlobals mg → FnOk l.prog w K mg base CX0 6 fa fd ["_law_script"] (sp_law K) := by
  have e := hfa.symm.trans (PySem.W.mg_of X G hg30)
  cases e
  have F0 := fun_mk (st := s_own_wires) hl0 hk0 hp0
  have B0 := F0.binds (ps := ["row"]) fun _ _ _ _ _ _ us hl => match us, hl with | [_], _ => rfl
  have F1 := fun_mk (st := s_depths) hl1 hk1 hp1
  have B1 := F1.binds (ps := ["rows"]) fun _ _ _ _ _ _ us hl => match us, hl with | [_], _ => rfl
  have F2 := fun_mk (st := s_needed) hl2 hk2 hp2
  have B2 := F2.binds (ps := ["rows", "outs"]) fun _ _ _ _ _ _ us hl => match us, hl with | [_, _], _ => rfl
  have F3 := fun_mk (st := s_Sheet__init) hl3 hk3 hp3
  have B3 := F3.binds (ps := ["self"]) fun _ _ _ _ _ _ us hl => match us, hl with | [_], _ => rfl
  have F4 := fun_mk (st := s_Sheet_add) hl4 hk4 hp4
  have B4 := F4.binds (ps := ["self", "row"]) fun _ _ _ _ _ _ us hl => match us, hl with | [_, _], _ => rfl
  have F5 := fun_mk (st := s_Sheet_rows_now) hl5 hk5 hp5
  have B5 := F5.binds (ps := ["self"]) fun _ _ _ _ _ _ us hl => match us, hl with | [_], _ => rfl
  have F6 := fun_mk (st := s_Stages__init) hl6 hk6 hp6
  have B6 := F6.binds (ps := ["self"]) fun _ _ _ _ _ _ us hl => match us, hl with | [_], _ => rfl
  have F7 := fun_mk (st := s_Stages_late) hl7 hk7 hp7
  have B7 := F7.binds (ps := ["self", "wire", "stage"]) fun _ _ _ _ _ _ us hl => match us, hl with | [_, _, _], _ => rfl
  have F8 := fun_mk (st := s_Stages_put) hl8 hk8 hp8
  have B8 := F8.binds (ps := ["self", "wire", "row", "stage"]) fun _ _ _ _ _ _ us hl => match us, hl with | [_, _, _, _], _ => rfl
  have F9 := fun_mk (st := s_stage_of) hl9 hk9 hp9
  have B9 := F9.binds (ps := ["deep", "most"]) fun _ _ _ _ _ _ us hl => match us, hl with | [_, _], _ => rfl
  have F10 := fun_mk (st := s_staged) hl10 hk10 hp10
  have B10 := F10.binds (ps := ["rows", "outs", "most"]) fun _ _ _ _ _ _ us hl => match us, hl with | [_, _, _], _ => rfl
  have F11 := fun_mk (st := s_law_whole) hl11 hk11 hp11
  have B11 := F11.binds (ps := ["_law_found"]) fun _ _ _ _ _ _ us hl => match us, hl with | [_], _ => rfl
  have F12 := fun_mk (st := s_law_at) hl12 hk12 hp12
  have B12 := F12.binds (ps := ["_law_script", "_law_k"]) fun _ _ _ _ _ _ us hl => match us, hl with | [_, _], _ => rfl
  have F13 := fun_mk (st := s_law_mixed) hl13 hk13 hp13
  have B13 := F13.binds (ps := ["_law_cell", "_law_k"]) fun _ _ _ _ _ _ us hl => match us, hl with | [_, _], _ => rfl
  have F14 := fun_mk (st := s_law_numbers) hl14 hk14 hp14
  have B14 := F14.binds (ps := ["_law_script", "_law_start"]) fun _ _ _ _ _ _ us hl => match us, hl with | [_, _], _ => rfl
  have F15 := fun_mk (st := s_law_names) hl15 hk15 hp15
  have B15 := F15.binds (ps := ["_law_number"]) fun _ _ _ _ _ _ us hl => match us, hl with | [_], _ => rfl
  have F16 := fun_mk (st := s_law_great) hl16 hk16 hp16
  have B16 := F16.binds (ps := ["_law_cell", "_law_k"]) fun _ _ _ _ _ _ us hl => match us, hl with | [_, _], _ => rfl
  have F17 := fun_mk (st := s_law_ins) hl17 hk17 hp17
  have B17 := F17.binds (ps := ["_law_names_here", "_law_number", "_law_many"]) fun _ _ _ _ _ _ us hl => match us, hl with | [_, _, _], _ => rfl
  have F18 := fun_mk (st := s_law_rows) hl18 hk18 hp18
  have B18 := F18.binds (ps := ["_law_numbers_here", "_law_ins_here", "_law_near", "_law_late_here"]) fun _ _ _ _ _ _ us hl => match us, hl with | [_, _, _, _], _ => rfl
  have F19 := fun_mk (st := s_law_turned) hl19 hk19 hp19
  have B19 := F19.binds (ps := ["_law_row"]) fun _ _ _ _ _ _ us hl => match us, hl with | [_], _ => rfl
  have F20 := fun_mk (st := s_law_gate) hl20 hk20 hp20
  have B20 := F20.binds (ps := ["_law_number", "_law_one", "_law_two"]) fun _ _ _ _ _ _ us hl => match us, hl with | [_, _, _], _ => rfl
  have F21 := fun_mk (st := s_law_bit) hl21 hk21 hp21
  have B21 := F21.binds (ps := ["_law_row", "_law_bits_here", "_law_words"]) fun _ _ _ _ _ _ us hl => match us, hl with | [_, _, _], _ => rfl
  have F22 := fun_mk (st := s_law_bits) hl22 hk22 hp22
  have B22 := F22.binds (ps := ["_law_rows_here", "_law_words"]) fun _ _ _ _ _ _ us hl => match us, hl with | [_, _], _ => rfl
  have F23 := fun_mk (st := s_law_wire) hl23 hk23 hp23
  have B23 := F23.binds (ps := ["_law_found", "_law_at_here"]) fun _ _ _ _ _ _ us hl => match us, hl with | [_, _], _ => rfl
  have F24 := fun_mk (st := s_law_fine_row) hl24 hk24 hp24
  have B24 := F24.binds (ps := ["_law_row", "_law_at_here", "_law_ins_here"]) fun _ _ _ _ _ _ us hl => match us, hl with | [_, _, _], _ => rfl
  have F25 := fun_mk (st := s_law_fine) hl25 hk25 hp25
  have B25 := F25.binds (ps := ["_law_found", "_law_ins_here", "_law_many"]) fun _ _ _ _ _ _ us hl => match us, hl with | [_, _, _], _ => rfl
  have F26 := fun_mk (st := s_law_outs) hl26 hk26 hp26
  have B26 := F26.binds (ps := ["_law_rows_here", "_law_cell"]) fun _ _ _ _ _ _ us hl => match us, hl with | [_, _], _ => rfl
  have F27 := fun_mk (st := s_law_beats) hl27 hk27 hp27
  have B27 := F27.binds (ps := ["_law_rows_here", "_law_some_here"]) fun _ _ _ _ _ _ us hl => match us, hl with | [_, _], _ => rfl
  have F28 := fun_mk (st := s_law_some) hl28 hk28 hp28
  have B28 := F28.binds (ps := ["_law_names_here", "_law_cell", "_law_many"]) fun _ _ _ _ _ _ us hl => match us, hl with | [_, _, _], _ => rfl
  have F29 := fun_mk (st := s_law_late) hl29 hk29 hp29
  have B29 := F29.binds (ps := ["_law_found", "_law_rows_here", "_law_outs_here", "_law_some_here"]) fun _ _ _ _ _ _ us hl => match us, hl with | [_, _, _, _], _ => rfl
  have F30 := fun_mk (st := s_law) hl30 hk30 hp30
  have B30 := F30.binds (ps := ["_law_script"]) fun _ _ _ _ _ _ us hl => match us, hl with | [_], _ => rfl
  let T : Top K mg := ⟨ha0,
    _,
    F0,
    B0,
    PySem.W.mg_of X G hg0,
    ha1,
    _,
    F1,
    B1,
    PySem.W.mg_of X G hg1,
    ha2,
    _,
    F2,
    B2,
    PySem.W.mg_of X G hg2,
    ha3,
    _,
    F3,
    B3,
    ha4,
    _,
    F4,
    B4,
    ha5,
    _,
    F5,
    B5,
    ha6,
    _,
    F6,
    B6,
    ha7,
    _,
    F7,
    B7,
    ha8,
    _,
    F8,
    B8,
    ha9,
    _,
    F9,
    B9,
    PySem.W.mg_of X G hg9,
    ha10,
    _,
    F10,
    B10,
    PySem.W.mg_of X G hg10,
    ha11,
    _,
    F11,
    B11,
    PySem.W.mg_of X G hg11,
    ha12,
    _,
    F12,
    B12,
    PySem.W.mg_of X G hg12,
    ha13,
    _,
    F13,
    B13,
    PySem.W.mg_of X G hg13,
    ha14,
    _,
    F14,
    B14,
    PySem.W.mg_of X G hg14,
    ha15,
    _,
    F15,
    B15,
    PySem.W.mg_of X G hg15,
    ha16,
    _,
    F16,
    B16,
    PySem.W.mg_of X G hg16,
    ha17,
    _,
    F17,
    B17,
    PySem.W.mg_of X G hg17,
    ha18,
    _,
    F18,
    B18,
    PySem.W.mg_of X G hg18,
    ha19,
    _,
    F19,
    B19,
    PySem.W.mg_of X G hg19,
    ha20,
    _,
    F20,
    B20,
    PySem.W.mg_of X G hg20,
    ha21,
    _,
    F21,
    B21,
    PySem.W.mg_of X G hg21,
    ha22,
    _,
    F22,
    B22,
    PySem.W.mg_of X G hg22,
    ha23,
    _,
    F23,
    B23,
    PySem.W.mg_of X G hg23,
    ha24,
    _,
    F24,
    B24,
    PySem.W.mg_of X G hg24,
    ha25,
    _,
    F25,
    B25,
    PySem.W.mg_of X G hg25,
    ha26,
    _,
    F26,
    B26,
    PySem.W.mg_of X G hg26,
    ha27,
    _,
    F27,
    B27,
    PySem.W.mg_of X G hg27,
    ha28,
    _,
    F28,
    B28,
    PySem.W.mg_of X G hg28,
    ha29,
    _,
    F29,
    B29,
    PySem.W.mg_of X G hg29,
    fa,
    _,
    F30,
    B30,
    PySem.W.mg_of X G hg30,
    c_Sheet,
    PySem.W.mg_of X G gc_Sheet,
    gc_Sheet,
    kc_Sheet,
    ⟨pg_Sheet, hd_Sheet, po_Sheet, sa_Sheet⟩,
    ⟨mk_Sheet, hg3, hi3, kc_Sheet⟩,
    ⟨hg4, hi4, hp4⟩,
    ⟨hg5, hi5, hp5⟩,
    n_Sheet_rows,
    c_Stages,
    PySem.W.mg_of X G gc_Stages,
    gc_Stages,
    kc_Stages,
    ⟨pg_Stages, hd_Stages, po_Stages, sa_Stages⟩,
    ⟨mk_Stages, hg6, hi6, kc_Stages⟩,
    ⟨hg7, hi7, hp7⟩,
    ⟨hg8, hi8, hp8⟩,
    n_Stages_sheet,
    n_Stages_places,
    PySem.W.mg_none_of X G z_bool,
    PySem.W.mg_none_of X G z_enumerate,
    PySem.W.mg_none_of X G z_int,
    PySem.W.mg_none_of X G z_isinstance,
    PySem.W.mg_none_of X G z_len,
    PySem.W.mg_none_of X G z_list,
    PySem.W.mg_none_of X G z_max,
    PySem.W.mg_none_of X G z_min,
    PySem.W.mg_none_of X G z_range,
    PySem.W.mg_none_of X G z_reversed,
    PySem.W.mg_none_of X G z_str,
    PySem.W.mg_none_of X G z_tuple⟩
  exact ⟨T.d_law, fun s v => .of_eq rfl, fun base _ _ => ok_law T⟩
end Dpr
open PySem PySem.W PyProof.Rows
set_option maxHeartbeats 0 in
theorem PySem.Challenge.cw_dotpress_k51_stages_tell_late_holds : PySem.Challenge.rw_dotpress_k51_stages_tell_late.Holds := by
  w_on; o_law; k_head; (case hw => w_witness2)
  k_fill
  refine L2.walk_ofB (l := PySem.Challenge.rw_dotpress_k51_stages_tell_late) (n := 63) (k := 6) (x := "_law_script") (CX := fun _ => L2.CX0) (sp := fun w => Dpr.sp_law _) rfl (by decide) rfl ⟨rfl, by decide, by decide⟩ (fun w h Y => PySem.W.kIn_of Y) ?F (fun w H a ns hl hb hO hS => Dpr.end_sp_law hl hb hO hS) (fun _ _ _ _ _ h => h)
  case F =>
    intro w mg fa h KX G hmg
    refine' Dpr.all_mk KX G hmg ?hg0 ?hl0 ?hk0 ?hp0 ?hg1 ?hl1 ?hk1 ?hp1 ?hg2 ?hl2 ?hk2 ?hp2 ?hg3 ?hi3 ?hl3 ?hk3 ?hp3 ?hg4 ?hi4 ?hl4 ?hk4 ?hp4 ?hg5 ?hi5 ?hl5 ?hk5 ?hp5 ?hg6 ?hi6 ?hl6 ?hk6 ?hp6 ?hg7 ?hi7 ?hl7 ?hk7 ?hp7 ?hg8 ?hi8 ?hl8 ?hk8 ?hp8 ?hg9 ?hl9 ?hk9 ?hp9 ?hg10 ?hl10 ?hk10 ?hp10 ?hg11 ?hl11 ?hk11 ?hp11 ?hg12 ?hl12 ?hk12 ?hp12 ?hg13 ?hl13 ?hk13 ?hp13 ?hg14 ?hl14 ?hk14 ?hp14 ?hg15 ?hl15 ?hk15 ?hp15 ?hg16 ?hl16 ?hk16 ?hp16 ?hg17 ?hl17 ?hk17 ?hp17 ?hg18 ?hl18 ?hk18 ?hp18 ?hg19 ?hl19 ?hk19 ?hp19 ?hg20 ?hl20 ?hk20 ?hp20 ?hg21 ?hl21 ?hk21 ?hp21 ?hg22 ?hl22 ?hk22 ?hp22 ?hg23 ?hl23 ?hk23 ?hp23 ?hg24 ?hl24 ?hk24 ?hp24 ?hg25 ?hl25 ?hk25 ?hp25 ?hg26 ?hl26 ?hk26 ?hp26 ?hg27 ?hl27 ?hk27 ?hp27 ?hg28 ?hl28 ?hk28 ?hp28 ?hg29 ?hl29 ?hk29 ?hp29 ?hg30 ?hl30 ?hk30 ?hp30 ?gc_Sheet ?kc_Sheet ?pg_Sheet ?hd_Sheet ?po_Sheet ?sa_Sheet ?mk_Sheet ?n_Sheet_rows ?gc_Stages ?kc_Stages ?pg_Stages ?hd_Stages ?po_Stages ?sa_Stages ?mk_Stages ?n_Stages_sheet ?n_Stages_places ?z_bool ?z_enumerate ?z_int ?z_isinstance ?z_len ?z_list ?z_max ?z_min ?z_range ?z_reversed ?z_str ?z_tuple
    (case gc_Sheet => k_is)
    (case gc_Stages => k_is)
    (case hg0 => k_is)
    (case hl0 => k_is)
    (case hk0 => k_is)
    (case hp0 => k_is)
    (case hg1 => k_is)
    (case hl1 => k_is)
    (case hk1 => k_is)
    (case hp1 => k_is)
    (case hg2 => k_is)
    (case hl2 => k_is)
    (case hk2 => k_is)
    (case hp2 => k_is)
    (case hg3 => k_is)
    (case hi3 => k_is)
    (case hl3 => k_is)
    (case hk3 => k_is)
    (case hp3 => k_is)
    (case hg4 => k_is)
    (case hi4 => k_is)
    (case hl4 => k_is)
    (case hk4 => k_is)
    (case hp4 => k_is)
    (case hg5 => k_is)
    (case hi5 => k_is)
    (case hl5 => k_is)
    (case hk5 => k_is)
    (case hp5 => k_is)
    (case hg6 => k_is)
    (case hi6 => k_is)
    (case hl6 => k_is)
    (case hk6 => k_is)
    (case hp6 => k_is)
    (case hg7 => k_is)
    (case hi7 => k_is)
    (case hl7 => k_is)
    (case hk7 => k_is)
    (case hp7 => k_is)
    (case hg8 => k_is)
    (case hi8 => k_is)
    (case hl8 => k_is)
    (case hk8 => k_is)
    (case hp8 => k_is)
    (case hg9 => k_is)
    (case hl9 => k_is)
    (case hk9 => k_is)
    (case hp9 => k_is)
    (case hg10 => k_is)
    (case hl10 => k_is)
    (case hk10 => k_is)
    (case hp10 => k_is)
    (case hg11 => k_is)
    (case hl11 => k_is)
    (case hk11 => k_is)
    (case hp11 => k_is)
    (case hg12 => k_is)
    (case hl12 => k_is)
    (case hk12 => k_is)
    (case hp12 => k_is)
    (case hg13 => k_is)
    (case hl13 => k_is)
    (case hk13 => k_is)
    (case hp13 => k_is)
    (case hg14 => k_is)
    (case hl14 => k_is)
    (case hk14 => k_is)
    (case hp14 => k_is)
    (case hg15 => k_is)
    (case hl15 => k_is)
    (case hk15 => k_is)
    (case hp15 => k_is)
    (case hg16 => k_is)
    (case hl16 => k_is)
    (case hk16 => k_is)
    (case hp16 => k_is)
    (case hg17 => k_is)
    (case hl17 => k_is)
    (case hk17 => k_is)
    (case hp17 => k_is)
    (case hg18 => k_is)
    (case hl18 => k_is)
    (case hk18 => k_is)
    (case hp18 => k_is)
    (case hg19 => k_is)
    (case hl19 => k_is)
    (case hk19 => k_is)
    (case hp19 => k_is)
    (case hg20 => k_is)
    (case hl20 => k_is)
    (case hk20 => k_is)
    (case hp20 => k_is)
    (case hg21 => k_is)
    (case hl21 => k_is)
    (case hk21 => k_is)
    (case hp21 => k_is)
    (case hg22 => k_is)
    (case hl22 => k_is)
    (case hk22 => k_is)
    (case hp22 => k_is)
    (case hg23 => k_is)
    (case hl23 => k_is)
    (case hk23 => k_is)
    (case hp23 => k_is)
    (case hg24 => k_is)
    (case hl24 => k_is)
    (case hk24 => k_is)
    (case hp24 => k_is)
    (case hg25 => k_is)
    (case hl25 => k_is)
    (case hk25 => k_is)
    (case hp25 => k_is)
    (case hg26 => k_is)
    (case hl26 => k_is)
    (case hk26 => k_is)
    (case hp26 => k_is)
    (case hg27 => k_is)
    (case hl27 => k_is)
    (case hk27 => k_is)
    (case hp27 => k_is)
    (case hg28 => k_is)
    (case hl28 => k_is)
    (case hk28 => k_is)
    (case hp28 => k_is)
    (case hg29 => k_is)
    (case hl29 => k_is)
    (case hk29 => k_is)
    (case hp29 => k_is)
    (case hg30 => k_is)
    (case hl30 => k_is)
    (case hk30 => k_is)
    (case hp30 => k_is)
    (case kc_Sheet => k_is)
    (case pg_Sheet => k_is)
    (case hd_Sheet => k_is)
    (case po_Sheet => k_is)
    (case sa_Sheet => k_is)
    (case mk_Sheet => k_is)
    (case n_Sheet_rows => k_is)
    (case kc_Stages => k_is)
    (case pg_Stages => k_is)
    (case hd_Stages => k_is)
    (case po_Stages => k_is)
    (case sa_Stages => k_is)
    (case mk_Stages => k_is)
    (case n_Stages_sheet => k_is)
    (case n_Stages_places => k_is)
    (case z_bool => k_is)
    (case z_enumerate => k_is)
    (case z_int => k_is)
    (case z_isinstance => k_is)
    (case z_len => k_is)
    (case z_list => k_is)
    (case z_max => k_is)
    (case z_min => k_is)
    (case z_range => k_is)
    (case z_reversed => k_is)
    (case z_str => k_is)
    (case z_tuple => k_is)


