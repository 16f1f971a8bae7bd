/- The order in which a walk is reckoned: operands first, what follows last. Its conditions: none. -/
import Derived.Test.YtekpbjiahlnknaaDoorVHApp
namespace Go.H
section
variable {P : Program} {K : Value → Heap → Prop} {h : Heap}
@[congr] theorem c_binH {op : BinOp} {t : TypeId} {x y : Operand} {v v' w w' : Value} (h1 : v = v') (h2 : w = w') : binH P op t x y v w K h = binH P op t x y v' w' K h := by rw [h1, h2]
@[congr] theorem c_unH {op : UnOp} {v v' : Value} (h1 : v = v') : unH P op v K h = unH P op v' K h := by rw [h1]
@[congr] theorem c_cvH {s t : TypeId} {v v' : Value} (h1 : v = v') : cvH P s t v K h = cvH P s t v' K h := by rw [h1]
@[congr] theorem c_nlH {v v' : Value} (h1 : v = v') : nlH P v K h = nlH P v' K h := by rw [h1]
@[congr] theorem c_ixH {t : TypeId} {v v' w w' : Value} (h1 : v = v') (h2 : w = w') : ixH P t v w K h = ixH P t v' w' K h := by rw [h1, h2]
@[congr] theorem c_elH {t : TypeId} {v v' w w' : Value} (h1 : v = v') (h2 : w = w') : elH P t v w K h = elH P t v' w' K h := by rw [h1, h2]
@[congr] theorem c_faH {t : TypeId} {i : Nat} {v v' : Value} (h1 : v = v') : faH P t i v K h = faH P t i v' K h := by rw [h1]
@[congr] theorem c_fdH {t : TypeId} {i : Nat} {v v' : Value} (h1 : v = v') : fdH P t i v K h = fdH P t i v' K h := by rw [h1]
@[congr] theorem c_xtH {i : Nat} {v v' : Value} (h1 : v = v') : xtH P v i K h = xtH P v' i K h := by rw [h1]
@[congr] theorem c_lnH {t : TypeId} {v v' : Value} (h1 : v = v') : lnH P t v K h = lnH P t v' K h := by rw [h1]
@[congr] theorem c_slH {t : TypeId} {v v' : Value} {a a' b b' c c' : Option Value} (h1 : v = v') (h2 : a = a') (h3 : b = b') (h4 : c = c') : slH P t v a b c K h = slH P t v' a' b' c' K h := by rw [h1, h2, h3, h4]
@[congr] theorem c_mkH {t : TypeId} {v v' w w' : Value} (h1 : v = v') (h2 : w = w') : mkH P t v w K h = mkH P t v' w' K h := by rw [h1, h2]
@[congr] theorem c_apH {t u : TypeId} {v v' w w' : Value} (h1 : v = v') (h2 : w = w') : apH P t u v w K h = apH P t u v' w' K h := by rw [h1, h2]
@[congr] theorem c_bdH {t : TypeId} {l l' : List (Nat × Value)} (h1 : l = l') : bdH P t l K h = bdH P t l' K h := by rw [h1]
@[congr] theorem c_bsH {t : TypeId} {n : Nat} {l l' : List (Nat × Value)} (h1 : l = l') : bsH P t n l K h = bsH P t n l' K h := by rw [h1]
@[congr] theorem c_pickH {a a' b b' c c' : Value} (h1 : a = a') (h2 : b = b') (h3 : c = c') : pickH a b c K h = pickH a' b' c' K h := by rw [h1, h2, h3]
@[congr] theorem c_ldH {t : TypeId} {v v' : Value} (h1 : v = v') : ldH P t v K h = ldH P t v' K h := by rw [h1]
@[congr] theorem c_stH {t : TypeId} {v v' w w' : Value} {K : Heap → Prop} (h1 : v = v') (h2 : w = w') : stH P t v w K h = stH P t v' w' K h := by rw [h1, h2]
@[congr] theorem c_oH {α : Type} {a b : Option α} {K : α → Prop} (h1 : a = b) : oH a K = oH b K := by rw [h1]
@[congr] theorem c_pH {a b : Value} {K : Addr → Prop} (h1 : a = b) : pH a K = pH b K := by rw [h1]
@[congr] theorem c_aH {a b : Value} {K : List Value → Prop} (h1 : a = b) : aH a K = aH b K := by rw [h1]
@[congr] theorem c_iH {a b : Value} {K : Int → Prop} (h1 : a = b) : iH a K = iH b K := by rw [h1]
@[congr] theorem c_bdv {a b : Value} {n m : Nat} {K : Nat → Prop} (h1 : a = b) (h2 : n = m) : bdv a n K = bdv b m K := by rw [h1, h2]
@[congr] theorem c_loopH {B : (Exit → Env → Heap → Prop) → Env → Heap → Prop} {Q : Exit → Env → Heap → Prop} {e e' : Env} (h1 : e = e') : loopH B Q e h = loopH B Q e' h := by rw [h1]
@[congr] theorem c_rQ {F G : (Value → Heap → Prop) → Heap → Prop} {D : Heap → Prop} {N : Value → Prop} (h1 : F = G) : rQ F D h N = rQ G D h N := by rw [h1]
/-- A choice that is not looked into till it is made. -/
def iteH (c A B : Prop) [Decidable c] : Prop := if c then A else B
theorem iteH_pos {c A B : Prop} [Decidable c] (h : c) : iteH c A B = A := if_pos h
theorem iteH_neg {c A B : Prop} [Decidable c] (h : ¬ c) : iteH c A B = B := if_neg h
end
attribute [go_sem ↓] op_move op_assign op_pick op_alloc op_box op_load op_store op_nil op_bin op_un op_cv op_ix op_el op_fa op_fd op_xt op_mkI op_len op_call' op_build op_buildSlice op_slice op_makeSlice op_append opsH_nil opsH_plain opsH_guard' iteG_tt iteG_tf iteG_ft iteG_ff boolV_bool oB_some yield_eq C_skip C_region C_draw C_seq C_cond C_block C_loop C_exit C_ret then_normal then_normal' then_exit then_ret block_normal block_normal' block_ret block_exit post_ret post_normal res_nil res_tmp res_cell tree_done tree_read tree_act tree_act2 guardO_none guardO_some' oH_some oH_none pH_some pickH_bool aH_agg iH_int nlH_ptr bin_add bin_sub bin_mul bin_quo bin_rem bin_lss bin_leq bin_gtr bin_geq bin_eql bin_neq bin_and bin_or bin_xor bin_shl bin_shr bin_eql_iface_nil bin_neq_iface_nil bin_eql_nil_nil bin_neq_nil_nil bin_eql_ptr_nil bin_neq_ptr_nil bin_eql_nilptr bin_neq_nilptr un_not un_neg un_xor cv_int ix_slice ix_array el_array fa_ptr fd_agg xt_tuple ln_slice ln_string sl_slice sl_string sl_array bd_eq bs_eq bdv_int cutH condH_true condH_false rQ_val rQ_and rQ_oH wr_cons rdH ldH stH
attribute [go_sem] rQ_val rQ_and rQ_oH
end Go.H
