/-
  AN ABSTRACT MACHINE, part 17: what the walk rewrites with.
-/
import Derived.Test.YtjkmhjjfipnbbaaAbsp
namespace Go
namespace Abs
attribute [simp] nn1 RoundQ_exit RoundQ_ret W_skip W_ops W_segs W_seq W_cond W_block W_loop W_exit W_ret SeqQ_normal SeqQ_exit SeqQ_ret BlockQ_normal BlockQ_exit BlockQ_ret Wops_nil Wops_cons Wsegs_nil Wsegs_cons ActK_none ActK_some Wop_none Wop_some gdK_bool gdK_tup gdB_true gdB_false PutK_app putO_some putO_none stepP_some callP_some callvP_some condP_true condP_false stepK_call stepK_callv stepK_mov stepK_pick stepK_box stepK_zro stepK_load stepK_store stepK_bin stepK_un stepK_ext stepK_fadr stepK_iadr stepK_iadrA stepK_fld stepK_idx stepK_len stepK_app stepK_mk stepK_bsl stepK_bld stepK_fn stepK_mm stepK_nilc get_nil get_cons aev_tmp aev_int aev_bool aev_nil aev_func aevs astep initT boxable solid partA partP putP putA mkAgg allP PV.flat AV.flat PV.one Abs.isAgg asNat elems litBin litUn isNil AO.len AO.sz lay hpast calmA calmL calmP calmO AV.ren renL AO.ren viewL views view viewC frzL frzC Abs.put resT
end Abs
end Go
